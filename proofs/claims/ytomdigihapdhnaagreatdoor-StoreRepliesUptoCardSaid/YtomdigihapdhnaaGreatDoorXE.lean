/- Mem3, Mem4, StS, LdR, MapG, PMap, PaD, PaE, PaF, GZt, ZtA, ZtB, ZtC -/
import Derived.Test.YtomdigihapdhnaaGreatDoorXD
/- Rows whose elements take several cells. Generic over any program. -/
namespace Go.Proofs.YtomdigihapdhnaaGreatDoor.SL
open Go
set_option linter.unusedVariables false
set_option linter.unusedSimpArgs false
variable {P : Program} {B : World} {ro σ σ' : AH} {tag tag' : Nat → Nat}

theorem flat_len {w : Nat} : ∀ {l : List (List Value)}, (∀ x ∈ l, x.length = w) → l.flatten.length = l.length * w := by
  intro l
  induction l with
  | nil => intro _; simp
  | cons x l ih => intro h; rw [List.flatten_cons, List.length_append, h x (by simp), ih fun y hy => h y (by simp [hy]), List.length_cons, Nat.add_mul]; omega
theorem flat_get {w : Nat} : ∀ {l : List (List Value)}, (∀ x ∈ l, x.length = w) → ∀ {j : Nat} {x : List Value} {i : Nat}, l[j]? = some x → i < w → l.flatten[j * w + i]? = x[i]? := by
  intro l
  induction l with
  | nil => intro _ j x i h; cases h
  | cons y l ih =>
    intro h j x i hj hi
    rw [List.flatten_cons]
    have hy := h y (by simp)
    rcases j with _ | j
    · cases hj
      rw [Nat.zero_mul, Nat.zero_add, List.getElem?_append_left (by omega)]
    · rw [List.getElem?_append_right (by rw [hy, Nat.add_mul]; omega), hy, show (j + 1) * w + i - w = j * w + i by rw [Nat.add_mul]; omega]
      exact ih (fun z hz => h z (by simp [hz])) (by simpa using hj) hi
theorem flat_set {w : Nat} : ∀ {l : List (List Value)}, (∀ x ∈ l, x.length = w) → ∀ {j : Nat} {x : List Value} {i : Nat} (v : Value), l[j]? = some x → i < w → l.flatten.set (j * w + i) v = (l.set j (x.set i v)).flatten := by
  intro l
  induction l with
  | nil => intro _ j x i v h; cases h
  | cons y l ih =>
    intro h j x i v hj hi
    have hy := h y (by simp)
    rcases j with _ | j
    · cases hj
      rw [List.flatten_cons, Nat.zero_mul, Nat.zero_add, List.set_append_left _ _ (by omega)]; rfl
    · rw [List.flatten_cons, List.set_append_right _ _ (by rw [hy, Nat.add_mul]; omega), hy, show (j + 1) * w + i - w = j * w + i by rw [Nat.add_mul]; omega, ih (fun z hz => h z (by simp [hz])) v (by simpa using hj) hi]
      rfl

/-- a row of elements of w cells each, of one role -/
def RowW (tag : Nat → Nat) (σ : AH) (r : Nat) (e : TypeId) (w : Nat) (s : Sl) (l : List (List Value)) : Prop :=
  (s = ⟨none, 0, 0⟩ ∧ l = []) ∨ ∃ (b : Nat) (cs : Array Value), s.a = some ⟨b, 0, none⟩ ∧ tag b = r ∧ σ b = some (.cells cs e) ∧ s.len = l.length ∧ cs.size = s.cap * w ∧ s.len ≤ s.cap ∧ (∀ x ∈ l, x.length = w) ∧ ∀ (i : Nat) (v : Value), l.flatten[i]? = some v → cs[i]? = some v
theorem RowW.nil (r : Nat) (e : TypeId) (w : Nat) : RowW tag σ r e w ⟨none, 0, 0⟩ [] := .inl ⟨rfl, rfl⟩
theorem RowW.len {r : Nat} {e : TypeId} {w : Nat} {s : Sl} {l : List (List Value)} (h : RowW tag σ r e w s l) : s.len = l.length := by
  rcases h with ⟨rfl, rfl⟩ | ⟨b, cs, _, _, _, h, _⟩
  · rfl
  · exact h
theorem RowW.cap {r : Nat} {e : TypeId} {w : Nat} {s : Sl} {l : List (List Value)} (h : RowW tag σ r e w s l) : s.len ≤ s.cap := by
  rcases h with ⟨rfl, rfl⟩ | ⟨b, cs, _, _, _, _, _, h, _⟩
  · exact Nat.le_refl _
  · exact h
theorem RowW.wide {r : Nat} {e : TypeId} {w : Nat} {s : Sl} {l : List (List Value)} (h : RowW tag σ r e w s l) : ∀ x ∈ l, x.length = w := by
  rcases h with ⟨rfl, rfl⟩ | ⟨b, cs, _, _, _, _, _, _, h, _⟩
  · intro x hx; cases hx
  · exact h
theorem RowW.keep {R : List Nat} {r : Nat} {e : TypeId} {w : Nat} {s : Sl} {l : List (List Value)} (h : RowW tag σ r e w s l) (k : Step R ro tag σ tag' σ') (hr : r ∉ R) : RowW tag' σ' r e w s l := by
  rcases h with h | ⟨b, cs, ha, ht, hs, hx⟩
  · exact .inl h
  · obtain ⟨t, e⟩ := k.keep b _ hs (by rw [ht]; exact hr)
    exact .inr ⟨b, cs, ha, t.trans ht, e, hx⟩
theorem RowW.keepC {c r : Nat} {e : TypeId} {w : Nat} {s : Sl} {l : List (List Value)} (h : RowW tag σ r e w s l) (k : StepC c ro tag σ tag' σ') (hr : r % 64 ≠ c) : RowW tag' σ' r e w s l := by
  obtain ⟨R, h1, h2⟩ := k
  exact h.keep h2 fun m => hr (h1 _ m)
/-- what stands in an element -/
theorem RowW.get {r : Nat} {e : TypeId} {w : Nat} {s : Sl} {l : List (List Value)} (h : RowW tag σ r e w s l) (hs : Sep ro σ) {j : Nat} {x : List Value} (hj : l[j]? = some x) :
    ∃ b, s.a = some ⟨b, 0, none⟩ ∧ tag b = r ∧ ∀ i v, x[i]? = some v → acell ro σ ⟨b, j * w + i, none⟩ = some v := by
  rcases h with ⟨_, rfl⟩ | ⟨b, cs, ha, ht, hb, hln, hc, hle, hw, hg⟩
  · cases hj
  · refine ⟨b, ha, ht, fun i v hv => ?_⟩
    have hx : x.length = w := hw x (List.mem_of_getElem? hj)
    have hi : i < w := by
      rcases Nat.lt_or_ge i w with h | h
      · exact h
      · rw [List.getElem?_eq_none (by omega)] at hv; cases hv
    have := hg (j * w + i) v (by rw [flat_get hw hj hi]; exact hv)
    unfold acell rd
    simp only [hs b _ hb, hb, cellOf]
    exact this
theorem RowW.block {r : Nat} {e : TypeId} {w : Nat} {b n c : Nat} {l : List (List Value)} (h : RowW tag σ r e w ⟨some ⟨b, 0, none⟩, n, c⟩ l) : tag b = r ∧ ∃ cs, σ b = some (.cells cs e) ∧ cs.size = c * w := by
  rcases h with ⟨h, _⟩ | ⟨b', cs, ha, ht, hb, _, hc, _⟩
  · cases h
  · cases ha; exact ⟨ht, cs, hb, hc⟩
/-- a cell of an element anew -/
theorem RowW.st {r : Nat} {e : TypeId} {w : Nat} {s : Sl} {l : List (List Value)} {b j i : Nat} {x : List Value} {v : Value} {K : AH → Prop} (h : RowW tag σ r e w s l) (hs : Sep ro σ) (ha : s.a = some ⟨b, 0, none⟩) (hj : l[j]? = some x) (hi : i < w) (hv : storable v = true)
    (hK : ∀ σ', Step [r] ro tag σ tag σ' → RowW tag σ' r e w s (l.set j (x.set i v)) → K σ') : stN ⟨b, j * w + i, none⟩ K [v] 0 σ := by
  rcases h with ⟨_, rfl⟩ | ⟨b', cs, ha', ht, hb, hln, hc, hle, hw, hg⟩
  · cases hj
  · rw [ha] at ha'; cases ha'
    have hjl : j < l.length := by
      rcases Nat.lt_or_ge j l.length with h | h
      · exact h
      · rw [List.getElem?_eq_none h] at hj; cases hj
    have hlt : j * w + i < cs.size := by
      rw [hc]
      have : (j + 1) * w ≤ s.cap * w := Nat.mul_le_mul_right _ (by omega)
      rw [Nat.add_mul] at this; omega
    have hfl := flat_len hw
    have hfi : j * w + i < l.flatten.length := by
      rw [hfl]
      have : (j + 1) * w ≤ l.length * w := Nat.mul_le_mul_right _ (by omega)
      rw [Nat.add_mul] at this; omega
    refine ⟨hv, by simp, cs, e, (0, 0), by simpa using hb, by simpa using hlt, by simp, ?_⟩
    simp only [add_zero, stN]
    refine hK _ (step_obj hs ht hb) (.inr ⟨b, _, ha, ht, upd_same _ _ _, by simp [hln], by simp [hc], hle, ?_, ?_⟩)
    · intro y hy
      rcases List.mem_or_eq_of_mem_set hy with h | h
      · exact hw y h
      · rw [h, List.length_set]; exact hw x (List.mem_of_getElem? hj)
    · intro k u hk
      rw [← flat_set hw v hj hi] at hk
      by_cases hkj : j * w + i = k
      · subst hkj
        rw [List.getElem?_set_self hfi] at hk
        rw [Array.getElem?_setIfInBounds_self_of_lt hlt]; exact hk
      · rw [List.getElem?_set_ne hkj] at hk
        rw [Array.getElem?_setIfInBounds_ne hkj]; exact hg k u hk

/-- elements of w cells in memory, wherever -/
def ReadW (ro σ : AH) (w : Nat) (s : Sl) (l : List (List Value)) : Prop := s.len = l.length ∧ (s.a = none → l = []) ∧ (∀ x ∈ l, x.length = w) ∧ ∀ p, s.a = some p → ∀ (i : Nat) (v : Value), l.flatten[i]? = some v → acell ro σ (p.add i) = some v
theorem RowW.read {r : Nat} {e : TypeId} {w : Nat} {s : Sl} {l : List (List Value)} (h : RowW tag σ r e w s l) (hs : Sep ro σ) : ReadW ro σ w s l := by
  refine ⟨h.len, fun hn => ?_, h.wide, fun p hp i v hv => ?_⟩
  · rcases h with ⟨_, rfl⟩ | ⟨b, cs, ha, _⟩
    · rfl
    · rw [hn] at ha; cases ha
  · rcases h with ⟨_, rfl⟩ | ⟨b, cs, ha, ht, hb, _, _, _, _, hg⟩
    · cases hv
    · rw [hp] at ha; cases ha
      unfold acell rd
      simp only [add_add, Nat.zero_add, hs b _ hb, hb, cellOf]
      exact hg i v hv
theorem ReadW.flat {w : Nat} {s : Sl} {l : List (List Value)} (h : ReadW ro σ w s l) : l.flatten.length = s.len * w := by rw [flat_len h.2.2.1, h.1]
theorem ReadW.keep {w : Nat} {s : Sl} {l : List (List Value)} (h : ReadW ro (fun _ => none) w s l) : ReadW ro σ w s l := by
  refine ⟨h.1, h.2.1, h.2.2.1, fun p hp i v hv => ?_⟩
  have := h.2.2.2 p hp i v hv
  unfold acell rd at this ⊢
  cases e : ro (p.add i).block with
  | some o => rw [e] at this; exact this
  | none => rw [e] at this; simp [cellOf] at this
theorem ReadW.step {w : Nat} {s : Sl} {l : List (List Value)} (h : ReadW ro σ w s l) (k : Step [] ro tag σ tag' σ') : ReadW ro σ' w s l := by
  refine ⟨h.1, h.2.1, h.2.2.1, fun p hp i v hv => ?_⟩
  have := h.2.2.2 p hp i v hv
  unfold acell rd at this ⊢
  cases e : ro (p.add i).block with
  | some o => rw [e] at this; exact this
  | none =>
    rw [e] at this
    simp only at this ⊢
    cases e2 : σ (p.add i).block with
    | none => rw [e2] at this; simp [cellOf] at this
    | some o => rw [(k.keep _ o e2 (by simp)).2]; rw [e2] at this; exact this

theorem awp_appendW {r : Nat} {e t : TypeId} {w : Nat} {s s2 : Sl} {l l2 : List (List Value)} {zv : Value} {bytes : Nat} {ty : TypeId} {Q : Value → AH → Prop} (h : RowW tag σ r e w s l) (hs : Sep ro σ) (h2 : ReadW ro σ w s2 l2)
    (ht : P.underlying t = some (.slice e)) (hz : TyIs P e zv w bytes) (hzc : zv.cells.size = w) (hv : ∀ x ∈ l2, ∀ v ∈ x, storable v = true) (hb : (l.length + l2.length) * bytes ≤ 140737488355328) (hb0 : 0 < bytes)
    (hK : ∀ s' tag' σ', (∀ R, s.len = s.cap ∨ r ∈ R → Step R ro tag σ tag' σ') → RowW tag' σ' r e w s' (l ++ l2) → Q (Sl.v s') σ') :
    awp P ro (Builtin.append_ #[t, t] ty #[Sl.v s, Sl.v s2]) Q σ := by
  obtain ⟨i, hi, hiz, his, hib⟩ := hz
  have hz : TyIs P e zv w bytes := ⟨i, hi, hiz, his, hib⟩
  have g0 : (#[t, t] : Array TypeId)[0]? = some t := rfl
  have g1 : (#[t, t] : Array TypeId)[1]? = some t := rfl
  have g2 : (#[Value.slice s.a s.len s.cap, Value.slice s2.a s2.len s2.cap] : Array Value)[0]? = some (Value.slice s.a s.len s.cap) := rfl
  have g3 : (#[Value.slice s.a s.len s.cap, Value.slice s2.a s2.len s2.cap] : Array Value)[1]? = some (Value.slice s2.a s2.len s2.cap) := rfl
  have hln := h2.1
  have hfl2 := h2.flat
  have hvf : ∀ v ∈ l2.flatten, storable v = true := fun v hm => by
    obtain ⟨x, hx, hm⟩ := List.mem_flatten.1 hm
    exact hv x hx v hm
  have hld : ∀ {β : Type} (f : Array Value → Sem β) (Q : β → AH → Prop), awp P ro (f l2.flatten.toArray) Q σ → awp P ro (Sem.bind (Builtin.firstCells w s2.len (.slice s2.a s2.len s2.cap)) f) Q σ := by
    intro β f Q hf
    cases hsa : s2.a with
    | none =>
      rw [h2.2.1 hsa] at hf
      exact hf
    | some p =>
      rw [show Sem.bind (Builtin.firstCells w s2.len (.slice (some p) s2.len s2.cap)) f = (loadCells p (s2.len * w)) >>= f from rfl, awp_bind, ← hfl2]
      exact awp_loadCells l2.flatten 0 #[] (cellsAt_of 0 fun j v hj => by rw [Nat.zero_add]; exact h2.2.2.2 p hsa j v hj) (by simpa using hf)
  have hfs : ∀ {β : Type} (f : Array Value → Sem β) (Q : β → AH → Prop), awp P ro (f l.flatten.toArray) Q σ → awp P ro (Sem.bind (Builtin.firstCells w s.len (.slice s.a s.len s.cap)) f) Q σ := by
    intro β f Q hf
    have hr := h.read hs
    cases hsa : s.a with
    | none =>
      rw [hr.2.1 hsa] at hf
      exact hf
    | some p =>
      rw [show Sem.bind (Builtin.firstCells w s.len (.slice (some p) s.len s.cap)) f = (loadCells p (s.len * w)) >>= f from rfl, awp_bind, ← hr.flat]
      exact awp_loadCells l.flatten 0 #[] (cellsAt_of 0 fun j v hj => by rw [Nat.zero_add]; exact hr.2.2.2 p hsa j v hj) (by simpa using hf)
  have hwide : ∀ x ∈ l ++ l2, x.length = w := fun x hx => by
    rcases List.mem_append.1 hx with h' | h'
    · exact h.wide x h'
    · exact h2.2.2.1 x h'
  have hfl := flat_len h.wide
  unfold Builtin.append_
  simp only [Sl.v, bind_def, pure_def, g0, g1, g2, g3]
  rw [awp_underlying ht]
  simp only []
  rw [awp_size hz]
  rw [awp_underlying ht]
  simp only [bind_pure', Builtin.lenOf, bind_def, pure_def, Bool.false_eq_true, if_false, Bool.not_false, if_true, false_or]
  split
  · rename_i hroom
    refine hld _ _ ?_
    rcases h with ⟨rfl, rfl⟩ | ⟨b, cs, ha, htg, hbk, hln1, hcp, hle, hwl, hg⟩
    · have h0 : l2 = [] := List.eq_nil_of_length_eq_zero (by simp at hroom; omega)
      subst h0
      have hs2 : s2.len = 0 := hln
      show Q (.slice none (0 + s2.len) 0) σ
      rw [hs2]
      exact hK ⟨none, 0, 0⟩ tag σ (fun _ _ => Step.refl hs) (.inl ⟨rfl, rfl⟩)
    · have h' : RowW tag σ r e w s l := .inr ⟨b, cs, ha, htg, hbk, hln1, hcp, hle, hwl, hg⟩
      by_cases h0 : l2 = []
      · subst h0
        have hs2 : s2.len = 0 := hln
        simp only [ha]
        show Q (Value.slice (some ⟨b, 0, none⟩) (s.len + s2.len) s.cap) σ
        rw [hs2, Nat.add_zero]
        have := hK s tag σ (fun _ _ => Step.refl hs) (by rw [List.append_nil]; exact h')
        unfold Sl.v at this
        rw [ha] at this; exact this
      have hpos := List.length_pos_iff.2 h0
      simp only [ha]
      show awp P ro (storeCells (Addr.add ⟨b, 0, none⟩ (s.len * w)) l2.flatten >>= fun _ => Sem.pure (Value.slice (some ⟨b, 0, none⟩) (s.len + s2.len) s.cap)) Q σ
      rw [awp_bind, add_add, Nat.zero_add]
      have hcm : (s.len + s2.len) * w ≤ s.cap * w := Nat.mul_le_mul_right _ hroom
      rw [Nat.add_mul] at hcm
      refine awp_storeCells l2.flatten 0 σ (stN_blk l2.flatten cs 0 σ hbk (by rw [hcp, hfl2]; omega) hvf fun cs' c1 c2 c3 => ?_)
      show Q (Value.slice (some ⟨b, 0, none⟩) (s.len + s2.len) s.cap) _
      refine hK ⟨some ⟨b, 0, none⟩, s.len + s2.len, s.cap⟩ tag _ (fun R hR => (step_obj hs htg hbk).mono fun x hx => by rw [List.mem_singleton] at hx; rw [hx]; exact hR.resolve_left (by omega)) (.inr ⟨b, cs', rfl, htg, upd_same _ _ _, by simp [hln1, hln], by rw [c1]; exact hcp, hroom, hwide, fun i v hi => ?_⟩)
      rw [List.flatten_append] at hi
      rcases Nat.lt_or_ge i l.flatten.length with hh | hh
      · rw [List.getElem?_append_left hh] at hi
        rw [c2 i (by rw [hfl, ← hln1] at hh; omega)]; exact hg i v hi
      · rw [List.getElem?_append_right hh] at hi
        have := c3 (i - l.flatten.length) v hi
        rw [← this]
        congr 1; rw [hfl, ← hln1] at hh ⊢; omega
  · rename_i hroom
    rw [awp_typeInfo hi]
    rw [if_neg (by rw [hib]; omega)]
    rw [awp_typeInfo hi]
    have hl := h.len
    rw [if_neg (by rw [hib]; have := growslice_fits (need := s.len + s2.len) (old := s.cap) (bytes := bytes) (by omega) (by rw [hl, hln]; exact hb); omega)]
    refine awp_choose rfl (fun n => ?_)
    rw [awp_typeInfo hi]
    refine awp_askRoom ?_
    have hcut : s.len + s2.len ≤ (Question.appendCap (s.len + s2.len) s.cap e).cut n := by simp only [Question.cut]; omega
    generalize (Question.appendCap (s.len + s2.len) s.cap e).cut n = N at hcut
    refine hfs _ _ ?_
    refine hld _ _ ?_
    rw [awp_zero hz]
    show ∀ b, ro b = none → σ b = none → Q (Value.slice (some ⟨b, 0, none⟩) (s.len + s2.len) N) (upd σ b _)
    intro b hro hb
    refine hK ⟨some ⟨b, 0, none⟩, s.len + s2.len, N⟩ (setTag tag b r) _ (fun _ _ => Step.fresh hs hro hb) (.inr ⟨b, _, rfl, by simp [setTag], upd_same _ _ _, by simp [hl, hln], ?_, hcut, hwide, fun i v hi => ?_⟩)
    · have e1 : (Builtin.zeroCells zv.cells (N - (s.len + s2.len))).size = (N - (s.len + s2.len)) * w := by simp [Builtin.zeroCells, hzc]
      rw [Array.size_append, Array.size_append, e1, List.size_toArray, List.size_toArray, hfl2, hfl, ← hl, ← Nat.add_mul, ← Nat.add_mul]
      congr 1; simp only; omega
    · rw [List.flatten_append] at hi
      have hlt : i < (l.flatten ++ l2.flatten).length := by
        rcases Nat.lt_or_ge i (l.flatten ++ l2.flatten).length with h | h
        · exact h
        · rw [List.getElem?_eq_none h] at hi; cases hi
      rw [Array.getElem?_append_left (by simpa using hlt)]
      simpa using hi
end Go.Proofs.YtomdigihapdhnaaGreatDoor.SL

/- Builtin copy, cap; a row that is made longer in its own room. Generic over any program. -/
namespace Go.Proofs.YtomdigihapdhnaaGreatDoor.SL
open Go
set_option linter.unusedVariables false
set_option linter.unusedSimpArgs false
variable {P : Program} {B : World} {ro σ σ' : AH} {tag tag' : Nat → Nat}

theorem awp_cap {t e ty : TypeId} {s : Sl} {Q : Value → AH → Prop} (ht : P.underlying t = some (.slice e)) (h : Q (.int .i64 (s.cap : Int)) σ) : awp P ro (Builtin.cap_ #[t] ty #[Sl.v s]) Q σ := by
  have g0 : (#[t] : Array TypeId)[0]? = some t := rfl
  have g1 : (#[Value.slice s.a s.len s.cap] : Array Value)[0]? = some (Value.slice s.a s.len s.cap) := rfl
  unfold Builtin.cap_
  simp only [Sl.v, bind_def, pure_def, g0, g1]
  rw [awp_underlying ht]
  exact h
/-- what copy and append read -/
structure Src (P : Program) (ro σ : AH) (x : Value) (l : List Value) : Prop where
  len : ∀ {β : Type} (f : Nat → Sem β) (Q : β → AH → Prop), awp P ro (f l.length) Q σ → awp P ro (Sem.bind (Builtin.lenOf x) f) Q σ
  cells : ∀ {β : Type} (f : Array Value → Sem β) (Q : β → AH → Prop), awp P ro (f l.toArray) Q σ → awp P ro (Sem.bind (Builtin.firstCells 1 l.length x) f) Q σ
theorem Read.src {s : Sl} {l : List Value} (h : Read ro σ s l) : Src P ro σ (Sl.v s) l := by
  refine ⟨fun f Q hf => ?_, fun f Q hf => ?_⟩
  · rw [← h.1] at hf; exact hf
  · unfold Sl.v
    cases hsa : s.a with
    | none =>
      rw [h.2.1 hsa] at hf ⊢
      exact hf
    | some p =>
      rw [show Sem.bind (Builtin.firstCells 1 l.length (.slice (some p) s.len s.cap)) f = (loadCells p (l.length * 1)) >>= f from rfl, awp_bind, Nat.mul_one]
      exact awp_loadCells l 0 #[] (cellsAt_of 0 fun j v hj => by rw [Nat.zero_add]; exact h.2.2 p hsa j v hj) (by simpa using hf)
theorem str_src (b : ByteArray) : Src P ro σ (.string b) ((L b).map fun c => .int .u8 c.toNat) := by
  refine ⟨fun f Q hf => ?_, fun f Q hf => ?_⟩
  · rw [List.length_map, L_len] at hf; exact hf
  · rw [List.length_map, L_len]
    show awp P ro (f ((b.extract 0 b.size).data.map fun c => .int .u8 c.toNat)) Q σ
    rw [show b.extract 0 b.size = b from by rw [S_ext, List.take_of_length_le (by rw [L_len]; exact Nat.le_refl _)]; exact S_L b]
    have e : ((L b).map fun c => Value.int .u8 c.toNat).toArray = b.data.map fun c => .int .u8 c.toNat := by unfold L; rw [← Array.toList_map]
    rw [← e]; exact hf
/-- copy into the end of a row, filling it -/
theorem awp_copyTail {r e t t2 ty : TypeId} {s : Sl} {l l2 : List Value} {m bytes : Nat} {x zv : Value} {Q : Value → AH → Prop} (h : Row tag σ r e s l) (hs : Sep ro σ) (ht : P.underlying t = some (.slice e)) (hz : TyIs P e zv 1 bytes)
    (hx : Src P ro σ x l2) (hm : m + l2.length = l.length) (hv : ∀ v ∈ l2, storable v = true) (hQ : ∀ σ', Step [r] ro tag σ tag σ' → Row tag σ' r e s (l.take m ++ l2) → Q (.int .i64 (l2.length : Int)) σ') :
    awp P ro (Builtin.copy_ #[t, t2] ty #[Sl.v (⟨cutA s.a m s.cap 1, s.len - m, s.cap - m⟩ : Sl), x]) Q σ := by
  have g0 : (#[t, t2] : Array TypeId)[0]? = some t := rfl
  have g1 : (#[Value.slice (cutA s.a m s.cap 1) (s.len - m) (s.cap - m), x] : Array Value)[0]? = some (Value.slice (cutA s.a m s.cap 1) (s.len - m) (s.cap - m)) := rfl
  have g2 : (#[Value.slice (cutA s.a m s.cap 1) (s.len - m) (s.cap - m), x] : Array Value)[1]? = some x := rfl
  have hl := h.len
  unfold Builtin.copy_
  simp only [Sl.v, bind_def, pure_def, g0, g1, g2]
  rw [awp_underlying ht]
  simp only []
  refine hx.len _ _ ?_
  rw [awp_size hz]
  rw [show Nat.min l2.length (s.len - m) = l2.length from Nat.min_eq_left (by omega)]
  refine hx.cells _ _ ?_
  have done : l2 = [] → Q (.int .i64 (l2.length : Int)) σ := fun e0 => hQ σ (Step.refl hs) (by
    rw [e0, List.append_nil, List.take_of_length_le (by rw [e0] at hm; simp at hm; omega)]; exact h)
  rcases h with ⟨rfl, rfl⟩ | ⟨b, cs, ha, htg, hbk, hln, hcp, hle, hg⟩
  · have h0 : l2 = [] := List.eq_nil_of_length_eq_zero (by simp only [List.length_nil] at hm; omega)
    rw [show cutA none m 0 1 = none from by unfold cutA; split <;> rfl]
    exact done h0
  · by_cases h0 : l2 = []
    · unfold cutA
      have := done h0
      subst h0
      split
      · exact this
      · exact this
    · have hpos := List.length_pos_iff.2 h0
      unfold cutA
      rw [if_neg (by omega), ha]
      simp only [Option.map_some, Nat.mul_one, add_add, Nat.zero_add]
      show awp P ro (storeCells ⟨b, m, none⟩ l2 >>= fun _ => Sem.pure (goInt l2.length)) Q σ
      rw [awp_bind]
      refine awp_storeCells l2 0 σ (stN_blk l2 cs 0 σ hbk (by omega) hv fun cs' c1 c2 c3 => ?_)
      refine hQ _ (step_obj hs htg hbk) (.inr ⟨b, cs', ha, htg, upd_same _ _ _, by simp; omega, by rw [c1]; exact hcp, hle, fun i hi => ?_⟩)
      simp at hi
      rcases Nat.lt_or_ge i m with hh | hh
      · rw [c2 i (by omega), List.getElem?_append_left (by simp; omega), List.getElem?_take, if_pos hh]; exact hg i (by omega)
      · have e1 : (l.take m).length = m := by simp; omega
        rw [List.getElem?_append_right (by omega), e1]
        have := c3 (i - m) _ (List.getElem?_eq_getElem (by omega))
        rw [List.getElem?_eq_getElem (by omega), ← this]
        congr 1; omega
/-- a row is longer now, in its own room: what stands there is something -/
theorem Row.more {r : Nat} {e : TypeId} {s : Sl} {l : List Value} (h : Row tag σ r e s l) {n : Nat} (hn : l.length + n ≤ s.cap) : ∃ xs : List Value, xs.length = n ∧ Row tag σ r e ⟨s.a, l.length + n, s.cap⟩ (l ++ xs) := by
  rcases h with ⟨rfl, rfl⟩ | ⟨b, cs, ha, htg, hbk, hln, hcp, hle, hg⟩
  · have : n = 0 := by simpa using hn
    subst this
    exact ⟨[], rfl, .inl ⟨rfl, rfl⟩⟩
  · refine ⟨(cs.toList.drop l.length).take n, by simp; omega, .inr ⟨b, cs, ha, htg, hbk, by simp; omega, hcp, hn, fun i hi => ?_⟩⟩
    rcases Nat.lt_or_ge i l.length with h1 | h1
    · rw [List.getElem?_append_left h1]; exact hg i h1
    · simp at hi
      rw [List.getElem?_append_right h1, List.getElem?_take, if_pos (by omega), List.getElem?_drop]
      simp only [Array.getElem?_toList]
      congr 1; omega
theorem Row.capAt {r : Nat} {e : TypeId} {s : Sl} {l : List Value} (h : Row tag σ r e s l) : l.length ≤ s.cap := by
  rcases h with ⟨rfl, rfl⟩ | ⟨b, cs, ha, htg, hbk, hln, hcp, hle, hg⟩
  · simp
  · omega
theorem cutA_zero (a : Option Addr) (c s : Nat) : cutA a 0 c s = a := by
  unfold cutA; split
  · rfl
  · cases a <;> simp [Nat.zero_mul, add_zero]
end Go.Proofs.YtomdigihapdhnaaGreatDoor.SL

/- Steps that change blocks of several classes of roles. Generic over any program. -/
namespace Go.Proofs.YtomdigihapdhnaaGreatDoor.SL
open Go
set_option linter.unusedVariables false
variable {P : Program} {B : World} {ro σ σ' : AH} {tag tag' : Nat → Nat}
def StepS (C : List Nat) (ro : AH) (tag : Nat → Nat) (σ : AH) (tag' : Nat → Nat) (σ' : AH) : Prop := ∃ R : List Nat, (∀ x ∈ R, x % 64 ∈ C) ∧ Step R ro tag σ tag' σ'
theorem Step.s {C R : List Nat} (h : Step R ro tag σ tag' σ') (hR : ∀ x ∈ R, x % 64 ∈ C) : StepS C ro tag σ tag' σ' := ⟨R, hR, h⟩
theorem StepC.s {C : List Nat} {c : Nat} (h : StepC c ro tag σ tag' σ') (hc : c ∈ C) : StepS C ro tag σ tag' σ' := by
  obtain ⟨R, h1, h2⟩ := h
  exact ⟨R, fun x hx => by rw [h1 x hx]; exact hc, h2⟩
theorem StepS.sep {C : List Nat} (h : StepS C ro tag σ tag' σ') : Sep ro σ' := by obtain ⟨_, _, h⟩ := h; exact h.sep
theorem StepS.refl {C : List Nat} (h : Sep ro σ) : StepS C ro tag σ tag σ := ⟨[], by simp, Step.refl h⟩
theorem StepS.trans {C : List Nat} {tag'' : Nat → Nat} {σ'' : AH} (h : StepS C ro tag σ tag' σ') (k : StepS C ro tag' σ' tag'' σ'') : StepS C ro tag σ tag'' σ'' := by
  obtain ⟨R, h1, h2⟩ := h
  obtain ⟨R', k1, k2⟩ := k
  refine ⟨R ++ R', fun x hx => ?_, (h2.mono fun r hr => by simp [hr]).trans (k2.mono fun r hr => by simp [hr])⟩
  rcases List.mem_append.1 hx with h | h
  · exact h1 x h
  · exact k1 x h
theorem StepS.mono {C D : List Nat} (h : StepS C ro tag σ tag' σ') (hd : ∀ c ∈ C, c ∈ D) : StepS D ro tag σ tag' σ' := by
  obtain ⟨R, h1, h2⟩ := h
  exact ⟨R, fun x hx => hd _ (h1 x hx), h2⟩
theorem Row.keepS {C : List Nat} {r : Nat} {e : TypeId} {s : Sl} {l : List Value} (h : Row tag σ r e s l) (k : StepS C ro tag σ tag' σ') (hr : r % 64 ∉ C) : Row tag' σ' r e s l := by
  obtain ⟨R, h1, h2⟩ := k
  exact h.keep h2 fun m => hr (h1 _ m)
theorem StepS.back {C : List Nat} {b : Nat} {τ : AH} (h : StepS C (join ro (one σ b)) tag (del σ b) tag' τ) (hs : Sep ro σ) (hd : Disj (one σ b) τ) (hb : ∃ o, σ b = some o) : StepS C ro tag σ (setTag tag' b (tag b)) (join (one σ b) τ) := by
  obtain ⟨R, h1, h2⟩ := h
  exact ⟨R, h1, h2.back hs hd hb⟩
end Go.Proofs.YtomdigihapdhnaaGreatDoor.SL

/- All blocks of some roles are lent. Generic over any program. -/
namespace Go.Proofs.YtomdigihapdhnaaGreatDoor.SL
open Go
set_option linter.unusedVariables false
variable {P : Program} {B : World} {ro σ σ' : AH} {tag tag' : Nat → Nat}
def inR (tag : Nat → Nat) (L : List Nat) (σ : AH) : AH := fun c => if tag c ∈ L then σ c else none
def tagB (tag tag1 : Nat → Nat) (L : List Nat) (σ : AH) : Nat → Nat := fun c => if (inR tag L σ c).isSome then tag c else tag1 c
variable {L : List Nat}
end Go.Proofs.YtomdigihapdhnaaGreatDoor.SL

/- Maps whose keys are of any kind: what look-ups, stores, deletes and ranges do to the list of pairs that a map holds. Generic over any program. -/
namespace Go.Proofs.YtomdigihapdhnaaGreatDoor.SL
open Go
set_option linter.unusedSimpArgs false
set_option linter.unusedVariables false
set_option linter.unusedSectionVars false
variable {P : Program} {B : World} {ro σ σ' : AH} {tag tag' : Nat → Nat} {κ : Type} [DecidableEq κ] {enc : κ → Value}

section
variable {α : Type}
def gput : List (κ × α) → κ → α → List (κ × α)
  | [], k, v => [(k, v)]
  | (k', v') :: r, k, v => if k = k' then (k, v) :: r else (k', v') :: gput r k v
def gdel : List (κ × α) → κ → List (κ × α)
  | [], _ => []
  | (k', v') :: r, k => if k = k' then r else (k', v') :: gdel r k
def glook : List (κ × α) → κ → Option α
  | [], _ => none
  | (k', v') :: r, k => if k = k' then some v' else glook r k
end
def pairG (enc : κ → Value) (p : κ × Value) : Value × Value := (enc p.1, p.2)
def gfind (k : κ) : List (κ × Value) → Nat → Option (Nat × Value)
  | [], _ => none
  | p :: m, i => if k = p.1 then some (i, p.2) else gfind k m (i + 1)
/-- a kind of keys -/
structure KeyT (P : Program) (kt : TypeId) (enc : κ → Value) : Prop where
  check : ∀ {ro σ : AH} {β : Type} {em : Bool} {k : κ} {f : Unit → Sem β} {K : β → AH → Prop}, awp P ro (f ()) K σ → awp P ro (Sem.bind (Instr.checkKey em 10000 kt (enc k)) f) K σ
  find : ∀ {ro σ : AH} {β : Type} {k : κ} {l : List MapEntry} {m : List (κ × Value)} {f : Option (Nat × Value) → Sem β} {K : β → AH → Prop}, l.map entV = m.map (pairG enc) → awp P ro (f (gfind k m 0)) K σ → awp P ro (Sem.bind (Instr.findKey kt (enc k) l) f) K σ
  stays : ∀ k, Instr.keyThatStays (enc k) (enc k) = Sem.pure (enc k)
structure MapG (enc : κ → Value) (tag : Nat → Nat) (σ : AH) (r b : Nat) (m : List (κ × Value)) : Prop where
  tg : tag b = r
  obj : ∃ es clock, σ b = some (.map es clock) ∧ es.toList.map entV = m.map (pairG enc) ∧ Born es clock

theorem MapG.keep {R : List Nat} {r b : Nat} {m : List (κ × Value)} (h : MapG enc tag σ r b m) (k : Step R ro tag σ tag' σ') (hr : r ∉ R) : MapG enc tag' σ' r b m := by
  obtain ⟨es, c, hb, hx⟩ := h.obj
  obtain ⟨t, e⟩ := k.keep b _ hb (by rw [h.tg]; exact hr)
  exact ⟨t.trans h.tg, es, c, e, hx⟩
theorem MapG.keepS {C : List Nat} {r b : Nat} {m : List (κ × Value)} (h : MapG enc tag σ r b m) (k : StepS C ro tag σ tag' σ') (hr : r % 64 ∉ C) : MapG enc tag' σ' r b m := by
  obtain ⟨R, h1, h2⟩ := k
  exact h.keep h2 fun m => hr (h1 _ m)
theorem gfind_spec (k : κ) : ∀ (m : List (κ × Value)) (i : Nat),
    (glook m k = none ∧ gdel m k = m ∧ (∀ v, gput m k v = m ++ [(k, v)]) ∧ gfind k m i = none) ∨
    ∃ j v, j < m.length ∧ glook m k = some v ∧ gfind k m i = some (i + j, v) ∧ m[j]? = some (k, v) ∧ (∀ v', gput m k v' = m.set j (k, v')) ∧ gdel m k = m.eraseIdx j := by
  intro m
  induction m with
  | nil => intro i; exact .inl ⟨rfl, rfl, fun _ => rfl, rfl⟩
  | cons p m ih =>
    intro i
    obtain ⟨pk, pv⟩ := p
    by_cases c : k = pk
    · subst c
      exact .inr ⟨0, pv, by simp, by simp [glook], by simp [gfind], rfl, fun v' => by simp [gput], by simp [gdel]⟩
    · rcases ih (i + 1) with ⟨a, b, d, f⟩ | ⟨j, v, hj, a, f, g, q, w⟩
      · exact .inl ⟨by simp [glook, c, a], by simp [gdel, c, b], fun v => by simp [gput, c, d], by simp [gfind, c, f]⟩
      · exact .inr ⟨j + 1, v, by simp; omega, by simp [glook, c, a], by simp [gfind, c]; rw [f]; congr 2; omega, by simpa using g, fun v' => by simp [gput, c, q], by simp [gdel, c, w]⟩

theorem awp_lookupG0 {t kt et : TypeId} {zv : Value} {n bt r b : Nat} {m : List (κ × Value)} {k : κ} {ok : Bool} {K : Value → AH → Prop} (hm : MapG enc tag σ r b m) (hs : Sep ro σ) (ht : P.underlying t = some (.map kt et)) (hk : KeyT P kt enc) (hz : TyIs P et zv n bt)
    (hK : K (if ok then .tuple #[(glook m k).getD zv, .bool (glook m k).isSome] else (glook m k).getD zv) σ) : awp P ro (Instr.lookup t (.map (some b)) (enc k) ok) K σ := by
  obtain ⟨es, clock, hb, he, hbn⟩ := hm.obj
  unfold Instr.lookup
  simp only [bind_def]
  rw [awp_underlying ht]
  simp only [bind_assoc']
  refine ⟨.map es clock, by unfold rd; rw [hs b _ hb]; exact hb, rfl, ?_⟩
  refine hk.check ?_
  refine hk.find he ?_
  rcases gfind_spec k m 0 with ⟨a, _, _, f⟩ | ⟨j, v, hj, a, f, _⟩
  · rw [f]
    simp only [bind_assoc']
    rw [awp_zero hz]
    rw [a] at hK
    exact hK
  · rw [f]
    rw [a] at hK
    exact hK
theorem awp_lookupG {t kt et : TypeId} {zv : Value} {n bt r b : Nat} {m : List (κ × Value)} {k : κ} {K : Value → AH → Prop} (hm : MapG enc tag σ r b m) (hs : Sep ro σ) (ht : P.underlying t = some (.map kt et)) (hk : KeyT P kt enc) (hz : TyIs P et zv n bt)
    (hK : K ((glook m k).getD zv) σ) : awp P ro (Instr.lookup t (.map (some b)) (enc k) false) K σ := awp_lookupG0 hm hs ht hk hz hK
theorem awp_updateG {t kt et : TypeId} {r b : Nat} {m : List (κ × Value)} {k : κ} {v : Value} {K : Unit → AH → Prop} (hm : MapG enc tag σ r b m) (hs : Sep ro σ) (ht : P.underlying t = some (.map kt et)) (hk : KeyT P kt enc)
    (hK : ∀ σ', Step [r] ro tag σ tag σ' → MapG enc tag σ' r b (gput m k v) → K () σ') : awp P ro (Instr.mapUpdate t (.map (some b)) (enc k) v) K σ := by
  obtain ⟨es, clock, hb, he, hbn⟩ := hm.obj
  have hsz : es.toList.length = m.length := by have := congrArg List.length he; simpa using this
  unfold Instr.mapUpdate
  simp only [bind_def]
  rw [awp_underlying ht]
  refine ⟨.map es clock, by unfold rd; rw [hs b _ hb]; exact hb, rfl, ?_⟩
  refine hk.check ?_
  refine hk.find he ?_
  rcases gfind_spec k m 0 with ⟨a, _, d, f⟩ | ⟨j, u, hj, a, f, g, q, _⟩
  · rw [f]
    refine ⟨.map es clock, hb, rfl, ?_⟩
    refine hK _ (step_obj hs hm.tg hb) ⟨hm.tg, _, _, upd_same _ _ _, ?_, ?_, ?_⟩
    · rw [d v, Array.toList_push, List.map_append, List.map_append, he]; rfl
    · intro e he'
      rw [Array.toList_push] at he'
      rcases List.mem_append.1 he' with h | h
      · have := hbn.lt e h; omega
      · rw [List.mem_singleton] at h; rw [h]; exact Nat.lt_succ_self _
    · rw [Array.toList_push, List.map_append, List.nodup_append]
      refine ⟨hbn.nd, by simp, ?_⟩
      intro x hx y hy
      obtain ⟨e, he', rfl⟩ := List.mem_map.1 hx
      have := hbn.lt e he'
      simp at hy; omega
  · rw [f]
    have hjl : j < es.toList.length := by omega
    have hje : j < es.size := by simpa using hjl
    have hkey : es[j].key = enc k := by
      have h1 : (es.toList.map entV)[j]? = (m.map (pairG enc))[j]? := by rw [he]
      rw [List.getElem?_map, List.getElem?_map, g, List.getElem?_eq_getElem hjl] at h1
      have := Option.some.inj h1
      exact congrArg Prod.fst this
    have hst : (((es[0 + j]?).map (·.key)).getD (enc k)) = enc k := by
      rw [Nat.zero_add, Array.getElem?_eq_getElem hje]
      exact hkey
    simp only
    rw [hst, hk.stays k]
    refine ⟨.map es clock, hb, rfl, ?_⟩
    have hml : (es.modify (0 + j) fun e => { e with key := enc k, val := v }).toList = es.toList.modify j fun e => { e with key := enc k, val := v } := by
      rw [Nat.zero_add]; exact Array.toList_modify ..
    refine hK _ (step_obj hs hm.tg hb) ⟨hm.tg, _, _, upd_same _ _ _, ?_, ?_, ?_⟩
    · rw [hml, q v]
      apply List.ext_getElem?
      intro i
      rw [List.getElem?_map, List.getElem?_map, List.getElem?_modify, List.getElem?_set]
      have hi : (es.toList.map entV)[i]? = (m.map (pairG enc))[i]? := by rw [he]
      rw [List.getElem?_map, List.getElem?_map] at hi
      by_cases c : j = i
      · subst c
        rw [if_pos rfl, if_pos hj, List.getElem?_eq_getElem hjl]
        simp [entV, pairG]
      · rw [if_neg c]
        simp only [c, if_false]
        cases h : es.toList[i]? with
        | none => rw [h] at hi; simpa using hi
        | some e => rw [h] at hi; simpa using hi
    · intro e he'
      rw [hml] at he'
      obtain ⟨i, hi, rfl⟩ := List.getElem_of_mem he'
      rw [List.getElem_modify]
      rw [List.length_modify] at hi
      split
      · have := hbn.lt _ (List.getElem_mem hi)
        exact this
      · have := hbn.lt _ (List.getElem_mem hi)
        exact this
    · rw [hml]
      have : (es.toList.modify j fun e => { e with key := enc k, val := v }).map (·.born) = es.toList.map (·.born) := by
        apply List.ext_getElem?
        intro i
        rw [List.getElem?_map, List.getElem?_map, List.getElem?_modify]
        by_cases c : j = i
        · subst c; rw [List.getElem?_eq_getElem hjl]; simp
        · simp [c]
      rw [this]; exact hbn.nd
theorem nw_mapG (enc : κ → Value) (r : Nat) {K : Nat → AH → Prop} (hs : Sep ro σ) (hK : ∀ b tag' σ', (∀ R, Step R ro tag σ tag' σ') → MapG enc tag' σ' r b [] → K b σ') : nw ro σ (.map #[] 0) K := by
  intro b hro hb
  exact hK b (setTag tag b r) _ (fun R => Step.fresh hs hro hb) ⟨by simp [setTag], _, _, upd_same _ _ _, rfl, by simp, by simp⟩
theorem awp_lenG {t kt et ty : TypeId} {r b : Nat} {m : List (κ × Value)} {K : Value → AH → Prop} (hm : MapG enc tag σ r b m) (hs : Sep ro σ) (ht : P.underlying t = some (.map kt et)) (hK : K (.int .i64 (m.length : Nat)) σ) : awp P ro (Builtin.len_ #[t] ty #[.map (some b)]) K σ := by
  obtain ⟨es, clock, hb, he, hbn⟩ := hm.obj
  unfold Builtin.len_
  simp only [bind_def]
  show awp P ro (Sem.bind (underlying t) _) K σ
  rw [awp_underlying ht]
  refine ⟨.map es clock, by unfold rd; rw [hs b _ hb]; exact hb, rfl, ?_⟩
  have hsz : es.size = m.length := by have := congrArg List.length he; simpa using this
  show K (.int .i64 (es.size : Nat)) σ
  rw [hsz]; exact hK
theorem awp_range_mapG {t kt et : TypeId} {r M : Nat} {m : List (κ × Value)} {K : Value → AH → Prop} (ht : P.underlying t = some (.map kt et)) (hm : MapG enc tag σ r M m) (hs : Sep ro σ)
    (hK : ∀ (es : Array MapEntry) (clock x : Nat), σ M = some (.map es clock) → es.toList.map entV = m.map (pairG enc) → Born es clock → ro x = none → σ x = none → K (.pointer (some ⟨x, 0, none⟩)) (upd σ x (.mapIter (some M) clock #[] clock))) :
    awp P ro (Instr.range t (.map (some M))) K σ := by
  obtain ⟨es, clock, hb, he, hbn⟩ := hm.obj
  unfold Instr.range
  simp only [bind_def]
  rw [awp_underlying ht]
  refine ⟨.map es clock, by unfold rd; rw [hs M _ hb]; exact hb, rfl, ?_⟩
  intro x hro hx
  exact hK es clock x hb he hbn hro hx
end Go.Proofs.YtomdigihapdhnaaGreatDoor.SL

/- Maps from keys to pointers: each pointer's block holds what the key has. Generic over any program. -/
namespace Go.Proofs.YtomdigihapdhnaaGreatDoor.SL
open Go
set_option linter.unusedSimpArgs false
set_option linter.unusedVariables false
set_option linter.unusedSectionVars false
variable {P : Program} {B : World} {ro σ σ' : AH} {tag tag' : Nat → Nat} {κ α : Type} [DecidableEq κ] {enc : κ → Value}

abbrev ptrV (b : Nat) : Value := .pointer (some ⟨b, 0, none⟩)
def kvP : List (κ × α) → List Nat → List (κ × Value)
  | (k, _) :: m, b :: bs => (k, ptrV b) :: kvP m bs
  | _, _ => []
structure PMap (enc : κ → Value) (At : Nat → κ → α → Prop) (tag : Nat → Nat) (σ : AH) (r M : Nat) (bs : List Nat) (m : List (κ × α)) : Prop where
  keys : (m.map (·.1)).Nodup
  len : bs.length = m.length
  nd : bs.Nodup
  map : MapG enc tag σ r M (kvP m bs)
  at' : ∀ (i b : Nat) (k : κ) (a : α), bs[i]? = some b → m[i]? = some (k, a) → At b k a
theorem kvP_look : ∀ (m : List (κ × α)) (bs : List Nat) (k : κ), bs.length = m.length →
    (glook m k = none ∧ glook (kvP m bs) k = none) ∨ ∃ (i b : Nat) (a : α), bs[i]? = some b ∧ m[i]? = some (k, a) ∧ glook m k = some a ∧ glook (kvP m bs) k = some (ptrV b) := by
  intro m
  induction m with
  | nil => intro bs k h; exact .inl ⟨rfl, by cases bs <;> rfl⟩
  | cons p m ih =>
    intro bs k h
    cases bs with
    | nil => simp at h
    | cons b bs =>
      obtain ⟨pk, pa⟩ := p
      unfold kvP glook
      by_cases c : k = pk
      · subst c
        exact .inr ⟨0, b, pa, rfl, rfl, by simp, by simp⟩
      · rw [if_neg c, if_neg c]
        rcases ih bs k (by simpa using h) with h' | ⟨i, b', a, h1, h2, h3, h4⟩
        · exact .inl h'
        · exact .inr ⟨i + 1, b', a, by simpa using h1, by simpa using h2, h3, h4⟩
theorem glook_none : ∀ {m : List (κ × α)} {k : κ}, glook m k = none ↔ k ∉ m.map (·.1) := by
  intro m
  induction m with
  | nil => intro k; simp [glook]
  | cons p m ih =>
    intro k
    obtain ⟨pk, pa⟩ := p
    unfold glook
    by_cases c : k = pk
    · simp [c]
    · rw [if_neg c, ih]; simp [c]
theorem gput_set : ∀ {m : List (κ × α)} {i : Nat} {k : κ} {a : α} (a' : α), (m.map (·.1)).Nodup → m[i]? = some (k, a) → gput m k a' = m.set i (k, a') := by
  intro m
  induction m with
  | nil => intro i k a a' _ h; cases h
  | cons p m ih =>
    intro i k a a' hn h
    obtain ⟨pk, pa⟩ := p
    simp only [List.map_cons, List.nodup_cons] at hn
    unfold gput
    cases i with
    | zero => cases h; simp
    | succ i =>
      have hm : m[i]? = some (k, a) := by simpa using h
      have : k ≠ pk := fun e => hn.1 (by rw [← e]; exact List.mem_map.2 ⟨_, List.mem_of_getElem? hm, rfl⟩)
      rw [if_neg this, ih a' hn.2 hm]; rfl
theorem gput_app : ∀ {m : List (κ × α)} {k : κ} (a : α), glook m k = none → gput m k a = m ++ [(k, a)] := by
  intro m
  induction m with
  | nil => intro k a _; rfl
  | cons p m ih =>
    intro k a h
    obtain ⟨pk, pa⟩ := p
    unfold glook at h
    unfold gput
    split at h
    · cases h
    · rename_i c
      rw [if_neg c, ih a h]; rfl
theorem gdel_erase : ∀ {m : List (κ × α)} {i : Nat} {k : κ} {a : α}, (m.map (·.1)).Nodup → m[i]? = some (k, a) → gdel m k = m.eraseIdx i := by
  intro m
  induction m with
  | nil => intro i k a _ h; cases h
  | cons p m ih =>
    intro i k a hn h
    obtain ⟨pk, pa⟩ := p
    simp only [List.map_cons, List.nodup_cons] at hn
    unfold gdel
    cases i with
    | zero => cases h; simp
    | succ i =>
      have hm : m[i]? = some (k, a) := by simpa using h
      have : k ≠ pk := fun e => hn.1 (by rw [← e]; exact List.mem_map.2 ⟨_, List.mem_of_getElem? hm, rfl⟩)
      rw [if_neg this, ih hn.2 hm]; rfl
theorem kvP_set : ∀ (m : List (κ × α)) (bs : List Nat) (i : Nat) (k : κ) (a a' : α), m[i]? = some (k, a) → kvP (m.set i (k, a')) bs = kvP m bs := by
  intro m
  induction m with
  | nil => intro bs i k a a' h; cases h
  | cons p m ih =>
    intro bs i k a a' h
    cases bs with
    | nil => cases i <;> simp [kvP]
    | cons b bs =>
      cases i with
      | zero => cases h; rfl
      | succ i => simp only [List.set_cons_succ]; unfold kvP; rw [ih bs i k a a' (by simpa using h)]
theorem kvP_app : ∀ (m : List (κ × α)) (bs : List Nat) (k : κ) (a : α) (b : Nat), bs.length = m.length → kvP (m ++ [(k, a)]) (bs ++ [b]) = kvP m bs ++ [(k, ptrV b)] := by
  intro m
  induction m with
  | nil => intro bs k a b h; have : bs = [] := List.eq_nil_of_length_eq_zero h; subst this; rfl
  | cons p m ih =>
    intro bs k a b h
    cases bs with
    | nil => simp at h
    | cons c bs =>
      obtain ⟨pk, pa⟩ := p
      simp only [List.cons_append]
      unfold kvP
      rw [ih bs k a b (by simpa using h)]; rfl
theorem kvP_erase : ∀ (m : List (κ × α)) (bs : List Nat) (i : Nat), bs.length = m.length → kvP (m.eraseIdx i) (bs.eraseIdx i) = (kvP m bs).eraseIdx i := by
  intro m
  induction m with
  | nil => intro bs i h; have : bs = [] := List.eq_nil_of_length_eq_zero h; subst this; simp [kvP]
  | cons p m ih =>
    intro bs i h
    cases bs with
    | nil => simp at h
    | cons c bs =>
      obtain ⟨pk, pa⟩ := p
      cases i with
      | zero => simp [kvP]
      | succ i => simp only [List.eraseIdx_cons_succ]; unfold kvP; rw [ih bs i (by simpa using h)]; simp
theorem kvP_keys : ∀ (m : List (κ × α)) (bs : List Nat), bs.length = m.length → (kvP m bs).map (·.1) = m.map (·.1) := by
  intro m
  induction m with
  | nil => intro bs h; cases bs <;> rfl
  | cons p m ih =>
    intro bs h
    cases bs with
    | nil => simp at h
    | cons c bs => obtain ⟨pk, pa⟩ := p; unfold kvP; simp [ih bs (by simpa using h)]
theorem idx_inj' {β : Type} {l : List β} (hn : l.Nodup) {i j : Nat} {x : β} (hi : l[i]? = some x) (hj : l[j]? = some x) : i = j := by
  have hil : i < l.length := (List.getElem?_eq_some_iff.1 hi).1
  have hjl : j < l.length := (List.getElem?_eq_some_iff.1 hj).1
  rw [List.getElem?_eq_getElem hil] at hi
  rw [List.getElem?_eq_getElem hjl] at hj
  exact (List.getElem_inj hn).1 (by rw [Option.some.inj hi, Option.some.inj hj])

variable {At At' : Nat → κ → α → Prop} {r M : Nat} {bs : List Nat} {m : List (κ × α)}
theorem PMap.nil (h : MapG enc tag σ r M []) : PMap enc At tag σ r M [] ([] : List (κ × α)) := ⟨by simp, rfl, by simp, h, fun i b k a hb => by cases hb⟩
theorem PMap.mono (h : PMap enc At tag σ r M bs m) (hm : MapG enc tag' σ' r M (kvP m bs)) (ha : ∀ (i b : Nat) (k : κ) (a : α), bs[i]? = some b → m[i]? = some (k, a) → At b k a → At' b k a) : PMap enc At' tag' σ' r M bs m :=
  ⟨h.keys, h.len, h.nd, hm, fun i b k a hb hp => ha i b k a hb hp (h.at' i b k a hb hp)⟩
theorem PMap.look (h : PMap enc At tag σ r M bs m) (k : κ) : (glook m k = none ∧ glook (kvP m bs) k = none) ∨ ∃ (i b : Nat) (a : α), bs[i]? = some b ∧ m[i]? = some (k, a) ∧ glook m k = some a ∧ glook (kvP m bs) k = some (ptrV b) ∧ At b k a := by
  rcases kvP_look m bs k h.len with h' | ⟨i, b, a, h1, h2, h3, h4⟩
  · exact .inl h'
  · exact .inr ⟨i, b, a, h1, h2, h3, h4, h.at' i b k a h1 h2⟩
/-- what one key has is another thing now -/
theorem PMap.write {i b : Nat} {k : κ} {a a' : α} (h : PMap enc At tag σ r M bs m) (hb : bs[i]? = some b) (hp : m[i]? = some (k, a)) (hm : MapG enc tag' σ' r M (kvP m bs)) (hn : At' b k a') (ho : ∀ b' k' x, b' ≠ b → k' ≠ k → At b' k' x → At' b' k' x) : PMap enc At' tag' σ' r M bs (gput m k a') := by
  rw [gput_set a' h.keys hp]
  have hil : i < m.length := (List.getElem?_eq_some_iff.1 hp).1
  refine ⟨?_, by simpa using h.len, h.nd, by rw [kvP_set _ _ _ _ _ _ hp]; exact hm, fun j c k' x hc hx => ?_⟩
  · have : (m.set i (k, a')).map (·.1) = m.map (·.1) := by
      apply List.ext_getElem?
      intro j
      rw [List.map_set, List.getElem?_set, List.getElem?_map]
      by_cases e : i = j
      · subst e; rw [hp]; simp [hil]
      · rw [if_neg e]
    rw [this]; exact h.keys
  · rw [List.getElem?_set] at hx
    by_cases e : i = j
    · subst e
      rw [hb] at hc; cases hc
      rw [if_pos rfl, if_pos hil] at hx
      cases hx; exact hn
    · rw [if_neg e] at hx
      refine ho c k' x (fun e' => e (idx_inj' h.nd hb (by rw [← e']; exact hc))) (fun e' => e ?_) (h.at' j c k' x hc hx)
      refine idx_inj' h.keys (i := i) (j := j) (x := k) ?_ ?_
      · rw [List.getElem?_map, hp]; rfl
      · rw [List.getElem?_map, hx, ← e']; rfl
/-- a new key -/
theorem PMap.add {b : Nat} {k : κ} {a : α} (h : PMap enc At tag σ r M bs m) (hk : glook m k = none) (hm : MapG enc tag' σ' r M (gput (kvP m bs) k (ptrV b))) (hnb : b ∉ bs) (hn : At' b k a) (ho : ∀ (i b' : Nat) k' x, bs[i]? = some b' → m[i]? = some (k', x) → At b' k' x → At' b' k' x) : PMap enc At' tag' σ' r M (bs ++ [b]) (gput m k a) := by
  have hk2 : glook (kvP m bs) k = none := by rw [glook_none, kvP_keys _ _ h.len, ← glook_none]; exact hk
  rw [gput_app _ hk2] at hm
  rw [gput_app a hk]
  refine ⟨?_, by simp [h.len], ?_, by rw [kvP_app _ _ _ _ _ h.len]; exact hm, fun i c k' x hc hx => ?_⟩
  · rw [List.map_append, List.nodup_append]
    refine ⟨h.keys, by simp, ?_⟩
    intro x hx y hy e
    simp at hy
    rw [glook_none] at hk
    exact hk (by rw [← hy, ← e]; exact hx)
  · rw [List.nodup_append]
    refine ⟨h.nd, by simp, ?_⟩
    intro x hx y hy e
    simp at hy
    exact hnb (by rw [← hy, ← e]; exact hx)
  · rcases Nat.lt_or_ge i bs.length with hi | hi
    · rw [List.getElem?_append_left hi] at hc
      rw [List.getElem?_append_left (by rw [← h.len]; exact hi)] at hx
      exact ho i c k' x hc hx (h.at' i c k' x hc hx)
    · rw [List.getElem?_append_right hi] at hc
      rw [List.getElem?_append_right (by rw [← h.len]; exact hi), ← h.len] at hx
      cases hd : i - bs.length with
      | zero => rw [hd] at hc hx; cases hc; cases hx; exact hn
      | succ j => rw [hd] at hc; cases hc
/-- a key goes -/
theorem PMap.del {i b : Nat} {k : κ} {a : α} (h : PMap enc At tag σ r M bs m) (hb : bs[i]? = some b) (hp : m[i]? = some (k, a)) (hm : MapG enc tag' σ' r M (gdel (kvP m bs) k)) (ho : ∀ b' k' x, At b' k' x → At' b' k' x) : PMap enc At' tag' σ' r M (bs.eraseIdx i) (gdel m k) := by
  have hnk : ((kvP m bs).map (·.1)).Nodup := by rw [kvP_keys _ _ h.len]; exact h.keys
  have hil : i < m.length := (List.getElem?_eq_some_iff.1 hp).1
  have hkv : ∃ v, (kvP m bs)[i]? = some (k, v) := by
    have e := kvP_keys m bs h.len
    have h1 : ((kvP m bs).map (·.1))[i]? = (m.map (·.1))[i]? := by rw [e]
    rw [List.getElem?_map, List.getElem?_map, hp] at h1
    cases hq : (kvP m bs)[i]? with
    | none => rw [hq] at h1; cases h1
    | some q => obtain ⟨q1, q2⟩ := q; rw [hq] at h1; cases h1; exact ⟨q2, rfl⟩
  obtain ⟨v, hkv⟩ := hkv
  rw [gdel_erase hnk hkv] at hm
  rw [gdel_erase h.keys hp]
  refine ⟨?_, ?_, List.Nodup.sublist (List.eraseIdx_sublist ..) h.nd, by rw [kvP_erase _ _ _ h.len]; exact hm, fun j c k' x hc hx => ?_⟩
  · exact List.Nodup.sublist ((List.eraseIdx_sublist ..).map _) h.keys
  · rw [List.length_eraseIdx, List.length_eraseIdx, h.len]
  · rw [List.getElem?_eraseIdx] at hc hx
    split at hc
    · rename_i hj; rw [if_pos hj] at hx; exact ho _ _ _ (h.at' j c k' x hc hx)
    · rename_i hj; rw [if_neg hj] at hx; exact ho _ _ _ (h.at' (j + 1) c k' x hc hx)
end Go.Proofs.YtomdigihapdhnaaGreatDoor.SL

/- Paths, the walk of the document's answer (althingref02): it says what package path says. -/
namespace Go.Proofs.YtomdigihapdhnaaGreatDoor.Pa
open Go Go.Proofs.YtomdigihapdhnaaGreatDoor.SL Go.Proofs.YtomdigihapdhnaaGreatDoor.G Go.RowKit
set_option linter.unusedSimpArgs false
set_option linter.unusedVariables false
variable {B : World} {ro σ σ' : AH} {tag tag' : Nat → Nat}

theorem t25 : Tryz.prog.underlying 27 = some (.slice 9) := by kernel_rfl
end Go.Proofs.YtomdigihapdhnaaGreatDoor.Pa

/- Paths, the walk: the document's Make, Parent, Base, Under, and package path's Under. -/
namespace Go.Proofs.YtomdigihapdhnaaGreatDoor.Pa
open Go Go.Proofs.YtomdigihapdhnaaGreatDoor.SL Go.Proofs.YtomdigihapdhnaaGreatDoor.G Go.RowKit
set_option linter.unusedSimpArgs false
set_option linter.unusedVariables false
variable {B : World} {ro σ σ' : AH} {tag tag' : Nat → Nat}

theorem Row.cap {r : Nat} {e : TypeId} {s : Sl} {l : List Value} (h : Row tag σ r e s l) : s.len ≤ s.cap := by
  rcases h with ⟨e, _⟩ | ⟨_, _, _, _, _, _, _, h, _⟩
  · rw [e]; exact Nat.le_refl _
  · exact h

/-! one path below another -/
def under (p q : Str) : Option Bool := match parts p, parts q with | some ps, some qs => some (ps.isPrefixOf qs) | _, _ => none
end Go.Proofs.YtomdigihapdhnaaGreatDoor.Pa

/- Paths, the walk: ten digits behind a path. -/
namespace Go.Proofs.YtomdigihapdhnaaGreatDoor.Pa
open Go Go.Proofs.YtomdigihapdhnaaGreatDoor.SL Go.Proofs.YtomdigihapdhnaaGreatDoor.G Go.RowKit
set_option linter.unusedSimpArgs false
set_option linter.unusedVariables false
variable {B : World} {ro σ σ' : AH} {tag tag' : Nat → Nat}

def tens : Nat → Nat → Str
  | 0, _ => []
  | k + 1, n => tens k (n / 10) ++ [UInt8.ofNat (48 + n % 10)]
theorem tens_zero (k : Nat) : tens k 0 = List.replicate k 48 := by
  induction k with
  | zero => rfl
  | succ k ih => rw [tens, Nat.zero_div, ih, List.replicate_succ']; rfl
theorem tens_dec : ∀ (k n : Nat), n < 10 ^ (k + 1) → (Lib.decDigits n).length ≤ k + 1 ∧ List.replicate (k + 1 - (Lib.decDigits n).length) 48 ++ Lib.decDigits n = tens (k + 1) n := by
  intro k
  induction k with
  | zero =>
    intro n h
    have h : n < 10 := by simpa using h
    rw [Lib.decDigits, dif_pos h]
    refine ⟨by simp, ?_⟩
    simp [tens, Nat.mod_eq_of_lt h]
  | succ k ih =>
    intro n h
    by_cases h10 : n < 10
    · rw [Lib.decDigits, dif_pos h10]
      refine ⟨by simp, ?_⟩
      rw [tens, Nat.div_eq_of_lt h10, tens_zero, Nat.mod_eq_of_lt h10]; simp
    · rw [Lib.decDigits, dif_neg h10]
      obtain ⟨h1, h2⟩ := ih (n / 10) (by rw [Nat.div_lt_iff_lt_mul (by omega)]; rw [Nat.pow_succ] at h; exact h)
      refine ⟨by simp; omega, ?_⟩
      rw [tens, ← h2]
      simp only [List.length_append, List.length_cons, List.length_nil, ← List.append_assoc]
      rw [show k + 1 + 1 - ((Lib.decDigits (n / 10)).length + (0 + 1)) = k + 1 - (Lib.decDigits (n / 10)).length by omega]
theorem tens_len (k n : Nat) : (tens k n).length = k := by
  induction k generalizing n with
  | zero => rfl
  | succ k ih => rw [tens, List.length_append, ih]; rfl
theorem repeatL_rep (c : UInt8) (k : Nat) : Lib.repeatL [c] k = List.replicate k c := by
  induction k with
  | zero => rfl
  | succ k ih => rw [Lib.repeatL, ih]; rfl

theorem itoa_ok {n : Nat} {Q : ByteArray → AH → Prop} (g : Glob ro) (hn : n < 9223372036854775808) (hQ : Q (S (Lib.decDigits n)) σ) : c_strconv_Itoa B ro (n : Int) σ Q := by
  refine ACalls.of_calls fun w hw hsep => ?_
  refine (Tryz.strconv_Itoa (n : Int) (by omega) (by omega) w (g.tab w (sees_ro hw))).mono ?_
  rintro e w' ⟨he, k, os, rfl⟩
  have hb : Below w.heap.size w (Go.Sort.grow (w.drewN k) os) := ⟨rfl, rfl, rfl, by simp [Go.Sort.grow, World.drewN], fun b hb => by
    simp only [Go.Sort.grow, World.drewN]
    rw [Array.getElem?_append_left hb]⟩
  refine ⟨_, fun _ => none, he, hb, News.none _ _, S (Lib.decDigits n), ?_, ?_⟩
  · rw [Lib.itoa_nonneg]; rfl
  · rw [join_none_right]; exact hQ
theorem repeat_ok {k : Nat} {Q : ByteArray → AH → Prop} (hk : k ≤ 100) (hQ : Q (S (List.replicate k 48)) σ) : c_strings_Repeat B ro (⟨#[48]⟩ : ByteArray) (k : Int) σ Q := by
  refine ACalls.of_calls fun w hw hsep => ?_
  refine (Tryz.strings_Repeat (⟨#[48]⟩ : ByteArray) k w (by omega) (by show 1 * k ≤ _; omega)).mono ?_
  rintro e w' ⟨he, hb⟩
  refine ⟨_, fun _ => none, he, hb, News.none _ _, S (List.replicate k 48), ?_, ?_⟩
  · rw [show (⟨#[48]⟩ : ByteArray).data.toList = [48] from rfl, repeatL_rep]; rfl
  · rw [join_none_right]; exact hQ
def digits (n : Int) : Str := tens 10 n.toNat
def suffix (l : Str) (n : Int) : Option Str :=
  match parts l with
  | some ps => if ps = [] ∨ n < 0 ∨ 9999999999 < n then none else if (parts (l ++ digits n)).isSome then some (l ++ digits n) else none
  | none => none
theorem suffix_ok {p : ByteArray} {n : Int} {Q : ByteArray → Int → AH → Prop} (g : Glob ro) (hnone : suffix (L p) n = none → Q (⟨#[]⟩ : ByteArray) 20 σ) (hsome : ∀ u, suffix (L p) n = some u → Q (S u) 0 σ) : c_path_Suffix B ro p n σ Q := by
  refine path_Suffix_ok fun hs => ?_
  unfold f_path_Suffix
  by_cases h1 : (p = ⟨#[47]⟩ ∨ n < 0) ∨ 9999999999 < n
  · rw [if_pos h1]
    unfold j1_path_Suffix
    rw [if_pos rfl]
    refine hnone ?_
    unfold suffix
    cases h : parts (L p) with
    | none => rfl
    | some ps =>
      obtain ⟨hl, hg⟩ := parts_iff.1 h
      refine if_pos ?_
      rcases h1 with (h1 | h1) | h1
      · exact .inl ((slash_iff hg).1 (by rw [← hl, h1]; rfl))
      · exact .inr (.inl h1)
      · exact .inr (.inr h1)
  · rw [if_neg h1]
    have hp1 : p ≠ ⟨#[47]⟩ := fun h => h1 (.inl (.inl h))
    obtain ⟨m, rfl⟩ : ∃ m : Nat, n = m := ⟨n.toNat, by omega⟩
    refine check_ok g ?_
    unfold j1_path_Suffix
    by_cases h2 : chk (L p) = 0
    · rw [if_neg (by simpa using h2)]
      obtain ⟨ps, hps⟩ := chk_zero.1 h2
      obtain ⟨hl, hg⟩ := parts_iff.1 hps
      have hn : ps ≠ [] := fun e => hp1 (L_inj (by rw [hl, e]; rfl))
      refine itoa_ok g (by omega) ?_
      obtain ⟨hd1, hd2⟩ := tens_dec 9 m (by show m < 10000000000; omega)
      have e1 : IntKind.i64.wrap (10 - ((S (Lib.decDigits m)).size : Int)) = ((9 + 1 - (Lib.decDigits m).length : Nat) : Int) := by
        rw [S_size, SL.w64_eq (by omega) (by omega)]; omega
      rw [e1]
      refine repeat_ok (by omega) ?_
      have hsz : p.size = (mk ps).length := by rw [← L_len, hl]
      have h128 := hg.len
      rw [S_append, hd2]
      refine ⟨by simp only [S_size, List.length_replicate]; omega, by rw [S_size, tens_len]; omega, ?_⟩
      have e2 : p ++ S (tens (9 + 1) m) = S (L p ++ digits m) := by
        conv => lhs; rw [← S_L p]
        rw [S_append]; rfl
      rw [e2]
      refine check_ok g ?_
      rw [L_S]
      have hsuf : suffix (L p) (m : Int) = if (parts (L p ++ digits m)).isSome then some (L p ++ digits m) else none := by
        unfold suffix; rw [hps]; simp only; rw [if_neg fun h => h.elim hn (by omega)]
      by_cases h3 : chk (L p ++ digits m) = 0
      · rw [if_neg (by simpa using h3)]
        obtain ⟨qs, hqs⟩ := chk_zero.1 h3
        refine hsome _ ?_
        rw [hsuf, hqs]; rfl
      · rw [if_pos (by simpa using h3)]
        have e3 : parts (L p ++ digits m) = none := by
          cases h : parts (L p ++ digits m) with
          | none => rfl
          | some qs => exact absurd (chk_zero.2 ⟨qs, h⟩) h3
        have : chk (L p ++ digits m) = 20 := by unfold chk; rw [e3]; rfl
        rw [this]
        refine hnone ?_
        rw [hsuf, e3]; rfl
    · rw [if_pos (by simpa using h2)]
      refine hnone ?_
      unfold suffix
      cases h : parts (L p) with
      | none => rfl
      | some ps => exact absurd (chk_zero.2 ⟨ps, h⟩) h2
end Go.Proofs.YtomdigihapdhnaaGreatDoor.Pa

/- Functions as predicate transformers, and the proofs that the code does what they tell: printed by wip/tools/gen.py. -/
namespace Go.Proofs.YtomdigihapdhnaaGreatDoor.G
open Go Go.Proofs.YtomdigihapdhnaaGreatDoor.SL
set_option linter.unusedVariables false
set_option linter.unusedSimpArgs false

def f_ztree_Tree_Get (B : World) (ro : AH) (a0 : Option Addr) (a1 : ByteArray) (σ : AH) (Q : Sl → Int → Int → Int → Int → Int → AH → Prop) : Prop :=
 nw ro σ (.cells #[.int .i64 0, .int .i64 0, .int .i64 0, .int .i64 0] 26) fun x5_1 σ =>
 c_ztree_Tree_find B ro a0 a1 σ fun x12_2 x12_3 σ =>
 if ¬ (x12_3 = 0) then
  stN ⟨x5_1, 0, none⟩ (fun σ =>
   ∃ (x5_4a : Int) (x5_4b : Int) (x5_4c : Int) (x5_4d : Int), cellsAt ro σ ⟨x5_1, 0, none⟩ 0 [.int .i64 x5_4a, .int .i64 x5_4b, .int .i64 x5_4c, .int .i64 x5_4d] ∧
   Q (⟨none, 0, 0⟩ : Sl) x5_4a x5_4b x5_4c x5_4d x12_3 σ) [.int .i64 0, .int .i64 0, .int .i64 0, .int .i64 0] 0 σ
 else
 lent σ fun ψ σ =>
  ∃ p20_5 : Addr, x12_2 = some p20_5 ∧
  ∃ p25_6 : Addr, x12_2 = some p25_6 ∧
  ∃ (x27_7a : Int) (x27_7b : Int) (x27_7c : Int) (x27_7d : Int), cellsAt (join ro ψ) (fun _ => none) p25_6 0 [.int .i64 x27_7a, .int .i64 x27_7b, .int .i64 x27_7c, .int .i64 x27_7d] ∧
  ∃ (x22_8 : Sl), acell (join ro ψ) σ (p20_5.add 4) = some (Sl.v x22_8) ∧
  c_bytes_Clone B (join ro ψ) x22_8 σ fun x23_9 σ =>
  stN ⟨x5_1, 0, none⟩ (fun σ =>
   (Disj ψ σ → (fun σ => 
    ∃ (x5_10a : Int) (x5_10b : Int) (x5_10c : Int) (x5_10d : Int), cellsAt ro σ ⟨x5_1, 0, none⟩ 0 [.int .i64 x5_10a, .int .i64 x5_10b, .int .i64 x5_10c, .int .i64 x5_10d] ∧
    Q x23_9 x5_10a x5_10b x5_10c x5_10d 0 σ) (join ψ σ))) [.int .i64 x27_7a, .int .i64 x27_7b, .int .i64 x27_7c, .int .i64 x27_7d] 0 σ

set_option maxRecDepth 100000 in
set_option maxHeartbeats 4000000 in
theorem ztree_Tree_Get_ok {B : World} {ro : AH} {a0 : Option Addr} {a1 : ByteArray} {σ : AH} {Q : Sl → Int → Int → Int → Int → Int → AH → Prop} (h : Sep ro σ → f_ztree_Tree_Get B ro a0 a1 σ Q) : c_ztree_Tree_Get B ro a0 a1 σ Q := by
  refine ACalls.of_sep fun hsep => ?_
  replace h := h hsep
  refine ACalls.of_body (args := [.pointer a0, .string a1]) Tryz.func25 rfl (by rw [Tryz.ntmps25]; simp) ?_
  rw [Tryz.ntmps25]
  unfold f_ztree_Tree_Get at h
  refine AW.seq ?_
  refine AW.reg ?_
  refine Lp (V_asg rfl rfl) rfl rfl ?_
  refine Ls rfl rfl (X_new (A_alloc rfl ty26) fun x5_1 g1 g2 => ?_)
  replace h := h x5_1 g1 g2
  refine Lp (V_asg rfl rfl) rfl rfl ?_
  refine Lnil ?_
  refine thenN ?_
  refine AW.seq ?_
  refine AW.reg ?_
  refine Lp (V_move rfl rfl) rfl rfl ?_
  refine Lp (V_move rfl rfl) rfl rfl ?_
  refine Ls rfl rfl (X_call rfl Tryz.func79 rfl rfl rfl (ACalls.mono h ?_))
  rintro v σ ⟨x12_2, x12_3, rfl, h⟩
  refine Lp (V_move rfl rfl) rfl rfl ?_
  refine Lp (V_ext rfl rfl rfl) rfl rfl ?_
  refine Lp (V_ext rfl rfl rfl) rfl rfl ?_
  refine Lp (V_asg rfl rfl) rfl rfl ?_
  refine Lp (V_asg rfl rfl) rfl rfl ?_
  refine Lnil ?_
  refine thenN ?_
  refine AW.seq ?_
  refine AW.seq ?_
  refine AW.reg ?_
  refine Lp (V_move rfl rfl) rfl rfl ?_
  refine Lp (V_neq rfl rfl rfl) rfl rfl ?_
  refine Lnil ?_
  refine thenN ?_
  refine AW.iff rfl (bnot_iff decide_eq_true_iff) h (fun h => ?_) (fun h => ?_)
  · refine AW.seq ?_
    refine AW.reg ?_
    refine Lp (V_bld (vs := []) (cs := #[.int .i64 0, .int .i64 0, .int .i64 0, .int .i64 0]) rfl Tryz.underlying26 ty26 pl26 rfl rfl) rfl rfl ?_
    refine Lp (V_move rfl rfl) rfl rfl ?_
    refine Lp (V_asg rfl rfl) rfl rfl ?_
    refine Ls rfl rfl (X_st rfl ty26 rfl rfl rfl rfl (stN_mono h fun σ h => ?_))
    refine Lp (V_asg rfl rfl) rfl rfl ?_
    refine Lnil ?_
    refine thenN ?_
    refine AW.ret ?_
    refine thenR ?_
    obtain ⟨x5_4a, x5_4b, x5_4c, x5_4d, hc1, h⟩ := h
    exact bRM Tryz.results25 (rCons (rTmp rfl) (rCons (rAgg rfl Tryz.underlying26 rfl ty26 hc1) (rCons (rTmp rfl) rNil))) ⟨_, _, _, _, _, _, rfl, h⟩
  refine AW.skip ?_
  refine thenN ?_
  refine AW.seq ?_
  refine AW.drawnL (fun i => ([0, 0, 0, 3, 2, 0, 0, 0, 0, 0, 2, 0] : List Nat).getD i 2) [] [0, 1, 2, 5, 6, 7, 8, 3, 4, 9, 10, 11] Tryz.mixed h (by decide +kernel) ?_
  clear h
  intro ψ σ h
  refine Dp rfl rfl rfl rfl (V_move rfl rfl) ?_
  obtain ⟨p20_5, hc, h⟩ := h
  refine Dp rfl rfl rfl rfl (V_nil rfl (by rw [← hc]; rfl)) ?_
  refine Dp rfl rfl rfl rfl (V_fld rfl Tryz.underlying168 rfl ty24 (by decide) rfl) ?_
  refine Dp rfl rfl rfl rfl (V_move rfl rfl) ?_
  obtain ⟨p25_6, hc, h⟩ := h
  refine Dp rfl rfl rfl rfl (V_nil rfl (by rw [← hc]; rfl)) ?_
  refine Dp rfl rfl rfl rfl (V_fld rfl Tryz.underlying168 rfl ty26 (by decide) rfl) ?_
  obtain ⟨x27_7a, x27_7b, x27_7c, x27_7d, hc, h⟩ := h
  refine Dp rfl rfl rfl rfl (V_lda rfl Tryz.underlying26 rfl ty26 rfl hc) ?_
  obtain ⟨x22_8, hc, h⟩ := h
  refine Dr rfl rfl rfl rfl (R_ld rfl Tryz.underlying24 rfl rfl hc) ?_
  refine Dg rfl rfl rfl rfl (X_call rfl Tryz.func80 rfl rfl rfl (ACalls.mono h ?_))
  rintro v σ ⟨x23_9, rfl, h⟩
  refine Dp rfl rfl rfl rfl (V_asg rfl rfl) ?_
  refine Dg rfl rfl rfl rfl (X_st rfl ty26 rfl rfl rfl rfl (stN_mono h fun σ h => ?_))
  refine Dp rfl rfl rfl rfl (V_asg rfl rfl) ?_
  refine ⟨_, FrEq.refl _, fun hdj => ?_⟩
  replace h := h hdj
  refine thenN ?_
  refine AW.ret ?_
  obtain ⟨x5_10a, x5_10b, x5_10c, x5_10d, hc1, h⟩ := h
  exact bRM Tryz.results25 (rCons (rTmp rfl) (rCons (rAgg rfl Tryz.underlying26 rfl ty26 hc1) (rCons (rTmp rfl) rNil))) ⟨_, _, _, _, _, _, rfl, h⟩

def f_ztree_New (B : World) (ro : AH) (σ : AH) (Q : Option Addr → AH → Prop) : Prop :=
 nw ro σ (.map #[] 0) fun x1_1 σ =>
 nw ro σ (.cells #[.int .i64 0, .int .i64 0, .int .i64 0, .int .i64 0, Sl.v (⟨none, 0, 0⟩ : Sl)] 168) fun x3_2 σ =>
 awp Tryz.prog ro (Instr.mapUpdate 237 (.map (some x1_1)) (.string (⟨#[47]⟩ : ByteArray)) (.pointer (some ⟨x3_2, 0, none⟩))) (fun _ σ =>
  nw ro σ (.cells #[.map (some x1_1)] 239) fun x6_3 σ =>
  Q (some ⟨x6_3, 0, none⟩) σ) σ

set_option maxRecDepth 100000 in
set_option maxHeartbeats 4000000 in
theorem ztree_New_ok {B : World} {ro : AH} {σ : AH} {Q : Option Addr → AH → Prop} (h : Sep ro σ → f_ztree_New B ro σ Q) : c_ztree_New B ro σ Q := by
  refine ACalls.of_sep fun hsep => ?_
  replace h := h hsep
  refine ACalls.of_body (args := []) Tryz.func66 rfl (by rw [Tryz.ntmps66]; simp) ?_
  rw [Tryz.ntmps66]
  unfold f_ztree_New at h
  refine AW.seq ?_
  refine AW.reg ?_
  refine Lp (V_asg rfl rfl) rfl rfl ?_
  refine Lnil ?_
  refine thenN ?_
  refine AW.seq ?_
  refine AW.reg ?_
  refine Ls rfl rfl (X_new (A_map0 rfl) fun x1_1 g1 g2 => ?_)
  replace h := h x1_1 g1 g2
  refine Lp (V_bld (vs := []) (cs := #[.int .i64 0, .int .i64 0, .int .i64 0, .int .i64 0, Sl.v (⟨none, 0, 0⟩ : Sl)]) rfl Tryz.underlying168 ty168 pl168 rfl rfl) rfl rfl ?_
  refine Ls rfl rfl (X_new (A_box rfl rfl) fun x3_2 g1 g2 => ?_)
  replace h := h x3_2 g1 g2
  refine Ls rfl rfl (X_mup (.inr rfl) rfl rfl rfl (awp_mono _ h ?_))
  rintro _ σ h
  refine Lp (V_move rfl rfl) rfl rfl ?_
  refine Lp (V_bld (vs := [(0, .map (some x1_1))]) (cs := #[.map (some x1_1)]) rfl Tryz.underlying239 ty239 pl239 rfl rfl) rfl rfl ?_
  refine Ls rfl rfl (X_new (A_box rfl rfl) fun x6_3 g1 g2 => ?_)
  replace h := h x6_3 g1 g2
  refine Lp (V_asg rfl rfl) rfl rfl ?_
  refine Lnil ?_
  refine thenN ?_
  refine AW.ret ?_
  exact bR1 Tryz.results66 rfl ⟨_, rfl, h⟩

def f_ztree_Tree_find (B : World) (ro : AH) (a0 : Option Addr) (a1 : ByteArray) (σ : AH) (Q : Option Addr → Int → AH → Prop) : Prop :=
 c_path_Check B ro a1 σ fun x9_1 σ =>
 if ¬ (x9_1 = 0) then
  Q none x9_1 σ
 else
 ∃ p14_2 : Addr, a0 = some p14_2 ∧
 ∃ (x16_3 : Option Nat), acell ro σ p14_2 = some (.map x16_3) ∧
 awp Tryz.prog ro (Instr.lookup 237 (.map x16_3) (.string a1) false) (fun v σ =>
  (∃ (x18_4 : Option Addr), v = .pointer x18_4 ∧
   if x18_4 = none then
    Q none 70 σ
   else
   Q x18_4 0 σ)) σ

set_option maxRecDepth 100000 in
set_option maxHeartbeats 4000000 in
theorem ztree_Tree_find_ok {B : World} {ro : AH} {a0 : Option Addr} {a1 : ByteArray} {σ : AH} {Q : Option Addr → Int → AH → Prop} (h : Sep ro σ → f_ztree_Tree_find B ro a0 a1 σ Q) : c_ztree_Tree_find B ro a0 a1 σ Q := by
  refine ACalls.of_sep fun hsep => ?_
  replace h := h hsep
  refine ACalls.of_body (args := [.pointer a0, .string a1]) Tryz.func79 rfl (by rw [Tryz.ntmps79]; simp) ?_
  rw [Tryz.ntmps79]
  unfold f_ztree_Tree_find at h
  refine AW.seq ?_
  refine AW.reg ?_
  refine Lp (V_asg rfl rfl) rfl rfl ?_
  refine Lp (V_asg rfl rfl) rfl rfl ?_
  refine Lnil ?_
  refine thenN ?_
  refine AW.seq ?_
  refine AW.seq ?_
  refine AW.reg ?_
  refine Lp (V_move rfl rfl) rfl rfl ?_
  refine Ls rfl rfl (X_call rfl Tryz.func82 rfl rfl rfl (ACalls.mono h ?_))
  rintro v σ ⟨x9_1, rfl, h⟩
  refine Lp (V_asg rfl rfl) rfl rfl ?_
  refine Lnil ?_
  refine thenN ?_
  refine AW.seq ?_
  refine AW.reg ?_
  refine Lp (V_move rfl rfl) rfl rfl ?_
  refine Lp (V_neq rfl rfl rfl) rfl rfl ?_
  refine Lnil ?_
  refine thenN ?_
  refine AW.iff rfl (bnot_iff decide_eq_true_iff) h (fun h => ?_) (fun h => ?_)
  · refine AW.seq ?_
    refine AW.reg ?_
    refine Lp (V_move rfl rfl) rfl rfl ?_
    refine Lp (V_asg rfl rfl) rfl rfl ?_
    refine Lp (V_asg rfl rfl) rfl rfl ?_
    refine Lnil ?_
    refine thenN ?_
    refine AW.ret ?_
    refine thenR ?_
    exact bR2 Tryz.results79 rfl rfl ⟨_, _, rfl, h⟩
  refine AW.skip ?_
  refine thenN ?_
  refine AW.seq ?_
  refine AW.reg ?_
  refine Lp (V_move rfl rfl) rfl rfl ?_
  obtain ⟨p14_2, hc, h⟩ := h
  refine Lp (V_nil rfl (by rw [← hc]; rfl)) rfl rfl ?_
  refine Lp (V_fld rfl Tryz.underlying239 rfl ty237 (by decide) rfl) rfl rfl ?_
  obtain ⟨x16_3, hc, h⟩ := h
  refine Ls rfl rfl (X_ld rfl Tryz.underlying237 rfl rfl hc ?_)
  refine Lp (V_move rfl rfl) rfl rfl ?_
  refine Ls rfl rfl (X_lkp rfl rfl rfl (awp_mono _ h ?_))
  rintro v σ ⟨x18_4, rfl, h⟩
  refine Lp (V_asg rfl rfl) rfl rfl ?_
  refine Lnil ?_
  refine thenN ?_
  refine AW.seq ?_
  refine AW.seq ?_
  refine AW.reg ?_
  refine Lp (V_move rfl rfl) rfl rfl ?_
  refine Lp (V_eqP rfl Tryz.underlying164 rfl rfl) rfl rfl ?_
  refine Lnil ?_
  refine thenN ?_
  refine AW.iff rfl isNone_iff h (fun h => ?_) (fun h => ?_)
  · refine AW.seq ?_
    refine AW.reg ?_
    refine Lp (V_asg rfl rfl) rfl rfl ?_
    refine Lp (V_asg rfl rfl) rfl rfl ?_
    refine Lnil ?_
    refine thenN ?_
    refine AW.ret ?_
    refine thenR ?_
    exact bR2 Tryz.results79 rfl rfl ⟨_, _, rfl, h⟩
  refine AW.skip ?_
  refine thenN ?_
  refine AW.seq ?_
  refine AW.reg ?_
  refine Lp (V_move rfl rfl) rfl rfl ?_
  refine Lp (V_asg rfl rfl) rfl rfl ?_
  refine Lp (V_asg rfl rfl) rfl rfl ?_
  refine Lnil ?_
  refine thenN ?_
  refine AW.ret ?_
  exact bR2 Tryz.results79 rfl rfl ⟨_, _, rfl, h⟩

def j10_ztree_Tree_Create (B : World) (ro : AH) (a0 : Option Addr) (a2 : Sl) (a3 : Int) (x40_5 : Option Addr) (Q : ByteArray → Int → AH → Prop) (x1_11 : ByteArray) (σ : AH) : Prop :=
 ∃ p73_12 : Addr, a0 = some p73_12 ∧
 ∃ (x75_13 : Option Nat), acell ro σ p73_12 = some (.map x75_13) ∧
 awp Tryz.prog ro (Instr.lookup 237 (.map x75_13) (.string x1_11) false) (fun v σ =>
  (∃ (x77_14 : Option Addr), v = .pointer x77_14 ∧
   if ¬ (x77_14 = none) then
    Q (⟨#[]⟩ : ByteArray) 71 σ
   else
   lent σ fun ψ σ =>
    ∃ p80_15 : Addr, a0 = some p80_15 ∧
    ∃ (x82_16 : Option Nat), acell (join ro ψ) (fun _ => none) p80_15 = some (.map x82_16) ∧
    c_bytes_Clone B (join ro ψ) a2 σ fun x87_17 σ =>
    nw (join ro ψ) σ (.cells #[.int .i64 0, .int .i64 0, .int .i64 a3, .int .i64 0, Sl.v x87_17] 168) fun x89_18 σ =>
    awp Tryz.prog (join ro ψ) (Instr.mapUpdate 237 (.map x82_16) (.string x1_11) (.pointer (some ⟨x89_18, 0, none⟩))) (fun _ σ =>
     (Disj ψ σ → (fun σ => 
      ∃ p91_19 : Addr, x40_5 = some p91_19 ∧
      ∃ (x94_20 : Int), acell ro σ (p91_19.add 1) = some (.int .i64 x94_20) ∧
      ∃ p96_21 : Addr, x40_5 = some p96_21 ∧
      stN (p96_21.add 1) (fun σ =>
       ∃ p100_22 : Addr, x40_5 = some p100_22 ∧
       ∃ (x103_23 : Int), acell ro σ (p100_22.add 3) = some (.int .i64 x103_23) ∧
       ∃ p105_24 : Addr, x40_5 = some p105_24 ∧
       stN (p105_24.add 3) (fun σ =>
        Q x1_11 0 σ) [.int .i64 (IntKind.i64.wrap (x103_23 + 1))] 0 σ) [.int .i64 (IntKind.i64.wrap (x94_20 + 1))] 0 σ) (join ψ σ))) σ)) σ

def f_ztree_Tree_Create (B : World) (ro : AH) (a0 : Option Addr) (a1 : ByteArray) (a2 : Sl) (a3 : Int) (a4 : Bool) (σ : AH) (Q : ByteArray → Int → AH → Prop) : Prop :=
 c_path_Parent B ro a1 σ fun x17_1 x17_2 σ =>
 if ¬ (x17_2 = 0) then
  Q (⟨#[]⟩ : ByteArray) x17_2 σ
 else
 if 256 < (a2.len : Int) then
  Q (⟨#[]⟩ : ByteArray) 75 σ
 else
 if (a3 < 0) ∨ (4611686018427387903 < a3) then
  Q (⟨#[]⟩ : ByteArray) 10 σ
 else
 ∃ p36_3 : Addr, a0 = some p36_3 ∧
 ∃ (x38_4 : Option Nat), acell ro σ p36_3 = some (.map x38_4) ∧
 awp Tryz.prog ro (Instr.lookup 237 (.map x38_4) (.string x17_1) false) (fun v σ =>
  (∃ (x40_5 : Option Addr), v = .pointer x40_5 ∧
   if x40_5 = none then
    Q (⟨#[]⟩ : ByteArray) 70 σ
   else
   ∃ p46_6 : Addr, x40_5 = some p46_6 ∧
   ∃ (x49_7 : Int), acell ro σ (p46_6.add 2) = some (.int .i64 x49_7) ∧
   if ¬ (x49_7 = 0) then
    Q (⟨#[]⟩ : ByteArray) 74 σ
   else
   ∃ p53_8 : Addr, x40_5 = some p53_8 ∧
   ∃ (x56_9 : Int), acell ro σ (p53_8.add 1) = some (.int .i64 x56_9) ∧
   if 9999999999 < x56_9 then
    Q (⟨#[]⟩ : ByteArray) 76 σ
   else
   if a4 = true then
    ∃ p62_25 : Addr, x40_5 = some p62_25 ∧
    ∃ (x65_26 : Int), acell ro σ (p62_25.add 1) = some (.int .i64 x65_26) ∧
    c_path_Suffix B ro a1 x65_26 σ fun x66_27 x66_28 σ =>
    if ¬ (x66_28 = 0) then
     Q (⟨#[]⟩ : ByteArray) x66_28 σ
    else
    j10_ztree_Tree_Create B ro a0 a2 a3 x40_5 Q x66_27 σ
   else
   j10_ztree_Tree_Create B ro a0 a2 a3 x40_5 Q a1 σ)) σ

set_option maxRecDepth 100000 in
set_option maxHeartbeats 4000000 in
theorem ztree_Tree_Create_ok {B : World} {ro : AH} {a0 : Option Addr} {a1 : ByteArray} {a2 : Sl} {a3 : Int} {a4 : Bool} {σ : AH} {Q : ByteArray → Int → AH → Prop} (h : Sep ro σ → f_ztree_Tree_Create B ro a0 a1 a2 a3 a4 σ Q) : c_ztree_Tree_Create B ro a0 a1 a2 a3 a4 σ Q := by
  refine ACalls.of_sep fun hsep => ?_
  replace h := h hsep
  refine ACalls.of_body (args := [.pointer a0, .string a1, Sl.v a2, .int .i64 a3, .bool a4]) Tryz.func122 rfl (by rw [Tryz.ntmps122]; simp) ?_
  rw [Tryz.ntmps122]
  unfold f_ztree_Tree_Create at h
  refine AW.seq ?_
  refine AW.reg ?_
  refine Lp (V_asg rfl rfl) rfl rfl ?_
  refine Lp (V_asg rfl rfl) rfl rfl ?_
  refine Lnil ?_
  refine thenN ?_
  refine AW.seq ?_
  refine AW.reg ?_
  refine Lp (V_move rfl rfl) rfl rfl ?_
  refine Ls rfl rfl (X_call rfl Tryz.func179 rfl rfl rfl (ACalls.mono h ?_))
  rintro v σ ⟨x17_1, x17_2, rfl, h⟩
  refine Lp (V_move rfl rfl) rfl rfl ?_
  refine Lp (V_ext rfl rfl rfl) rfl rfl ?_
  refine Lp (V_ext rfl rfl rfl) rfl rfl ?_
  refine Lp (V_asg rfl rfl) rfl rfl ?_
  refine Lp (V_asg rfl rfl) rfl rfl ?_
  refine Lnil ?_
  refine thenN ?_
  refine AW.seq ?_
  refine AW.block ?_
  refine AW.seq ?_
  refine AW.reg ?_
  refine Lp (V_move rfl rfl) rfl rfl ?_
  refine Lp (V_neq rfl rfl rfl) rfl rfl ?_
  refine Lp (V_asg rfl rfl) rfl rfl ?_
  refine Lnil ?_
  refine thenN ?_
  refine AW.iff rfl (bnot_iff decide_eq_true_iff) h (fun h => ?_) (fun h => ?_)
  · refine AW.seq ?_
    refine AW.reg ?_
    refine Lp (V_move rfl rfl) rfl rfl ?_
    refine Lp (V_asg rfl rfl) rfl rfl ?_
    refine Lp (V_asg rfl rfl) rfl rfl ?_
    refine Lnil ?_
    refine thenN ?_
    refine AW.ret ?_
    refine blockR ?_
    refine thenR ?_
    exact bR2 Tryz.results122 rfl rfl ⟨_, _, rfl, h⟩
  refine AW.seq ?_
  refine AW.reg ?_
  refine Lp (V_move rfl rfl) rfl rfl ?_
  refine Lp (V_lenL rfl rfl Tryz.underlying24 rfl rfl) rfl rfl ?_
  refine Lp (V_gtr rfl rfl rfl) rfl rfl ?_
  refine Lp (V_asg rfl rfl) rfl rfl ?_
  refine Lnil ?_
  refine thenN ?_
  refine AW.iff rfl decide_eq_true_iff h (fun h => ?_) (fun h => ?_)
  · refine AW.seq ?_
    refine AW.reg ?_
    refine Lp (V_asg rfl rfl) rfl rfl ?_
    refine Lp (V_asg rfl rfl) rfl rfl ?_
    refine Lnil ?_
    refine thenN ?_
    refine AW.ret ?_
    refine blockR ?_
    refine thenR ?_
    exact bR2 Tryz.results122 rfl rfl ⟨_, _, rfl, h⟩
  refine AW.seq ?_
  refine AW.reg ?_
  refine Lp (V_move rfl rfl) rfl rfl ?_
  refine Lp (V_lss rfl rfl rfl) rfl rfl ?_
  refine Lp (V_move rfl rfl) rfl rfl ?_
  refine Lsplit 3 (decide (a3 < 0)) [(0, .pointer a0), (1, .string a1), (2, Sl.v a2), (3, .int .i64 a3), (4, .bool a4), (12, .string x17_1), (34, .bool ((decide (a3 < 0)) || (decide (4611686018427387903 < a3))))] ?_ ?_ ?_
  · intro e2 hk2
    refine Ln rfl rfl rfl rfl (.inl (by rw [e2]; rfl)) ?_
    refine Ln rfl rfl rfl rfl (.inl (by rw [e2]; rfl)) ?_
    refine Lp (V_pickT rfl (evb e2) rfl) rfl rfl ?_
    exact hk2 _ (FrLe.cons rfl (FrLe.cons rfl (FrLe.cons rfl (FrLe.cons rfl (FrLe.cons rfl (FrLe.cons rfl (FrLe.cons (by rw [e2]; rfl) (FrLe.nil _))))))))
  · intro e2 hk2
    refine Lypb (V_move rfl rfl) rfl rfl rfl rfl e2 ?_
    refine Lypb (V_gtr rfl rfl rfl) rfl rfl rfl rfl e2 ?_
    refine Lp (V_pickF rfl (evb e2) rfl) rfl rfl ?_
    exact hk2 _ (FrLe.cons rfl (FrLe.cons rfl (FrLe.cons rfl (FrLe.cons rfl (FrLe.cons rfl (FrLe.cons rfl (FrLe.cons (by rw [e2]; rfl) (FrLe.nil _))))))))
  intro fr hl
  refine Lfr hl ?_
  refine Lp (V_asg rfl rfl) rfl rfl ?_
  refine Lnil ?_
  refine thenN ?_
  refine AW.iff rfl (bor_iff decide_eq_true_iff decide_eq_true_iff) h (fun h => ?_) (fun h => ?_)
  · refine AW.seq ?_
    refine AW.reg ?_
    refine Lp (V_asg rfl rfl) rfl rfl ?_
    refine Lp (V_asg rfl rfl) rfl rfl ?_
    refine Lnil ?_
    refine thenN ?_
    refine AW.ret ?_
    refine blockR ?_
    refine thenR ?_
    exact bR2 Tryz.results122 rfl rfl ⟨_, _, rfl, h⟩
  refine AW.skip ?_
  refine blockN ?_
  refine thenN ?_
  refine AW.seq ?_
  refine AW.reg ?_
  refine Lp (V_move rfl rfl) rfl rfl ?_
  obtain ⟨p36_3, hc, h⟩ := h
  refine Lp (V_nil rfl (by rw [← hc]; rfl)) rfl rfl ?_
  refine Lp (V_fld rfl Tryz.underlying239 rfl ty237 (by decide) rfl) rfl rfl ?_
  obtain ⟨x38_4, hc, h⟩ := h
  refine Ls rfl rfl (X_ld rfl Tryz.underlying237 rfl rfl hc ?_)
  refine Lp (V_move rfl rfl) rfl rfl ?_
  refine Ls rfl rfl (X_lkp rfl rfl rfl (awp_mono _ h ?_))
  rintro v σ ⟨x40_5, rfl, h⟩
  refine Lp (V_asg rfl rfl) rfl rfl ?_
  refine Lnil ?_
  refine thenN ?_
  refine AW.seq ?_
  refine AW.block ?_
  refine AW.seq ?_
  refine AW.reg ?_
  refine Lp (V_move rfl rfl) rfl rfl ?_
  refine Lp (V_eqP rfl Tryz.underlying164 rfl rfl) rfl rfl ?_
  refine Lp (V_asg rfl rfl) rfl rfl ?_
  refine Lnil ?_
  refine thenN ?_
  refine AW.iff rfl isNone_iff h (fun h => ?_) (fun h => ?_)
  · refine AW.seq ?_
    refine AW.reg ?_
    refine Lp (V_asg rfl rfl) rfl rfl ?_
    refine Lp (V_asg rfl rfl) rfl rfl ?_
    refine Lnil ?_
    refine thenN ?_
    refine AW.ret ?_
    refine blockR ?_
    refine thenR ?_
    exact bR2 Tryz.results122 rfl rfl ⟨_, _, rfl, h⟩
  refine AW.seq ?_
  refine AW.reg ?_
  refine Lp (V_move rfl rfl) rfl rfl ?_
  obtain ⟨p46_6, hc, h⟩ := h
  refine Lp (V_nil rfl (by rw [← hc]; rfl)) rfl rfl ?_
  refine Lp (V_fld rfl Tryz.underlying168 rfl ty26 (by decide) rfl) rfl rfl ?_
  refine Lp (V_fld rfl Tryz.underlying26 rfl ty3 (by decide) rfl) rfl rfl ?_
  obtain ⟨x49_7, hc, h⟩ := h
  refine Ls rfl rfl (X_ld rfl Tryz.underlying3 rfl rfl hc ?_)
  refine Lp (V_neq rfl rfl rfl) rfl rfl ?_
  refine Lp (V_asg rfl rfl) rfl rfl ?_
  refine Lnil ?_
  refine thenN ?_
  refine AW.iff rfl (bnot_iff decide_eq_true_iff) h (fun h => ?_) (fun h => ?_)
  · refine AW.seq ?_
    refine AW.reg ?_
    refine Lp (V_asg rfl rfl) rfl rfl ?_
    refine Lp (V_asg rfl rfl) rfl rfl ?_
    refine Lnil ?_
    refine thenN ?_
    refine AW.ret ?_
    refine blockR ?_
    refine thenR ?_
    exact bR2 Tryz.results122 rfl rfl ⟨_, _, rfl, h⟩
  refine AW.seq ?_
  refine AW.reg ?_
  refine Lp (V_move rfl rfl) rfl rfl ?_
  obtain ⟨p53_8, hc, h⟩ := h
  refine Lp (V_nil rfl (by rw [← hc]; rfl)) rfl rfl ?_
  refine Lp (V_fld rfl Tryz.underlying168 rfl ty26 (by decide) rfl) rfl rfl ?_
  refine Lp (V_fld rfl Tryz.underlying26 rfl ty3 (by decide) rfl) rfl rfl ?_
  obtain ⟨x56_9, hc, h⟩ := h
  refine Ls rfl rfl (X_ld rfl Tryz.underlying3 rfl rfl hc ?_)
  refine Lp (V_gtr rfl rfl rfl) rfl rfl ?_
  refine Lp (V_asg rfl rfl) rfl rfl ?_
  refine Lnil ?_
  refine thenN ?_
  refine AW.iff rfl decide_eq_true_iff h (fun h => ?_) (fun h => ?_)
  · refine AW.seq ?_
    refine AW.reg ?_
    refine Lp (V_asg rfl rfl) rfl rfl ?_
    refine Lp (V_asg rfl rfl) rfl rfl ?_
    refine Lnil ?_
    refine thenN ?_
    refine AW.ret ?_
    refine blockR ?_
    refine thenR ?_
    exact bR2 Tryz.results122 rfl rfl ⟨_, _, rfl, h⟩
  refine AW.skip ?_
  refine blockN ?_
  refine thenN ?_
  refine AW.seqJ (fun fr σ => ∃ (x1_11 : ByteArray), FrLe [(0, .pointer a0), (2, Sl.v a2), (3, .int .i64 a3), (14, .pointer x40_5), (1, .string x1_11)] fr ∧ j10_ztree_Tree_Create B ro a0 a2 a3 x40_5 Q x1_11 σ) ?_ ?_
  rotate_left
  · refine AW.seq ?_
    refine AW.reg ?_
    refine Lp (V_move rfl rfl) rfl rfl ?_
    refine Lnil ?_
    refine thenN ?_
    refine AW.iff rfl Iff.rfl h (fun h => ?_) (fun h => ?_)
    rotate_left
    · refine AW.skip ?_
      refine thenN ?_
      exact ⟨_, (FrLe.cons rfl (FrLe.cons rfl (FrLe.cons rfl (FrLe.cons rfl (FrLe.cons rfl (FrLe.nil _)))))), h⟩
    refine AW.seq ?_
    refine AW.reg ?_
    refine Lp (V_move rfl rfl) rfl rfl ?_
    refine Lp (V_move rfl rfl) rfl rfl ?_
    obtain ⟨p62_25, hc, h⟩ := h
    refine Lp (V_nil rfl (by rw [← hc]; rfl)) rfl rfl ?_
    refine Lp (V_fld rfl Tryz.underlying168 rfl ty26 (by decide) rfl) rfl rfl ?_
    refine Lp (V_fld rfl Tryz.underlying26 rfl ty3 (by decide) rfl) rfl rfl ?_
    obtain ⟨x65_26, hc, h⟩ := h
    refine Ls rfl rfl (X_ld rfl Tryz.underlying3 rfl rfl hc ?_)
    refine Ls rfl rfl (X_call rfl Tryz.func180 rfl rfl rfl (ACalls.mono h ?_))
    rintro v σ ⟨x66_27, x66_28, rfl, h⟩
    refine Lp (V_move rfl rfl) rfl rfl ?_
    refine Lp (V_ext rfl rfl rfl) rfl rfl ?_
    refine Lp (V_ext rfl rfl rfl) rfl rfl ?_
    refine Lp (V_asg rfl rfl) rfl rfl ?_
    refine Lp (V_asg rfl rfl) rfl rfl ?_
    refine Lnil ?_
    refine thenN ?_
    refine AW.seq ?_
    refine AW.reg ?_
    refine Lp (V_move rfl rfl) rfl rfl ?_
    refine Lp (V_neq rfl rfl rfl) rfl rfl ?_
    refine Lnil ?_
    refine thenN ?_
    refine AW.iff rfl (bnot_iff decide_eq_true_iff) h (fun h => ?_) (fun h => ?_)
    rotate_left
    · refine AW.skip ?_
      refine thenN ?_
      exact ⟨_, (FrLe.cons rfl (FrLe.cons rfl (FrLe.cons rfl (FrLe.cons rfl (FrLe.cons rfl (FrLe.nil _)))))), h⟩
    refine AW.seq ?_
    refine AW.reg ?_
    refine Lp (V_move rfl rfl) rfl rfl ?_
    refine Lp (V_asg rfl rfl) rfl rfl ?_
    refine Lp (V_asg rfl rfl) rfl rfl ?_
    refine Lnil ?_
    refine thenN ?_
    refine AW.ret ?_
    refine thenR ?_
    exact bR2 Tryz.results122 rfl rfl ⟨_, _, rfl, h⟩
  rintro fr σ ⟨x1_11, hl, h⟩
  refine AW.weaken ?_ hl (HLe.refl _)
  unfold j10_ztree_Tree_Create at h
  refine AW.seq ?_
  refine AW.seq ?_
  refine AW.reg ?_
  refine Lp (V_move rfl rfl) rfl rfl ?_
  obtain ⟨p73_12, hc, h⟩ := h
  refine Lp (V_nil rfl (by rw [← hc]; rfl)) rfl rfl ?_
  refine Lp (V_fld rfl Tryz.underlying239 rfl ty237 (by decide) rfl) rfl rfl ?_
  obtain ⟨x75_13, hc, h⟩ := h
  refine Ls rfl rfl (X_ld rfl Tryz.underlying237 rfl rfl hc ?_)
  refine Lp (V_move rfl rfl) rfl rfl ?_
  refine Ls rfl rfl (X_lkp rfl rfl rfl (awp_mono _ h ?_))
  rintro v σ ⟨x77_14, rfl, h⟩
  refine Lp (V_neP rfl Tryz.underlying164 rfl rfl) rfl rfl ?_
  refine Lnil ?_
  refine thenN ?_
  refine AW.iff rfl (bnot_iff isNone_iff) h (fun h => ?_) (fun h => ?_)
  · refine AW.seq ?_
    refine AW.reg ?_
    refine Lp (V_asg rfl rfl) rfl rfl ?_
    refine Lp (V_asg rfl rfl) rfl rfl ?_
    refine Lnil ?_
    refine thenN ?_
    refine AW.ret ?_
    refine thenR ?_
    exact bR2 Tryz.results122 rfl rfl ⟨_, _, rfl, h⟩
  refine AW.skip ?_
  refine thenN ?_
  refine AW.seq ?_
  refine AW.drawnL (fun i => ([0, 0, 0, 0, 0, 0, 0, 0, 2, 0, 1, 2] : List Nat).getD i 2) [] [0, 1, 2, 3, 4, 5, 6, 7, 8, 9, 10, 11] Tryz.mixed h (by decide +kernel) ?_
  clear h
  intro ψ σ h
  refine Dp rfl rfl rfl rfl (V_move rfl rfl) ?_
  obtain ⟨p80_15, hc, h⟩ := h
  refine Dp rfl rfl rfl rfl (V_nil rfl (by rw [← hc]; rfl)) ?_
  refine Dp rfl rfl rfl rfl (V_fld rfl Tryz.underlying239 rfl ty237 (by decide) rfl) ?_
  obtain ⟨x82_16, hc, h⟩ := h
  refine Dp rfl rfl rfl rfl (V_ld rfl Tryz.underlying237 rfl rfl hc) ?_
  refine Dp rfl rfl rfl rfl (V_move rfl rfl) ?_
  refine Dp rfl rfl rfl rfl (V_move rfl rfl) ?_
  refine Dp rfl rfl rfl rfl (V_bld (vs := [(2, .int .i64 a3)]) (cs := #[.int .i64 0, .int .i64 0, .int .i64 a3, .int .i64 0]) rfl Tryz.underlying26 ty26 pl26 rfl rfl) ?_
  refine Dp rfl rfl rfl rfl (V_move rfl rfl) ?_
  refine Dg rfl rfl rfl rfl (X_call rfl Tryz.func80 rfl rfl rfl (ACalls.mono h ?_))
  rintro v σ ⟨x87_17, rfl, h⟩
  refine Dp rfl rfl rfl rfl (V_bld (vs := [(0, .agg #[.int .i64 0, .int .i64 0, .int .i64 a3, .int .i64 0]), (1, Sl.v x87_17)]) (cs := #[.int .i64 0, .int .i64 0, .int .i64 a3, .int .i64 0, Sl.v x87_17]) rfl Tryz.underlying168 ty168 pl168 rfl rfl) ?_
  refine Da rfl rfl rfl rfl (A_box rfl rfl) fun x89_18 g1 g2 => ?_
  replace h := h x89_18 g1 g2
  refine Dg rfl rfl rfl rfl (X_mup (.inl rfl) rfl rfl rfl (awp_mono _ h ?_))
  rintro _ σ h
  refine ⟨_, FrEq.refl _, fun hdj => ?_⟩
  replace h := h hdj
  refine thenN ?_
  refine AW.seq ?_
  refine AW.reg ?_
  refine Lp (V_move rfl rfl) rfl rfl ?_
  obtain ⟨p91_19, hc, h⟩ := h
  refine Lp (V_nil rfl (by rw [← hc]; rfl)) rfl rfl ?_
  refine Lp (V_fld rfl Tryz.underlying168 rfl ty26 (by decide) rfl) rfl rfl ?_
  refine Lp (V_fld rfl Tryz.underlying26 rfl ty3 (by decide) rfl) rfl rfl ?_
  obtain ⟨x94_20, hc, h⟩ := h
  refine Ls rfl rfl (X_ld rfl Tryz.underlying3 rfl rfl hc ?_)
  refine Lp (V_add rfl rfl rfl) rfl rfl ?_
  obtain ⟨p96_21, hc, h⟩ := h
  refine Lp (V_nil rfl (by rw [← hc]; rfl)) rfl rfl ?_
  refine Lp (V_fld rfl Tryz.underlying168 rfl ty26 (by decide) rfl) rfl rfl ?_
  refine Lp (V_fld rfl Tryz.underlying26 rfl ty3 (by decide) rfl) rfl rfl ?_
  refine Ls rfl rfl (X_st rfl ty3 rfl rfl rfl rfl (stN_mono h fun σ h => ?_))
  refine Lnil ?_
  refine thenN ?_
  refine AW.seq ?_
  refine AW.reg ?_
  refine Lp (V_move rfl rfl) rfl rfl ?_
  obtain ⟨p100_22, hc, h⟩ := h
  refine Lp (V_nil rfl (by rw [← hc]; rfl)) rfl rfl ?_
  refine Lp (V_fld rfl Tryz.underlying168 rfl ty26 (by decide) rfl) rfl rfl ?_
  refine Lp (V_fld rfl Tryz.underlying26 rfl ty3 (by decide) rfl) rfl rfl ?_
  obtain ⟨x103_23, hc, h⟩ := h
  refine Ls rfl rfl (X_ld rfl Tryz.underlying3 rfl rfl hc ?_)
  refine Lp (V_add rfl rfl rfl) rfl rfl ?_
  obtain ⟨p105_24, hc, h⟩ := h
  refine Lp (V_nil rfl (by rw [← hc]; rfl)) rfl rfl ?_
  refine Lp (V_fld rfl Tryz.underlying168 rfl ty26 (by decide) rfl) rfl rfl ?_
  refine Lp (V_fld rfl Tryz.underlying26 rfl ty3 (by decide) rfl) rfl rfl ?_
  refine Ls rfl rfl (X_st rfl ty3 rfl rfl rfl rfl (stN_mono h fun σ h => ?_))
  refine Lnil ?_
  refine thenN ?_
  refine AW.seq ?_
  refine AW.reg ?_
  refine Lp (V_move rfl rfl) rfl rfl ?_
  refine Lp (V_asg rfl rfl) rfl rfl ?_
  refine Lp (V_asg rfl rfl) rfl rfl ?_
  refine Lnil ?_
  refine thenN ?_
  refine AW.ret ?_
  exact bR2 Tryz.results122 rfl rfl ⟨_, _, rfl, h⟩

end Go.Proofs.YtomdigihapdhnaaGreatDoor.G

/- The tree in memory: the map of nodes, as a list of paths and nodes; look-ups, changes of a node, new nodes, nodes that go. -/
namespace Go.Proofs.YtomdigihapdhnaaGreatDoor.Zt
open Go Go.Proofs.YtomdigihapdhnaaGreatDoor.SL Go.Proofs.YtomdigihapdhnaaGreatDoor.G Go.Proofs.YtomdigihapdhnaaGreatDoor.Pa
set_option linter.unusedSimpArgs false
set_option linter.unusedVariables false
variable {B : World} {ro σ σ' : AH} {tag tag' : Nat → Nat}

structure Nd where
  ver : Int
  ctr : Int
  own : Int
  kids : Int
  data : Str
abbrev St := List (Str × Nd)
abbrev vI (x : Int) : Value := .int .i64 x
abbrev vU (c : UInt8) : Value := .int .u8 c.toNat
abbrev ptr (b : Nat) : Value := .pointer (some ⟨b, 0, none⟩)
def NodeAt (tag : Nat → Nat) (σ : AH) (r b : Nat) (n : Nd) : Prop :=
  ∃ s : Sl, Row tag σ (r + 64 * (b + 2)) 168 ⟨some ⟨b, 0, none⟩, 5, 5⟩ [vI n.ver, vI n.ctr, vI n.own, vI n.kids, Sl.v s] ∧ Row tag σ 6 5 s (n.data.map vU)
def kv : St → List Nat → KV
  | (p, _) :: st, b :: bs => (p, ptr b) :: kv st bs
  | _, _ => []
structure TreeAt (tag : Nat → Nat) (σ : AH) (r T M : Nat) (bs : List Nat) (st : St) : Prop where
  keys : (st.map (·.1)).Nodup
  len : bs.length = st.length
  nd : bs.Nodup
  cell : Row tag σ r 239 ⟨some ⟨T, 0, none⟩, 1, 1⟩ [.map (some M)]
  map : MapIs tag σ (r + 64) M (kv st bs)
  nodes : ∀ (i b : Nat) (p : Str × Nd), bs[i]? = some b → st[i]? = some p → NodeAt tag σ r b p.2
def TreeIs (tag : Nat → Nat) (σ : AH) (r T : Nat) (st : St) : Prop := ∃ M bs, TreeAt tag σ r T M bs st

theorem NodeAt.keep {R : List Nat} {r b : Nat} {n : Nd} (h : NodeAt tag σ r b n) (k : Step R ro tag σ tag' σ') (h1 : r + 64 * (b + 2) ∉ R) (h2 : 6 ∉ R) : NodeAt tag' σ' r b n := by
  obtain ⟨s, a, c⟩ := h
  exact ⟨s, a.keep k h1, c.keep k h2⟩
theorem TreeAt.keepC {c r T M : Nat} {bs : List Nat} {st : St} (h : TreeAt tag σ r T M bs st) (k : StepC c ro tag σ tag' σ') (hr : r % 64 ≠ c) (h6 : c ≠ 6) : TreeAt tag' σ' r T M bs st :=
  ⟨h.keys, h.len, h.nd, h.cell.keepC k hr, h.map.keepC k (by omega), fun i b p hb hp => by
    obtain ⟨s, a, e⟩ := h.nodes i b p hb hp
    exact ⟨s, a.keepC k (by omega), e.keepC k (by omega)⟩⟩
theorem TreeAt.keep {R : List Nat} {r T M : Nat} {bs : List Nat} {st : St} (h : TreeAt tag σ r T M bs st) (k : Step R ro tag σ tag' σ') (hR : ∀ x ∈ R, x % 64 ≠ r % 64 ∧ x ≠ 6) : TreeAt tag' σ' r T M bs st :=
  ⟨h.keys, h.len, h.nd, h.cell.keep k fun m => (hR _ m).1 rfl, h.map.keep k fun m => (hR _ m).1 (by omega), fun i b p hb hp => (h.nodes i b p hb hp).keep k (fun m => (hR _ m).1 (by omega)) fun m => (hR _ m).2 rfl⟩
theorem TreeIs.keepC {c r T : Nat} {st : St} (h : TreeIs tag σ r T st) (k : StepC c ro tag σ tag' σ') (hr : r % 64 ≠ c) (h6 : c ≠ 6) : TreeIs tag' σ' r T st := by
  obtain ⟨M, bs, h⟩ := h
  exact ⟨M, bs, h.keepC k hr h6⟩
theorem TreeIs.keep {R : List Nat} {r T : Nat} {st : St} (h : TreeIs tag σ r T st) (k : Step R ro tag σ tag' σ') (hR : ∀ x ∈ R, x % 64 ≠ r % 64 ∧ x ≠ 6) : TreeIs tag' σ' r T st := by
  obtain ⟨M, bs, h⟩ := h
  exact ⟨M, bs, h.keep k hR⟩

theorem kv_lookup : ∀ (st : St) (bs : List Nat) (u : Str), bs.length = st.length →
    (st.lookup u = none ∧ (kv st bs).lookup u = none) ∨ ∃ (i b : Nat) (n : Nd), bs[i]? = some b ∧ st[i]? = some (u, n) ∧ st.lookup u = some n ∧ (kv st bs).lookup u = some (ptr b) := by
  intro st
  induction st with
  | nil => intro bs u h; exact .inl ⟨rfl, by cases bs <;> rfl⟩
  | cons p st ih =>
    intro bs u h
    cases bs with
    | nil => simp at h
    | cons b bs =>
      obtain ⟨p, n⟩ := p
      simp only [List.length_cons, Nat.add_right_cancel_iff] at h
      unfold kv
      rw [List.lookup_cons, List.lookup_cons]
      by_cases c : u = p
      · subst c
        rw [show (u == u) = true by simp]
        exact .inr ⟨0, b, n, rfl, rfl, rfl, rfl⟩
      · rw [show (u == p) = false by simpa using c]
        rcases ih bs u h with h' | ⟨i, b', n', h1, h2, h3, h4⟩
        · exact .inl h'
        · exact .inr ⟨i + 1, b', n', by simpa using h1, by simpa using h2, h3, h4⟩
def modN (st : St) (u : Str) (f : Nd → Nd) : St := st.map fun p => if p.1 = u then (p.1, f p.2) else p
theorem modN_set {st : St} (hk : (st.map (·.1)).Nodup) {i : Nat} {u : Str} {n : Nd} (h : st[i]? = some (u, n)) (f : Nd → Nd) : modN st u f = st.set i (u, f n) := by
  unfold modN
  apply List.ext_getElem?
  intro j
  rw [List.getElem?_map, List.getElem?_set]
  have hil : i < st.length := by
    rcases Nat.lt_or_ge i st.length with h' | h'
    · exact h'
    · rw [List.getElem?_eq_none h'] at h; cases h
  by_cases c : i = j
  · subst c; rw [if_pos rfl, if_pos hil, h]; simp
  · rw [if_neg c]
    cases e : st[j]? with
    | none => rfl
    | some p =>
      have hne : p.1 ≠ u := by
        intro hp
        apply c
        have hjl : j < st.length := by
          rcases Nat.lt_or_ge j st.length with h' | h'
          · exact h'
          · rw [List.getElem?_eq_none h'] at e; cases e
        refine (List.getElem_inj (h₀ := by simpa using hil) (h₁ := by simpa using hjl) hk).1 ?_
        rw [List.getElem?_eq_getElem hil] at h
        rw [List.getElem?_eq_getElem hjl] at e
        simp only [List.getElem_map]
        rw [Option.some.inj h, Option.some.inj e, hp]
      simp [hne]
theorem kv_set : ∀ (st : St) (bs : List Nat) (i : Nat) (u : Str) (n n' : Nd), st[i]? = some (u, n) → kv (st.set i (u, n')) bs = kv st bs := by
  intro st
  induction st with
  | nil => intro bs i u n n' h; cases h
  | cons p st ih =>
    intro bs i u n n' h
    cases bs with
    | nil => cases i <;> simp [kv]
    | cons b bs =>
      cases i with
      | zero => cases h; rfl
      | succ i => simp only [List.set_cons_succ]; unfold kv; rw [ih bs i u n n' (by simpa using h)]
theorem keys_set {st : St} {i : Nat} {u : Str} {n n' : Nd} (h : st[i]? = some (u, n)) : (st.set i (u, n')).map (·.1) = st.map (·.1) := by
  rw [List.map_set]
  apply List.ext_getElem?
  intro j
  rw [List.getElem?_set, List.getElem?_map]
  by_cases c : i = j
  · subst c; rw [h]; simp
    rcases Nat.lt_or_ge i st.length with h' | h'
    · exact h'
    · rw [List.getElem?_eq_none h'] at h; cases h
  · rw [if_neg c]
theorem idx_inj {α : Type} {l : List α} (hn : l.Nodup) {i j : Nat} {x : α} (hi : l[i]? = some x) (hj : l[j]? = some x) : i = j := by
  have hil : i < l.length := by
    rcases Nat.lt_or_ge i l.length with h' | h'
    · exact h'
    · rw [List.getElem?_eq_none h'] at hi; cases hi
  have hjl : j < l.length := by
    rcases Nat.lt_or_ge j l.length with h' | h'
    · exact h'
    · rw [List.getElem?_eq_none h'] at hj; cases hj
  rw [List.getElem?_eq_getElem hil] at hi
  rw [List.getElem?_eq_getElem hjl] at hj
  exact (List.getElem_inj hn).1 (by rw [Option.some.inj hi, Option.some.inj hj])
/-- a node is another one now -/
theorem TreeAt.write {r T i b M : Nat} {st : St} {bs : List Nat} {u : Str} {n n' : Nd} (h : TreeAt tag σ r T M bs st) (hr : r < 64) (hr6 : r ≠ 6) (hb : bs[i]? = some b) (hp : st[i]? = some (u, n)) (k : Step [r + 64 * (b + 2)] ro tag σ tag' σ') (hnew : NodeAt tag' σ' r b n') : TreeAt tag' σ' r T M bs (st.set i (u, n')) := by
  refine ⟨by rw [keys_set hp]; exact h.keys, by simpa using h.len, h.nd, h.cell.keep k (by simp), ?_, fun j c p hc hp' => ?_⟩
  · rw [kv_set _ _ _ _ _ _ hp]; exact h.map.keep k (by simp; omega)
  · rw [List.getElem?_set] at hp'
    by_cases e : i = j
    · subst e
      rw [hb] at hc; cases hc
      rw [if_pos rfl] at hp'
      split at hp'
      · cases hp'; exact hnew
      · cases hp'
    · rw [if_neg e] at hp'
      refine (h.nodes j c p hc hp').keep k ?_ ?_
      · simp
        intro h'
        have : b = c := by omega
        subst this
        exact e (idx_inj h.nd hb hc)
      · simp; omega
end Go.Proofs.YtomdigihapdhnaaGreatDoor.Zt

/- The tree, the walk: New, find, check, Create. -/
namespace Go.Proofs.YtomdigihapdhnaaGreatDoor.Zt
open Go Go.Proofs.YtomdigihapdhnaaGreatDoor.SL Go.Proofs.YtomdigihapdhnaaGreatDoor.G Go.Proofs.YtomdigihapdhnaaGreatDoor.Pa
set_option linter.unusedSimpArgs false
set_option linter.unusedVariables false
variable {B : World} {ro σ σ' : AH} {tag tag' : Nat → Nat}

theorem u126 : Tryz.prog.underlying 237 = some (.map 9 164) := by kernel_rfl
theorem u9 : Tryz.prog.underlying 9 = some .string := by kernel_rfl
theorem u30 : Tryz.prog.underlying 24 = some (.slice 5) := by kernel_rfl
theorem ty129 : TyIs Tryz.prog 164 (.pointer none) 1 8 := TyIs.of (by kernel_rfl)

set_option maxRecDepth 100000 in
theorem clone_ok {s : Sl} {l : List Value} {Q : Sl → AH → Prop} (h : SL.Read ro σ s l) (hs : SL.Sep ro σ) (hl : l.length ≤ 140737488355328) (hv : ∀ v ∈ l, storable v = true) (hQ : ∀ s' tag' σ', (∀ R, Step R ro tag σ tag' σ') → Row tag' σ' 6 5 s' l → Q s' σ') : c_bytes_Clone B ro s σ Q := by
  refine bytes_Clone_ok fun _ => ?_
  unfold f_bytes_Clone
  by_cases h0 : s.a = none
  · rw [if_pos h0]
    rw [h.2.1 h0] at hQ
    exact hQ _ tag σ (fun _ => Step.refl hs) (Row.nil 6 5)
  · rw [if_neg h0]
    refine nw_cells (tag := tag) 6 hs fun b tag1 σ1 st1 r1 => ?_
    have h' : SL.Read ro σ1 s l := h.step (st1 [])
    refine awp_appendN r1 (st1 []).sep h' u30 ty5 rfl hv (by simp; omega) (by decide) fun s' tag2 σ2 st2 r2 => ?_
    exact ⟨s', rfl, hQ s' tag2 σ2 (fun R => (st1 R).trans (st2 R (.inl rfl))) r2⟩

def St.new : St := [([47], ⟨0, 0, 0, 0, []⟩)]
set_option maxRecDepth 100000 in
theorem new_ok {Q : Option Addr → AH → Prop} (r : Nat) (hr : r < 64) (hr6 : r ≠ 6) (hQ : ∀ T tag' σ', StepC r ro tag σ tag' σ' → TreeIs tag' σ' r T St.new → Q (some ⟨T, 0, none⟩) σ') : c_ztree_New B ro σ Q := by
  refine ztree_New_ok fun hs => ?_
  unfold f_ztree_New
  refine nw_map (tag := tag) (r + 64) hs fun M tag1 σ1 st1 m1 => ?_
  refine nw_cellsF (tag := tag1) (fun b => r + 64 * (b + 2)) (st1 []).sep fun b tag2 σ2 _ _ st2 r2 => ?_
  have m2 := m1.keep (st2 []) (by simp)
  refine awp_update_str (k := [47]) m2 (st2 []).sep u126 u9 fun σ3 st3 m3 => ?_
  have r3 := r2.keep st3 (by simp; omega)
  refine nw_cells (tag := tag2) r st3.sep fun T tag4 σ4 st4 r4 => ?_
  have st : StepC r ro tag σ tag4 σ4 := ((st1 []).c (by simp)).trans (((st2 []).c (by simp)).trans ((st3.c (by simp; omega)).trans ((st4 []).c (by simp))))
  refine hQ T tag4 σ4 st ⟨M, [b], by simp [St.new], rfl, by simp, r4, m3.keep (st4 []) (by simp), fun i c p hc hp => ?_⟩
  rcases i with _ | i
  · cases hc; cases hp
    exact ⟨⟨none, 0, 0⟩, r3.keep (st4 []) (by simp), Row.nil 6 5⟩
  · cases hc

set_option maxRecDepth 100000 in
/-- where a path stands -/
theorem find_ok {r T M : Nat} {bs : List Nat} {st : St} {p : ByteArray} {Q : Option Addr → Int → AH → Prop} (g : Glob ro) (h : TreeAt tag σ r T M bs st) (hs : SL.Sep ro σ) (hbad : parts (L p) = none → Q none 20 σ)
    (hmiss : ∀ ps, parts (L p) = some ps → st.lookup (L p) = none → Q none 70 σ) (hhit : ∀ (ps : List Str) (i b : Nat) (n : Nd), parts (L p) = some ps → bs[i]? = some b → st[i]? = some (L p, n) → st.lookup (L p) = some n → Q (some ⟨b, 0, none⟩) 0 σ) :
    c_ztree_Tree_find B ro (some ⟨T, 0, none⟩) p σ Q := by
  refine ztree_Tree_find_ok fun _ => ?_
  unfold f_ztree_Tree_find
  refine check_ok g ?_
  by_cases h1 : Pa.chk (L p) = 0
  · rw [if_neg (by simpa using h1)]
    obtain ⟨ps, hps⟩ := chk_zero.1 h1
    refine ⟨_, rfl, _, Row.cell1 h.cell hs, ?_⟩
    rw [← S_L p]
    refine awp_lookup_str h.map hs u126 u9 ty129 ?_
    rcases kv_lookup st bs (L p) h.len with ⟨a, e⟩ | ⟨i, b, n, a1, a2, a3, e⟩
    · rw [e]
      exact ⟨none, rfl, by rw [if_pos rfl]; exact hmiss ps hps a⟩
    · rw [e]
      exact ⟨some ⟨b, 0, none⟩, rfl, by rw [if_neg (by simp)]; exact hhit ps i b n hps a1 a2 a3⟩
  · rw [if_pos (by simpa using h1)]
    have e : parts (L p) = none := by
      cases h : parts (L p) with
      | none => rfl
      | some ps => exact absurd (chk_zero.2 ⟨ps, h⟩) h1
    have : Pa.chk (L p) = 20 := by unfold Pa.chk; rw [e]; rfl
    rw [this]; exact hbad e

/-! what the calls do -/
def bump (n : Nd) : Nd := { n with ctr := IntKind.i64.wrap (n.ctr + 1), kids := IntKind.i64.wrap (n.kids + 1) }
def create (st : St) (p : Str) (data : Str) (o : Int) (seq : Bool) : St × Str × Int :=
  match parent p with
  | none => (st, [], 20)
  | some u =>
    if 256 < data.length then (st, [], 75)
    else if o < 0 ∨ 4611686018427387903 < o then (st, [], 10)
    else match st.lookup u with
      | none => (st, [], 70)
      | some n =>
        if n.own ≠ 0 then (st, [], 74)
        else if 9999999999 < n.ctr then (st, [], 76)
        else match (if seq then suffix p n.ctr else some p) with
          | none => (st, [], 20)
          | some q => if (st.lookup q).isSome then (st, [], 71) else (modN (st ++ [(q, ⟨0, 0, o, 0, data⟩)]) u bump, q, 0)

theorem kv_app : ∀ (st : St) (bs : List Nat) (q : Str) (n : Nd) (b : Nat), bs.length = st.length → kv (st ++ [(q, n)]) (bs ++ [b]) = kv st bs ++ [(q, ptr b)] := by
  intro st
  induction st with
  | nil => intro bs q n b h; have : bs = [] := List.eq_nil_of_length_eq_zero h; subst this; rfl
  | cons p st ih =>
    intro bs q n b h
    cases bs with
    | nil => simp at h
    | cons c bs =>
      obtain ⟨p, m⟩ := p
      simp only [List.cons_append]
      unfold kv
      rw [ih bs q n b (by simpa using h)]; rfl
theorem kv_mput : ∀ (st : St) (bs : List Nat) (q : Str) (b : Nat), bs.length = st.length → st.lookup q = none → mput (kv st bs) q (ptr b) = kv st bs ++ [(q, ptr b)] := by
  intro st
  induction st with
  | nil => intro bs q b h _; cases bs <;> rfl
  | cons p st ih =>
    intro bs q b h hl
    cases bs with
    | nil => simp at h
    | cons c bs =>
      obtain ⟨p, m⟩ := p
      rw [List.lookup_cons] at hl
      by_cases e : q = p
      · subst e; simp at hl
      · rw [show (q == p) = false by simpa using e] at hl
        unfold kv mput
        rw [if_neg e, ih bs q b (by simpa using h) hl]; rfl
theorem lookup_none {st : St} {q : Str} (h : st.lookup q = none) : q ∉ st.map (·.1) := by
  intro hm
  obtain ⟨p, hp, e⟩ := List.mem_map.1 hm
  rw [List.lookup_eq_none_iff] at h
  have := h p hp
  simp at this
  exact this e.symm
/-- a new node -/
theorem TreeAt.add {r T M b : Nat} {bs : List Nat} {st : St} {q : Str} {n : Nd} {tag2 : Nat → Nat} {σ2 : AH} (h : TreeAt tag σ r T M bs st) (hr : r < 64) (hr6 : r ≠ 6) (hq : st.lookup q = none) (hb : σ b = none) (k : Step [r + 64] ro tag σ tag2 σ2) (hnew : NodeAt tag2 σ2 r b n) (hm : MapIs tag2 σ2 (r + 64) M (mput (kv st bs) q (ptr b))) : TreeAt tag2 σ2 r T M (bs ++ [b]) (st ++ [(q, n)]) := by
  have hnb : b ∉ bs := fun hm' => by
    obtain ⟨i, hi, e⟩ := List.getElem_of_mem hm'
    have hb' : bs[i]? = some b := by rw [List.getElem?_eq_getElem hi, e]
    have hil : i < st.length := by rw [← h.len]; exact hi
    obtain ⟨s, hn, _⟩ := h.nodes i b _ hb' (List.getElem?_eq_getElem hil)
    obtain ⟨_, o, ho⟩ := hn.tagOf
    rw [hb] at ho; cases ho
  refine ⟨?_, by simp [h.len], ?_, h.cell.keep k (by simp), ?_, fun i c p hc hp => ?_⟩
  · rw [List.map_append, List.nodup_append]
    refine ⟨h.keys, by simp, ?_⟩
    intro x hx y hy
    simp at hy
    intro e
    exact lookup_none hq (by rw [← hy, ← e]; exact hx)
  · rw [List.nodup_append]
    refine ⟨h.nd, by simp, ?_⟩
    intro x hx y hy
    simp at hy
    intro e
    exact hnb (by rw [← hy, ← e]; exact hx)
  · rw [kv_app _ _ _ _ _ h.len, ← kv_mput _ _ _ _ h.len hq]; exact hm
  · rcases Nat.lt_or_ge i bs.length with hi | hi
    · rw [List.getElem?_append_left hi] at hc
      rw [List.getElem?_append_left (by rw [← h.len]; exact hi)] at hp
      exact (h.nodes i c p hc hp).keep k (by simp; omega) (by simp)
    · rw [List.getElem?_append_right hi] at hc
      rw [List.getElem?_append_right (by rw [← h.len]; exact hi), ← h.len] at hp
      cases hd : i - bs.length with
      | zero =>
        rw [hd] at hc hp
        cases hc; cases hp
        exact hnew
      | succ j => rw [hd] at hc; cases hc
end Go.Proofs.YtomdigihapdhnaaGreatDoor.Zt

/- The tree, the walk: Create. -/
namespace Go.Proofs.YtomdigihapdhnaaGreatDoor.Zt
open Go Go.Proofs.YtomdigihapdhnaaGreatDoor.SL Go.Proofs.YtomdigihapdhnaaGreatDoor.G Go.Proofs.YtomdigihapdhnaaGreatDoor.Pa
set_option linter.unusedSimpArgs false
set_option linter.unusedVariables false
variable {B : World} {ro σ σ' : AH} {tag tag' : Nat → Nat}

theorem st_last {q : Str} {n : Nd} (st : St) {i : Nat} {u : Str} {m : Nd} (h : st[i]? = some (u, m)) : (st ++ [(q, n)])[i]? = some (u, m) := by
  have hil : i < st.length := by
    rcases Nat.lt_or_ge i st.length with h' | h'
    · exact h'
    · rw [List.getElem?_eq_none h'] at h; cases h
  rw [List.getElem?_append_left hil]; exact h
theorem app_idx {bs : List Nat} {c i b : Nat} (h : bs[i]? = some b) : (bs ++ [c])[i]? = some b := by
  have hil : i < bs.length := by
    rcases Nat.lt_or_ge i bs.length with h' | h'
    · exact h'
    · rw [List.getElem?_eq_none h'] at h; cases h
  rw [List.getElem?_append_left hil]; exact h

set_option maxRecDepth 100000 in
theorem create_ok {r T : Nat} {st : St} {p : ByteArray} {s : Sl} {d : Str} {o : Int} {seq : Bool} {Q : ByteArray → Int → AH → Prop} (g : Glob ro) (hr : r < 64) (hr6 : r ≠ 6) (hr0 : r ≠ 0) (h : TreeIs tag σ r T st) (hd : SL.Read ro σ s (d.map vU)) (hdl : d.length < 4611686018427387904)
    (hQ : ∀ tag' σ', StepC r ro tag σ tag' σ' → TreeIs tag' σ' r T (create st (L p) d o seq).1 → Q (S (create st (L p) d o seq).2.1) (create st (L p) d o seq).2.2 σ') : c_ztree_Tree_Create B ro (some ⟨T, 0, none⟩) p s o seq σ Q := by
  refine ztree_Tree_Create_ok fun hs => ?_
  unfold f_ztree_Tree_Create
  have hsl : s.len = d.length := by rw [hd.1, List.length_map]
  have same : ∀ e : Int, create st (L p) d o seq = (st, [], e) → Q (⟨#[]⟩ : ByteArray) e σ := fun e he => by
    have := hQ tag σ (StepC.refl hs) (by rw [he]; exact h)
    rw [he] at this; exact this
  refine parent_ok g (fun hp => ?_) (fun u hu => ?_)
  · rw [if_pos (by decide)]
    exact same 20 (by unfold create; rw [hp])
  · rw [if_neg (by decide)]
    by_cases h1 : 256 < (s.len : Int)
    · rw [if_pos h1]
      exact same 75 (by unfold create; rw [hu]; simp only; rw [if_pos (by omega)])
    · rw [if_neg h1]
      have h1' : ¬ 256 < d.length := by omega
      by_cases h2 : o < 0 ∨ 4611686018427387903 < o
      · rw [if_pos h2]
        exact same 10 (by unfold create; rw [hu]; simp only; rw [if_neg h1', if_pos h2])
      · rw [if_neg h2]
        obtain ⟨M, bs, hA⟩ := h
        refine ⟨_, rfl, _, Row.cell1 hA.cell hs, ?_⟩
        refine awp_lookup_str hA.map hs u126 u9 ty129 ?_
        rcases kv_lookup st bs u hA.len with ⟨a, e⟩ | ⟨i, b, n, a1, a2, a3, e⟩
        · rw [e]
          refine ⟨none, rfl, ?_⟩
          rw [if_pos rfl]
          exact same 70 (by unfold create; rw [hu]; simp only; rw [if_neg h1', if_neg h2, a])
        · rw [e]
          refine ⟨some ⟨b, 0, none⟩, rfl, ?_⟩
          rw [if_neg (by simp)]
          obtain ⟨ds, hn, hdat⟩ := hA.nodes i b _ a1 a2
          obtain ⟨q, hq, hg⟩ := hn.ptr hs (by simp)
          cases hq
          refine ⟨_, rfl, n.own, hg 2 _ rfl, ?_⟩
          by_cases h3 : n.own = 0
          · rw [if_neg (by simp [h3])]
            refine ⟨_, rfl, n.ctr, hg 1 _ rfl, ?_⟩
            by_cases h4 : 9999999999 < n.ctr
            · rw [if_pos h4]
              exact same 76 (by unfold create; rw [hu]; simp only; rw [if_neg h1', if_neg h2, a3]; simp only; rw [if_neg (by simp [h3]), if_pos h4])
            · rw [if_neg h4]
              have hcr : create st (L p) d o seq = match (if seq then suffix (L p) n.ctr else some (L p)) with
                  | none => (st, [], 20)
                  | some q => if (st.lookup q).isSome then (st, [], 71) else (modN (st ++ [(q, ⟨0, 0, o, 0, d⟩)]) u bump, q, 0) := by
                unfold create; rw [hu]; simp only; rw [if_neg h1', if_neg h2, a3]; simp only; rw [if_neg (by simp [h3]), if_neg h4]; try rfl
              have main : ∀ q : Str, (if seq then suffix (L p) n.ctr else some (L p)) = some q → j10_ztree_Tree_Create B ro (some ⟨T, 0, none⟩) s o (some ⟨b, 0, none⟩) Q (S q) σ := by
                intro q hq
                rw [hq] at hcr
                simp only at hcr
                unfold j10_ztree_Tree_Create
                refine ⟨_, rfl, _, Row.cell1 hA.cell hs, ?_⟩
                refine awp_lookup_str hA.map hs u126 u9 ty129 ?_
                rcases kv_lookup st bs q hA.len with ⟨c, e2⟩ | ⟨i2, b2, n2, c1, c2, c3, e2⟩
                · rw [e2]
                  refine ⟨none, rfl, ?_⟩
                  rw [if_neg (by simp)]
                  rw [c] at hcr
                  simp only [Option.isSome_none, Bool.false_eq_true, if_false] at hcr
                  refine lent_block T ?_
                  obtain ⟨hT0, hTo⟩ := hA.cell.tagOf
                  have hs1 : SL.Sep (join ro (SL.one σ T)) (SL.del σ T) := hs.lent
                  refine ⟨_, rfl, some M, hA.cell.lend hs (i := 0) rfl, ?_⟩
                  refine clone_ok (tag := tag) (hd.lent T) hs1 (by simp; omega) (by simp [storable]) fun s' tag1 σ1 st1 r1 => ?_
                  refine nw_cellsF (tag := tag1) (fun b => r + 64 * (b + 2)) (st1 []).sep fun c' tag2 σ2 hro2 hc2 st2 r2 => ?_
                  have hM1 := ((hA.map.del (by rw [hT0]; omega)).keep (st1 []) (by simp)).keep (st2 []) (by simp)
                  refine awp_update_str hM1 (st2 []).sep u126 u9 fun σ3 st3 m3 => ?_
                  intro hdj
                  have stA : Step [r + 64] (join ro (SL.one σ T)) tag (SL.del σ T) tag2 σ3 := (st1 _).trans ((st2 _).trans st3)
                  have stB := stA.back hs hdj hTo
                  have m4 := m3.back (r' := tag T) hdj hTo
                  have hnode : NodeAt (setTag tag2 T (tag T)) (join (SL.one σ T) σ3) r c' ⟨0, 0, o, 0, d⟩ :=
                    ⟨s', (r2.keep st3 (by simp; omega)).back hdj hTo, ((r1.keep (st2 []) (by simp)).keep st3 (by simp)).back hdj hTo⟩
                  have hfree : σ c' = none := by
                    cases hcc : σ c' with
                    | none => rfl
                    | some x =>
                      have hne : c' ≠ T := fun e => by
                        have := (join_none hro2).2
                        unfold SL.one at this
                        rw [if_pos e, hcc] at this; cases this
                      obtain ⟨_, x', hx'⟩ := (st1 []).old c' x (by unfold SL.del; rw [if_neg hne]; exact hcc)
                      rw [hc2] at hx'; cases hx'
                  have hA2 := hA.add (n := ⟨0, 0, o, 0, d⟩) hr hr6 c hfree stB hnode m4
                  have b1 := app_idx (c := c') a1
                  have b2 := st_last (q := q) (n := ⟨0, 0, o, 0, d⟩) st a2
                  generalize setTag tag2 T (tag T) = tagx at *
                  generalize join (SL.one σ T) σ3 = σx at *
                  have hsx := stB.sep
                  obtain ⟨d1, hn1, hd1⟩ := hA2.nodes i b _ b1 b2
                  obtain ⟨q1, hq1, hg1⟩ := hn1.ptr hsx (by simp)
                  cases hq1
                  refine ⟨_, rfl, n.ctr, hg1 1 _ rfl, _, rfl, ?_⟩
                  refine hn1.st (i := 1) hsx rfl (by simp) rfl fun σ4 st4 r4 => ?_
                  have hA3 := hA2.write (n' := { n with ctr := IntKind.i64.wrap (n.ctr + 1) }) hr hr6 b1 b2 st4 ⟨d1, r4, hd1.keep st4 (by simp; omega)⟩
                  have b3 : ((st ++ [(q, (⟨0, 0, o, 0, d⟩ : Nd))]).set i (u, { n with ctr := IntKind.i64.wrap (n.ctr + 1) }))[i]? = some (u, { n with ctr := IntKind.i64.wrap (n.ctr + 1) }) := by
                    rw [List.getElem?_set, if_pos rfl, if_pos]
                    rcases Nat.lt_or_ge i (st ++ [(q, (⟨0, 0, o, 0, d⟩ : Nd))]).length with h' | h'
                    · exact h'
                    · rw [List.getElem?_eq_none h'] at b2; cases b2
                  obtain ⟨q2, hq2, hg2⟩ := r4.ptr st4.sep (by simp)
                  cases hq2
                  refine ⟨_, rfl, n.kids, hg2 3 _ rfl, _, rfl, ?_⟩
                  refine r4.st (i := 3) st4.sep rfl (by simp) rfl fun σ5 st5 r5 => ?_
                  have hA4 := hA3.write (n' := bump n) hr hr6 b1 b3 st5 ⟨d1, r5, (hd1.keep st4 (by simp; omega)).keep st5 (by simp; omega)⟩
                  rw [List.set_set] at hA4
                  rw [← modN_set hA2.keys b2 bump] at hA4
                  have hres := hQ tagx σ5 ((stB.c (by simp; omega)).trans ((st4.c (by simp; omega)).trans (st5.c (by simp; omega)))) (by rw [hcr]; exact ⟨M, _, hA4⟩)
                  rw [hcr] at hres
                  exact hres
                · rw [e2]
                  refine ⟨some ⟨b2, 0, none⟩, rfl, ?_⟩
                  rw [if_pos (by simp)]
                  refine same 71 ?_
                  rw [hcr, c3]; rfl
              by_cases h5 : seq = true
              · rw [if_pos h5]
                refine ⟨_, rfl, n.ctr, hg 1 _ rfl, ?_⟩
                refine suffix_ok g (fun hnone => ?_) (fun q hq => ?_)
                · rw [if_pos (by decide)]
                  refine same 20 ?_
                  rw [hcr, if_pos h5, hnone]
                · rw [if_neg (by decide)]
                  exact main q (by rw [if_pos h5]; exact hq)
              · rw [if_neg h5]
                have := main (L p) (by rw [if_neg h5])
                rw [S_L] at this; exact this
          · rw [if_pos (by simp [h3])]
            exact same 74 (by unfold create; rw [hu]; simp only; rw [if_neg h1', if_neg h2, a3]; simp only; rw [if_pos (by simp [h3])])
end Go.Proofs.YtomdigihapdhnaaGreatDoor.Zt
