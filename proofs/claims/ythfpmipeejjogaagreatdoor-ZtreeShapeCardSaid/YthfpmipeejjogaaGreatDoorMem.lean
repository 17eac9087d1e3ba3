/- Memory as a law's proof speaks of it: rows that belong to roles; what one step changes. Generic over any program. -/
import Derived.Test.YthfpmipeejjogaaGreatDoorBase9
import Derived.ArgAppend
namespace Go.Proofs.YthfpmipeejjogaaGreatDoor.SL
open Go
set_option linter.unusedVariables false
set_option linter.unusedSimpArgs false
variable {P : Program} {B : World} {ro σ σ' : AH} {tag tag' : Nat → Nat}

theorem upd_same (σ : AH) (b : Nat) (o : Obj) : upd σ b o b = some o := by simp [upd]
theorem upd_ne (σ : AH) {b c : Nat} (o : Obj) (h : c ≠ b) : upd σ b o c = σ c := by simp [upd, h]
theorem upd_upd (σ : AH) (b : Nat) (o o' : Obj) : upd (upd σ b o) b o' = upd σ b o' := by
  funext c; by_cases h : c = b <;> simp [upd, h]

/-- What a step does: it changes what belongs to the roles R, and adds what is new. -/
structure Step (R : List Nat) (ro : AH) (tag : Nat → Nat) (σ : AH) (tag' : Nat → Nat) (σ' : AH) : Prop where
  keep : ∀ b o, σ b = some o → tag b ∉ R → tag' b = tag b ∧ σ' b = some o
  old : ∀ b o, σ b = some o → tag' b = tag b ∧ ∃ o', σ' b = some o'
  sep : Sep ro σ'

theorem Step.refl {R : List Nat} (h : Sep ro σ) : Step R ro tag σ tag σ := ⟨fun _ _ h _ => ⟨rfl, h⟩, fun _ o h => ⟨rfl, o, h⟩, h⟩
theorem Step.trans {R : List Nat} {tag'' : Nat → Nat} {σ'' : AH} (h : Step R ro tag σ tag' σ') (k : Step R ro tag' σ' tag'' σ'') : Step R ro tag σ tag'' σ'' := by
  refine ⟨fun b o e n => ?_, fun b o e => ?_, k.sep⟩
  · obtain ⟨t1, e1⟩ := h.keep b o e n
    obtain ⟨t2, e2⟩ := k.keep b o e1 (by rw [t1]; exact n)
    exact ⟨t2.trans t1, e2⟩
  · obtain ⟨t1, o', e1⟩ := h.old b o e
    obtain ⟨t2, o'', e2⟩ := k.old b o' e1
    exact ⟨t2.trans t1, o'', e2⟩
theorem Step.mono {R R' : List Nat} (h : Step R ro tag σ tag' σ') (hr : ∀ r ∈ R, r ∈ R') : Step R' ro tag σ tag' σ' :=
  ⟨fun b o e n => h.keep b o e fun m => n (hr _ m), h.old, h.sep⟩

/-- a row of cells of one role: nil, or the beginning of a block of its own -/
def Row (tag : Nat → Nat) (σ : AH) (r : Nat) (e : TypeId) (s : Sl) (l : List Value) : Prop :=
  (s = ⟨none, 0, 0⟩ ∧ l = []) ∨ ∃ b cs, s.a = some ⟨b, 0, none⟩ ∧ tag b = r ∧ σ b = some (.cells cs e) ∧ s.len = l.length ∧ s.cap = cs.size ∧ s.len ≤ s.cap ∧ ∀ i, i < l.length → cs[i]? = l[i]?

theorem Row.nil (r : Nat) (e : TypeId) : Row tag σ r e ⟨none, 0, 0⟩ [] := .inl ⟨rfl, rfl⟩
theorem Row.len {r : Nat} {e : TypeId} {s : Sl} {l : List Value} (h : Row tag σ r e s l) : s.len = l.length := by
  rcases h with ⟨rfl, rfl⟩ | ⟨b, cs, _, _, _, h, _⟩
  · rfl
  · exact h
theorem Row.keep {R : List Nat} {r : Nat} {e : TypeId} {s : Sl} {l : List Value} (h : Row tag σ r e s l) (k : Step R ro tag σ tag' σ') (hr : r ∉ R) : Row tag' σ' r e s l := by
  rcases h with h | ⟨b, cs, ha, ht, hs, hx⟩
  · exact .inl h
  · obtain ⟨t, e⟩ := k.keep b _ hs (by rw [ht]; exact hr)
    exact .inr ⟨b, cs, ha, t.trans ht, e, hx⟩
theorem Row.ptr {r : Nat} {e : TypeId} {s : Sl} {l : List Value} (h : Row tag σ r e s l) (hs : Sep ro σ) (hl : 0 < l.length) :
    ∃ p, s.a = some p ∧ ∀ i v, l[i]? = some v → acell ro σ (p.add (i * 1)) = some v := by
  rcases h with ⟨_, rfl⟩ | ⟨b, cs, ha, ht, hb, hln, hc, hle, hg⟩
  · cases hl
  · refine ⟨_, ha, fun i v hv => ?_⟩
    have hi : i < l.length := by
      rcases Nat.lt_or_ge i l.length with h | h
      · exact h
      · rw [List.getElem?_eq_none h] at hv; cases hv
    rw [add_add, Nat.mul_one, Nat.zero_add]
    unfold acell rd
    simp only [hs b _ hb, hb, cellOf]
    rw [← hv, ← hg i hi]; rfl
theorem Row.st {r : Nat} {e : TypeId} {s : Sl} {l : List Value} {p : Addr} {i : Nat} {v : Value} {K : AH → Prop} (h : Row tag σ r e s l) (hs : Sep ro σ) (ha : s.a = some p) (hi : i < l.length) (hv : storable v = true)
    (hK : ∀ σ', Step [r] ro tag σ tag σ' → Row tag σ' r e s (l.set i v) → K σ') : stN (p.add (i * 1)) K [v] 0 σ := by
  rcases h with ⟨_, rfl⟩ | ⟨b, cs, ha', ht, hb, hln, hc, hle, hg⟩
  · cases hi
  · rw [ha] at ha'; cases ha'
    refine ⟨hv, by simp, cs, e, (0, 0), ?_, ?_, ?_, ?_⟩
    · simpa using hb
    · simp; omega
    · simp
    · simp only [add_add, add_zero, Nat.mul_one, Nat.zero_add, stN]
      refine hK _ ⟨fun c o hc' hn => ?_, fun c o hc' => ⟨rfl, ?_⟩, fun c o hc' => ?_⟩ (.inr ⟨b, _, ha, ht, upd_same _ _ _, by simp [hln], by simp [hc], hle, fun j hj => ?_⟩)
      · have : c ≠ b := fun h => hn (by simp [h, ht])
        exact ⟨rfl, by rw [upd_ne _ _ this]; exact hc'⟩
      · by_cases h : c = b
        · exact ⟨_, by rw [h]; exact upd_same _ _ _⟩
        · exact ⟨o, by rw [upd_ne _ _ h]; exact hc'⟩
      · by_cases h : c = b
        · exact hs c _ (by rw [h]; exact hb)
        · rw [upd_ne _ _ h] at hc'; exact hs c _ hc'
      · simp only [List.length_set] at hj
        have := hg j hj
        by_cases hij : i = j
        · subst hij
          rw [List.getElem?_set_self hi, Array.getElem?_setIfInBounds_self_of_lt (by omega)]
        · rw [List.getElem?_set_ne hij, Array.getElem?_setIfInBounds_ne hij]; exact this

theorem Row.cell1 {r : Nat} {e : TypeId} {b n c : Nat} {v : Value} (h : Row tag σ r e ⟨some ⟨b, 0, none⟩, n, c⟩ [v]) (hs : Sep ro σ) : acell ro σ ⟨b, 0, none⟩ = some v := by
  obtain ⟨p, hp, hg⟩ := h.ptr hs (by simp)
  cases hp
  exact hg 0 v rfl

def setTag (tag : Nat → Nat) (b r : Nat) : Nat → Nat := fun c => if c = b then r else tag c
theorem Step.fresh {R : List Nat} {b r : Nat} {o : Obj} (hs : Sep ro σ) (hro : ro b = none) (hb : σ b = none) : Step R ro tag σ (setTag tag b r) (upd σ b o) := by
  refine ⟨fun c o' hc _ => ?_, fun c o' hc => ?_, fun c o' hc => ?_⟩
  · have : c ≠ b := fun h => by rw [h, hb] at hc; cases hc
    exact ⟨by simp [setTag, this], by rw [upd_ne _ _ this]; exact hc⟩
  · have : c ≠ b := fun h => by rw [h, hb] at hc; cases hc
    exact ⟨by simp [setTag, this], o', by rw [upd_ne _ _ this]; exact hc⟩
  · by_cases h : c = b
    · rw [h]; exact hro
    · rw [upd_ne _ _ h] at hc; exact hs c _ hc
/-- new memory of some given cells -/
theorem nw_cells (r : Nat) {e : TypeId} {cs : Array Value} {K : Nat → AH → Prop} (hs : Sep ro σ)
    (hK : ∀ b tag' σ', (∀ R, Step R ro tag σ tag' σ') → Row tag' σ' r e ⟨some ⟨b, 0, none⟩, cs.size, cs.size⟩ cs.toList → K b σ') : nw ro σ (.cells cs e) K := by
  intro b hro hb
  exact hK b (setTag tag b r) _ (fun R => Step.fresh hs hro hb) (.inr ⟨b, _, rfl, by simp [setTag], upd_same _ _ _, by simp, rfl, Nat.le_refl _, fun i hi => by simp⟩)

/-- a shorter beginning of a row -/
theorem Row.take {r : Nat} {e : TypeId} {s : Sl} {l : List Value} {n : Nat} (h : Row tag σ r e s l) (hn : n ≤ l.length) : Row tag σ r e ⟨s.a, n, s.cap⟩ (l.take n) := by
  rcases h with ⟨rfl, rfl⟩ | ⟨b, cs, ha', ht, hb, hln, hc, hle, hg⟩
  · cases hn; exact .inl ⟨rfl, rfl⟩
  · refine .inr ⟨b, cs, ha', ht, hb, by simp [hn], hc, by simp; omega, fun i hi => ?_⟩
    simp at hi
    rw [hg i (by omega), List.getElem?_take, if_pos (by omega)]

theorem awp_choose {β : Type} {q : Question} {f : Nat → Sem β} {Q : β → AH → Prop} (hq : q.forced = false) (h : ∀ n, awp P ro (f (q.cut n)) Q σ) : awp P ro (Sem.bind (choose q) f) Q σ := by
  show (if q.forced then _ else _)
  rw [hq]
  exact h
theorem awp_askRoom {β : Type} {n : Nat} {f : Unit → Sem β} {Q : β → AH → Prop} (h : awp P ro (f ()) Q σ) : awp P ro (Sem.bind (askRoom n) f) Q σ := by
  unfold askRoom; split <;> exact h
theorem cellsAt_of {p : Addr} {l : List Value} : ∀ (i : Nat), (∀ j v, l[j]? = some v → acell ro σ (p.add (i + j)) = some v) → cellsAt ro σ p i l := by
  induction l with
  | nil => intro _ _; trivial
  | cons x l ih =>
    intro i h
    refine ⟨h 0 x rfl, ih (i + 1) fun j v hj => ?_⟩
    have := h (j + 1) v hj
    rwa [show i + 1 + j = i + (j + 1) by omega]
theorem awp_first {β : Type} {r : Nat} {e : TypeId} {s : Sl} {l : List Value} {f : Array Value → Sem β} {Q : β → AH → Prop} (h : Row tag σ r e s l) (hs : Sep ro σ) (hf : awp P ro (f l.toArray) Q σ) :
    awp P ro (Sem.bind (Builtin.firstCells 1 s.len (.slice s.a s.len s.cap)) f) Q σ := by
  have hl := h.len
  rcases h' : s.a with _ | p
  · rcases h with ⟨rfl, rfl⟩ | ⟨b, cs, ha, _⟩
    · exact hf
    · rw [h'] at ha; cases ha
  · rw [show Sem.bind (Builtin.firstCells 1 s.len (.slice (some p) s.len s.cap)) f = (loadCells p (s.len * 1)) >>= f from rfl, awp_bind, Nat.mul_one, hl]
    refine awp_loadCells l 0 #[] ?_ (by simpa using hf)
    rcases Nat.eq_zero_or_pos l.length with h0 | h0
    · rw [List.eq_nil_of_length_eq_zero h0]; trivial
    · obtain ⟨p', hp, hg⟩ := h.ptr hs h0
      rw [h'] at hp; cases hp
      exact cellsAt_of 0 fun j v hj => by have := hg j v hj; rwa [Nat.mul_one, ← Nat.zero_add j] at this

/-- what an append reads: the old cells and the new one -/
theorem awp_append1 {r : Nat} {e t : TypeId} {s : Sl} {l : List Value} {a : Addr} {v zv : Value} {bytes : Nat} {ty : TypeId} {Q : Value → AH → Prop} (h : Row tag σ r e s l) (hs : Sep ro σ)
    (ht : P.underlying t = some (.slice e)) (hz : TyIs P e zv 1 bytes) (hzc : zv.cells = #[zv]) (hv : storable v = true) (hc : acell ro σ a = some v) (hsp : a.spot = none) (hb : (l.length + 1) * bytes ≤ 140737488355328) (hb0 : 0 < bytes)
    (hK : ∀ s' tag' σ', Step [r] ro tag σ tag' σ' → Row tag' σ' r e s' (l ++ [v]) → Q (Sl.v s') σ') :
    awp P ro (Builtin.append_ #[t, t] ty #[Sl.v s, Sl.v ⟨some a, 1, 1⟩]) Q σ := by
  obtain ⟨i, hi, hiz, his, hib⟩ := hz
  have hz : TyIs P e zv 1 bytes := ⟨i, hi, hiz, his, hib⟩
  have q1 : ∀ (f : TypeInfo → Sem Value), awp P ro (Sem.bind (typeInfo e) f) Q σ ↔ awp P ro (f i) Q σ := fun f => awp_typeInfo hi
  have g0 : (#[t, t] : Array TypeId)[0]? = some t := rfl
  have g1 : (#[t, t] : Array TypeId)[1]? = some t := rfl
  have g2 : (#[Value.slice s.a s.len s.cap, Value.slice (some a) 1 1] : Array Value)[0]? = some (Value.slice s.a s.len s.cap) := rfl
  have g3 : (#[Value.slice s.a s.len s.cap, Value.slice (some a) 1 1] : Array Value)[1]? = some (Value.slice (some a) 1 1) := rfl
  have hld : ∀ τ : AH, acell ro τ a = some v → ∀ {β : Type} (f : Array Value → Sem β) (Q : β → AH → Prop), awp P ro (f #[v]) Q τ → awp P ro (Sem.bind (Builtin.firstCells 1 1 (.slice (some a) 1 1)) f) Q τ := by
    intro τ hτ β f Q hf
    rw [show Sem.bind (Builtin.firstCells 1 1 (.slice (some a) 1 1)) f = (loadCells a 1) >>= f from rfl, awp_bind]
    exact awp_loadCells [v] 0 #[] ⟨by simpa using hτ, trivial⟩ hf
  unfold Builtin.append_
  simp only [Sl.v, bind_def, pure_def, g0, g1, g2, g3, bind_assoc']
  rw [awp_underlying ht]
  simp only []
  rw [awp_size hz]
  rw [awp_underlying ht]
  simp only [bind_pure', Builtin.lenOf, bind_def, pure_def, bind_assoc', Bool.false_eq_true, if_false, Bool.not_false, if_true, false_or]
  split
  · rename_i hroom
    refine hld _ hc _ _ ?_
    have h' := h
    rcases h with ⟨rfl, rfl⟩ | ⟨b, cs, ha, htg, hbk, hln, hcp, hle, hg⟩
    · simp at hroom
    · have hlt : s.len < cs.size := by omega
      have hx : Row tag σ r e ⟨s.a, s.len + 1, s.cap⟩ (l ++ [cs[s.len]]) := by
        refine .inr ⟨b, cs, ha, htg, hbk, by simp [hln], hcp, hroom, fun i hi => ?_⟩
        simp at hi
        rcases Nat.lt_or_ge i l.length with h1 | h1
        · rw [List.getElem?_append_left h1]; exact hg i h1
        · have : i = l.length := by omega
          subst this
          rw [List.getElem?_append_right (Nat.le_refl _)]
          simp [← hln, hlt]
      simp only [ha]
      show awp P ro (storeCells (Addr.add ⟨b, 0, none⟩ (s.len * 1)) [v] >>= fun _ => Sem.pure (Value.slice (some ⟨b, 0, none⟩) (s.len + 1) s.cap)) Q σ
      rw [awp_bind]
      refine awp_storeCells [v] 0 σ (hx.st (i := s.len) hs ha (by simp; omega) hv fun σ' hst hr => ?_)
      show Q (Value.slice (some ⟨b, 0, none⟩) (s.len + 1) s.cap) σ'
      have e1 : (l ++ [cs[s.len]]).set s.len v = l ++ [v] := by rw [List.set_append_right _ _ (by omega)]; simp [hln]
      rw [e1, ha] at hr
      exact hK _ _ _ hst hr
  · rename_i hroom
    rw [awp_typeInfo hi]
    rw [if_neg (by rw [hib]; omega)]
    rw [awp_typeInfo hi]
    rw [if_neg (by rw [hib]; have := growslice_fits (need := s.len + 1) (old := s.cap) (bytes := bytes) (by omega) (by rw [h.len]; exact hb); omega)]
    refine awp_choose rfl (fun n => ?_)
    rw [awp_typeInfo hi]
    refine awp_askRoom ?_
    have hcut : s.len + 1 ≤ (Question.appendCap (s.len + 1) s.cap e).cut n := by simp only [Question.cut]; omega
    generalize (Question.appendCap (s.len + 1) s.cap e).cut n = N at hcut
    refine awp_first h hs ?_
    refine hld _ hc _ _ ?_
    rw [awp_zero hz]
    rw [hzc]
    show ∀ b, ro b = none → σ b = none → Q (Value.slice (some ⟨b, 0, none⟩) (s.len + 1) N) (upd σ b _)
    intro b hro hb
    refine hK ⟨some ⟨b, 0, none⟩, s.len + 1, N⟩ (setTag tag b r) _ (Step.fresh hs hro hb) (.inr ⟨b, _, rfl, by simp [setTag], upd_same _ _ _, by simp [h.len], ?_, hcut, fun i hi => ?_⟩)
    · have := h.len
      simp [Builtin.zeroCells]; omega
    · simp at hi
      rw [Array.getElem?_append_left (by simp; omega)]
      simp

theorem stN_new {b : Nat} {e : TypeId} {K : AH → Prop} : ∀ (vs : List Value) (cs : Array Value) (i : Nat), cs.size = i + vs.length → (∀ v ∈ vs, storable v = true) → (∀ cs' : Array Value, cs'.size = cs.size → (∀ j, j < i → cs'[j]? = cs[j]?) → (∀ j v, vs[j]? = some v → cs'[i + j]? = some v) → K (upd σ b (.cells cs' e))) →
    stN ⟨b, 0, none⟩ K vs i (upd σ b (.cells cs e)) := by
  intro vs
  induction vs with
  | nil => intro cs i hsz _ hK; exact hK cs rfl (fun _ _ => rfl) (fun j v h => by cases h)
  | cons x vs ih =>
    intro cs i hsz hst hK
    simp only [List.length_cons] at hsz
    refine ⟨hst x (by simp), by simp, cs, e, (0, 0), ?_, ?_, ?_, ?_⟩
    · simp [upd]
    · simp; omega
    · simp
    · simp only [add_add, Nat.zero_add]
      rw [upd_upd]
      refine ih _ _ (by simp; omega) (fun v hv => hst v (by simp [hv])) fun cs' h1 h2 h3 => hK cs' (by simpa using h1) (fun j hj => ?_) fun j v hj => ?_
      · rw [h2 j (by omega), Array.getElem?_setIfInBounds_ne (by omega)]
      · rcases j with _ | j
        · cases hj
          rw [Nat.add_zero, h2 i (by omega), Array.getElem?_setIfInBounds_self_of_lt (by omega)]
        · rw [show i + (j + 1) = i + 1 + j by omega]; exact h3 j v hj
/-- new memory, and what is put there at once -/
theorem nw_st (r : Nat) {e : TypeId} {cs : Array Value} {vs : List Value} {K : Nat → AH → Prop} (hs : Sep ro σ) (hsz : cs.size = vs.length) (hst : ∀ v ∈ vs, storable v = true)
    (hK : ∀ b tag' σ', (∀ R, Step R ro tag σ tag' σ') → Row tag' σ' r e ⟨some ⟨b, 0, none⟩, vs.length, vs.length⟩ vs → K b σ') : nw ro σ (.cells cs e) fun b σ => stN ⟨b, 0, none⟩ (K b) vs 0 σ := by
  intro b hro hb
  refine stN_new vs cs 0 (by omega) hst fun cs' h1 _ h3 => ?_
  refine hK b (setTag tag b r) _ (fun R => Step.fresh hs hro hb) (.inr ⟨b, cs', rfl, by simp [setTag], upd_same _ _ _, rfl, by simp; omega, Nat.le_refl _, fun i hi => ?_⟩)
  rw [List.getElem?_eq_getElem hi]
  have := h3 i _ (List.getElem?_eq_getElem hi)
  rwa [Nat.zero_add] at this

/-! one block lent -/
def one (σ : AH) (b : Nat) : AH := fun c => if c = b then σ c else none
def del (σ : AH) (b : Nat) : AH := fun c => if c = b then none else σ c
theorem lent_block (b : Nat) {K : AH → AH → Prop} (h : K (one σ b) (del σ b)) : lent σ K := by
  refine ⟨_, _, fun c o hc => ?_, ?_, h⟩
  · unfold one at hc; unfold del
    split at hc
    · rename_i e; rw [if_pos e]
    · cases hc
  · funext c; unfold join one del
    by_cases e : c = b
    · simp only [e, if_true]; cases σ b <;> rfl
    · simp [e]
theorem Sep.lent {b : Nat} (hs : Sep ro σ) : Sep (join ro (one σ b)) (del σ b) := by
  intro c o hc
  unfold del at hc
  split at hc
  · cases hc
  · rename_i e
    unfold join one
    rw [hs c o hc]; simp [e]
theorem Row.del {r r' : Nat} {e : TypeId} {s : Sl} {l : List Value} {b : Nat} (h : Row tag σ r e s l) (hb : tag b = r') (hr : r ≠ r') : Row tag (del σ b) r e s l := by
  rcases h with h | ⟨c, cs, ha, ht, hs, hx⟩
  · exact .inl h
  · refine .inr ⟨c, cs, ha, ht, ?_, hx⟩
    have : c ≠ b := fun e => hr (by rw [← ht, e, hb])
    unfold SL.del; rw [if_neg this]; exact hs
theorem Row.lend {r : Nat} {e : TypeId} {b : Nat} {n m : Nat} {l : List Value} (h : Row tag σ r e ⟨some ⟨b, 0, none⟩, n, m⟩ l) (hs : Sep ro σ) {τ : AH} {i : Nat} {v : Value} (hv : l[i]? = some v) : acell (join ro (one σ b)) τ ((⟨b, 0, none⟩ : Addr).add (i * 1)) = some v := by
  rcases h with ⟨e, _⟩ | ⟨c, cs, ha, ht, hb, hln, hc, hle, hg⟩
  · cases e
  · cases ha
    have hi : i < l.length := by
      rcases Nat.lt_or_ge i l.length with h | h
      · exact h
      · rw [List.getElem?_eq_none h] at hv; cases hv
    rw [add_add, Nat.mul_one, Nat.zero_add]
    have : join ro (one σ b) b = some (.cells cs e) := by unfold join one; rw [hs b _ hb]; simp [hb]
    unfold acell rd
    simp only [this, cellOf]
    rw [← hv, ← hg i hi]; rfl
theorem Row.tagOf {r : Nat} {e : TypeId} {b : Nat} {n m : Nat} {l : List Value} (h : Row tag σ r e ⟨some ⟨b, 0, none⟩, n, m⟩ l) : tag b = r ∧ ∃ o, σ b = some o := by
  rcases h with ⟨e, _⟩ | ⟨c, cs, ha, ht, hb, _⟩
  · cases e
  · cases ha; exact ⟨ht, _, hb⟩
theorem Row.back {r : Nat} {e : TypeId} {s : Sl} {l : List Value} {b r' : Nat} {τ : AH} (h : Row tag' τ r e s l) (hd : Disj (one σ b) τ) (hb : ∃ o, σ b = some o) : Row (setTag tag' b r') (join (one σ b) τ) r e s l := by
  rcases h with h | ⟨c, cs, ha, ht, hs, hx⟩
  · exact .inl h
  · have hcb : c ≠ b := fun e => by
      obtain ⟨o, ho⟩ := hb
      have := hd b o (by unfold one; rw [if_pos rfl]; exact ho)
      rw [← e, hs] at this; cases this
    exact .inr ⟨c, cs, ha, by unfold setTag; rw [if_neg hcb]; exact ht, by unfold join one; rw [if_neg hcb]; exact hs, hx⟩
theorem Step.back {R : List Nat} {b : Nat} {τ : AH} (h : Step R (join ro (one σ b)) tag (del σ b) tag' τ) (hs : Sep ro σ) (hd : Disj (one σ b) τ) (hb : ∃ o, σ b = some o) : Step R ro tag σ (setTag tag' b (tag b)) (join (one σ b) τ) := by
  obtain ⟨ob, hob⟩ := hb
  have hone : one σ b b = some ob := by unfold one; rw [if_pos rfl]; exact hob
  refine ⟨fun c o hc hn => ?_, fun c o hc => ?_, fun c o hc => ?_⟩
  · by_cases e : c = b
    · subst e; exact ⟨by simp [setTag], by simp only [join, hone]; rw [← hob]; exact hc⟩
    · obtain ⟨t1, t2⟩ := h.keep c o (by unfold del; rw [if_neg e]; exact hc) hn
      exact ⟨by unfold setTag; rw [if_neg e]; exact t1, by unfold join one; rw [if_neg e]; exact t2⟩
  · by_cases e : c = b
    · subst e; exact ⟨by simp [setTag], ob, by unfold join; rw [hone]⟩
    · obtain ⟨t1, o', t2⟩ := h.old c o (by unfold del; rw [if_neg e]; exact hc)
      exact ⟨by unfold setTag; rw [if_neg e]; exact t1, o', by unfold join one; rw [if_neg e]; exact t2⟩
  · by_cases e : c = b
    · subst e; exact hs c _ hob
    · have : τ c = some o := by unfold join one at hc; rw [if_neg e] at hc; exact hc
      exact (join_none (h.sep c o this)).1
end Go.Proofs.YthfpmipeejjogaaGreatDoor.SL
