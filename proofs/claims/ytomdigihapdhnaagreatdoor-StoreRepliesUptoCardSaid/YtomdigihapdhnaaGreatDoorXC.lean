/- Mem, Str, MapS, Mem2, Arg, RowU, GT, GC -/
import Derived.ArgAppend
import Derived.Lib.Split
import Derived.HandedShaped
import Derived.LaidMore
import Derived.JoinedCond
import Derived.Lay
import Derived.Stop.Joined
import Derived.KernelRfl
import Derived.Test.YtomdigihapdhnaaGreatDoorRows
import Derived.Test.YtomdigihapdhnaaGreatDoorProg
import Derived.Test.YtomdigihapdhnaaGreatDoorXB
/- Memory as a law's proof speaks of it: rows that belong to roles; what one step changes. Generic over any program. -/
namespace Go.Proofs.YtomdigihapdhnaaGreatDoor.SL
open Go
set_option linter.unusedVariables false
set_option linter.unusedSimpArgs false
variable {P : Program} {B : World} {ro σ σ' : AH} {tag tag' : Nat → Nat}

theorem upd_same (σ : AH) (b : Nat) (o : Obj) : upd σ b o b = some o := by simp [upd]
theorem upd_ne (σ : AH) {b c : Nat} (o : Obj) (h : c ≠ b) : upd σ b o c = σ c := by simp [upd, h]
theorem upd_upd (σ : AH) (b : Nat) (o o' : Obj) : upd (upd σ b o) b o' = upd σ b o' := by
  funext c; by_cases h : c = b <;> simp [upd, h]

/-- What a step does: it changes what belongs to the roles R, and adds what is new. -/
structure Step (R : List Nat) (ro : AH) (tag : Nat → Nat) (σ : AH) (tag' : Nat → Nat) (σ' : AH) : Prop where
  keep : ∀ b o, σ b = some o → tag b ∉ R → tag' b = tag b ∧ σ' b = some o
  old : ∀ b o, σ b = some o → tag' b = tag b ∧ ∃ o', σ' b = some o'
  sep : Sep ro σ'

theorem Step.refl {R : List Nat} (h : Sep ro σ) : Step R ro tag σ tag σ := ⟨fun _ _ h _ => ⟨rfl, h⟩, fun _ o h => ⟨rfl, o, h⟩, h⟩
theorem Step.trans {R : List Nat} {tag'' : Nat → Nat} {σ'' : AH} (h : Step R ro tag σ tag' σ') (k : Step R ro tag' σ' tag'' σ'') : Step R ro tag σ tag'' σ'' := by
  refine ⟨fun b o e n => ?_, fun b o e => ?_, k.sep⟩
  · obtain ⟨t1, e1⟩ := h.keep b o e n
    obtain ⟨t2, e2⟩ := k.keep b o e1 (by rw [t1]; exact n)
    exact ⟨t2.trans t1, e2⟩
  · obtain ⟨t1, o', e1⟩ := h.old b o e
    obtain ⟨t2, o'', e2⟩ := k.old b o' e1
    exact ⟨t2.trans t1, o'', e2⟩
theorem Step.mono {R R' : List Nat} (h : Step R ro tag σ tag' σ') (hr : ∀ r ∈ R, r ∈ R') : Step R' ro tag σ tag' σ' :=
  ⟨fun b o e n => h.keep b o e fun m => n (hr _ m), h.old, h.sep⟩

/-- a row of cells of one role: nil, or the beginning of a block of its own -/
def Row (tag : Nat → Nat) (σ : AH) (r : Nat) (e : TypeId) (s : Sl) (l : List Value) : Prop :=
  (s = ⟨none, 0, 0⟩ ∧ l = []) ∨ ∃ b cs, s.a = some ⟨b, 0, none⟩ ∧ tag b = r ∧ σ b = some (.cells cs e) ∧ s.len = l.length ∧ s.cap = cs.size ∧ s.len ≤ s.cap ∧ ∀ i, i < l.length → cs[i]? = l[i]?

theorem Row.nil (r : Nat) (e : TypeId) : Row tag σ r e ⟨none, 0, 0⟩ [] := .inl ⟨rfl, rfl⟩
theorem Row.len {r : Nat} {e : TypeId} {s : Sl} {l : List Value} (h : Row tag σ r e s l) : s.len = l.length := by
  rcases h with ⟨rfl, rfl⟩ | ⟨b, cs, _, _, _, h, _⟩
  · rfl
  · exact h
theorem Row.keep {R : List Nat} {r : Nat} {e : TypeId} {s : Sl} {l : List Value} (h : Row tag σ r e s l) (k : Step R ro tag σ tag' σ') (hr : r ∉ R) : Row tag' σ' r e s l := by
  rcases h with h | ⟨b, cs, ha, ht, hs, hx⟩
  · exact .inl h
  · obtain ⟨t, e⟩ := k.keep b _ hs (by rw [ht]; exact hr)
    exact .inr ⟨b, cs, ha, t.trans ht, e, hx⟩
theorem Row.ptr {r : Nat} {e : TypeId} {s : Sl} {l : List Value} (h : Row tag σ r e s l) (hs : Sep ro σ) (hl : 0 < l.length) :
    ∃ p, s.a = some p ∧ ∀ i v, l[i]? = some v → acell ro σ (p.add (i * 1)) = some v := by
  rcases h with ⟨_, rfl⟩ | ⟨b, cs, ha, ht, hb, hln, hc, hle, hg⟩
  · cases hl
  · refine ⟨_, ha, fun i v hv => ?_⟩
    have hi : i < l.length := by
      rcases Nat.lt_or_ge i l.length with h | h
      · exact h
      · rw [List.getElem?_eq_none h] at hv; cases hv
    rw [add_add, Nat.mul_one, Nat.zero_add]
    unfold acell rd
    simp only [hs b _ hb, hb, cellOf]
    rw [← hv, ← hg i hi]; rfl
theorem Row.st {r : Nat} {e : TypeId} {s : Sl} {l : List Value} {p : Addr} {i : Nat} {v : Value} {K : AH → Prop} (h : Row tag σ r e s l) (hs : Sep ro σ) (ha : s.a = some p) (hi : i < l.length) (hv : storable v = true)
    (hK : ∀ σ', Step [r] ro tag σ tag σ' → Row tag σ' r e s (l.set i v) → K σ') : stN (p.add (i * 1)) K [v] 0 σ := by
  rcases h with ⟨_, rfl⟩ | ⟨b, cs, ha', ht, hb, hln, hc, hle, hg⟩
  · cases hi
  · rw [ha] at ha'; cases ha'
    refine ⟨hv, by simp, cs, e, (0, 0), ?_, ?_, ?_, ?_⟩
    · simpa using hb
    · simp; omega
    · simp
    · simp only [add_add, add_zero, Nat.mul_one, Nat.zero_add, stN]
      refine hK _ ⟨fun c o hc' hn => ?_, fun c o hc' => ⟨rfl, ?_⟩, fun c o hc' => ?_⟩ (.inr ⟨b, _, ha, ht, upd_same _ _ _, by simp [hln], by simp [hc], hle, fun j hj => ?_⟩)
      · have : c ≠ b := fun h => hn (by simp [h, ht])
        exact ⟨rfl, by rw [upd_ne _ _ this]; exact hc'⟩
      · by_cases h : c = b
        · exact ⟨_, by rw [h]; exact upd_same _ _ _⟩
        · exact ⟨o, by rw [upd_ne _ _ h]; exact hc'⟩
      · by_cases h : c = b
        · exact hs c _ (by rw [h]; exact hb)
        · rw [upd_ne _ _ h] at hc'; exact hs c _ hc'
      · simp only [List.length_set] at hj
        have := hg j hj
        by_cases hij : i = j
        · subst hij
          rw [List.getElem?_set_self hi, Array.getElem?_setIfInBounds_self_of_lt (by omega)]
        · rw [List.getElem?_set_ne hij, Array.getElem?_setIfInBounds_ne hij]; exact this

theorem Row.cell1 {r : Nat} {e : TypeId} {b n c : Nat} {v : Value} (h : Row tag σ r e ⟨some ⟨b, 0, none⟩, n, c⟩ [v]) (hs : Sep ro σ) : acell ro σ ⟨b, 0, none⟩ = some v := by
  obtain ⟨p, hp, hg⟩ := h.ptr hs (by simp)
  cases hp
  exact hg 0 v rfl

def setTag (tag : Nat → Nat) (b r : Nat) : Nat → Nat := fun c => if c = b then r else tag c
theorem Step.fresh {R : List Nat} {b r : Nat} {o : Obj} (hs : Sep ro σ) (hro : ro b = none) (hb : σ b = none) : Step R ro tag σ (setTag tag b r) (upd σ b o) := by
  refine ⟨fun c o' hc _ => ?_, fun c o' hc => ?_, fun c o' hc => ?_⟩
  · have : c ≠ b := fun h => by rw [h, hb] at hc; cases hc
    exact ⟨by simp [setTag, this], by rw [upd_ne _ _ this]; exact hc⟩
  · have : c ≠ b := fun h => by rw [h, hb] at hc; cases hc
    exact ⟨by simp [setTag, this], o', by rw [upd_ne _ _ this]; exact hc⟩
  · by_cases h : c = b
    · rw [h]; exact hro
    · rw [upd_ne _ _ h] at hc; exact hs c _ hc
theorem zeros_size (zv : Value) (n : Nat) : (zeros zv n).size = n := by simp [zeros]
theorem zeros_get (zv : Value) (h : zv.cells = #[zv]) (n i : Nat) (hi : i < n) : (zeros zv n)[i]? = some zv := by
  simp [zeros, hi, h, Nat.mod_one]
/-- new memory of one role -/
theorem nw_row (r : Nat) {e : TypeId} {zv : Value} {n : Nat} {K : Nat → AH → Prop} (hs : Sep ro σ) (hz : zv.cells = #[zv])
    (hK : ∀ b tag' σ', (∀ R, Step R ro tag σ tag' σ') → Row tag' σ' r e ⟨some ⟨b, 0, none⟩, n, n⟩ (List.replicate n zv) → K b σ') : nw ro σ (.cells (zeros zv (n * 1)) e) K := by
  intro b hro hb
  refine hK b (setTag tag b r) _ (fun R => Step.fresh hs hro hb) (.inr ⟨b, _, rfl, by simp [setTag], upd_same _ _ _, by simp, by rw [zeros_size]; simp, Nat.le_refl _, fun i hi => ?_⟩)
  simp at hi
  rw [zeros_get _ hz _ _ (by omega), List.getElem?_replicate, if_pos hi]
/-- new memory of some given cells -/
theorem nw_cells (r : Nat) {e : TypeId} {cs : Array Value} {K : Nat → AH → Prop} (hs : Sep ro σ)
    (hK : ∀ b tag' σ', (∀ R, Step R ro tag σ tag' σ') → Row tag' σ' r e ⟨some ⟨b, 0, none⟩, cs.size, cs.size⟩ cs.toList → K b σ') : nw ro σ (.cells cs e) K := by
  intro b hro hb
  exact hK b (setTag tag b r) _ (fun R => Step.fresh hs hro hb) (.inr ⟨b, _, rfl, by simp [setTag], upd_same _ _ _, by simp, rfl, Nat.le_refl _, fun i hi => by simp⟩)

/-- a shorter beginning of a row -/
theorem Row.take {r : Nat} {e : TypeId} {s : Sl} {l : List Value} {n : Nat} (h : Row tag σ r e s l) (hn : n ≤ l.length) : Row tag σ r e ⟨s.a, n, s.cap⟩ (l.take n) := by
  rcases h with ⟨rfl, rfl⟩ | ⟨b, cs, ha', ht, hb, hln, hc, hle, hg⟩
  · cases hn; exact .inl ⟨rfl, rfl⟩
  · refine .inr ⟨b, cs, ha', ht, hb, by simp [hn], hc, by simp; omega, fun i hi => ?_⟩
    simp at hi
    rw [hg i (by omega), List.getElem?_take, if_pos (by omega)]

theorem awp_choose {β : Type} {q : Question} {f : Nat → Sem β} {Q : β → AH → Prop} (hq : q.forced = false) (h : ∀ n, awp P ro (f (q.cut n)) Q σ) : awp P ro (Sem.bind (choose q) f) Q σ := by
  show (if q.forced then _ else _)
  rw [hq]
  exact h
theorem awp_askRoom {β : Type} {n : Nat} {f : Unit → Sem β} {Q : β → AH → Prop} (h : awp P ro (f ()) Q σ) : awp P ro (Sem.bind (askRoom n) f) Q σ := by
  unfold askRoom; split <;> exact h
theorem cellsAt_of {p : Addr} {l : List Value} : ∀ (i : Nat), (∀ j v, l[j]? = some v → acell ro σ (p.add (i + j)) = some v) → cellsAt ro σ p i l := by
  induction l with
  | nil => intro _ _; trivial
  | cons x l ih =>
    intro i h
    refine ⟨h 0 x rfl, ih (i + 1) fun j v hj => ?_⟩
    have := h (j + 1) v hj
    rwa [show i + 1 + j = i + (j + 1) by omega]
theorem awp_first {β : Type} {r : Nat} {e : TypeId} {s : Sl} {l : List Value} {f : Array Value → Sem β} {Q : β → AH → Prop} (h : Row tag σ r e s l) (hs : Sep ro σ) (hf : awp P ro (f l.toArray) Q σ) :
    awp P ro (Sem.bind (Builtin.firstCells 1 s.len (.slice s.a s.len s.cap)) f) Q σ := by
  have hl := h.len
  rcases h' : s.a with _ | p
  · rcases h with ⟨rfl, rfl⟩ | ⟨b, cs, ha, _⟩
    · exact hf
    · rw [h'] at ha; cases ha
  · rw [show Sem.bind (Builtin.firstCells 1 s.len (.slice (some p) s.len s.cap)) f = (loadCells p (s.len * 1)) >>= f from rfl, awp_bind, Nat.mul_one, hl]
    refine awp_loadCells l 0 #[] ?_ (by simpa using hf)
    rcases Nat.eq_zero_or_pos l.length with h0 | h0
    · rw [List.eq_nil_of_length_eq_zero h0]; trivial
    · obtain ⟨p', hp, hg⟩ := h.ptr hs h0
      rw [h'] at hp; cases hp
      exact cellsAt_of 0 fun j v hj => by have := hg j v hj; rwa [Nat.mul_one, ← Nat.zero_add j] at this

/-- what an append reads: the old cells and the new one -/
theorem awp_append1 {r : Nat} {e t : TypeId} {s : Sl} {l : List Value} {a : Addr} {v zv : Value} {bytes : Nat} {ty : TypeId} {Q : Value → AH → Prop} (h : Row tag σ r e s l) (hs : Sep ro σ)
    (ht : P.underlying t = some (.slice e)) (hz : TyIs P e zv 1 bytes) (hzc : zv.cells = #[zv]) (hv : storable v = true) (hc : acell ro σ a = some v) (hsp : a.spot = none) (hb : (l.length + 1) * bytes ≤ 140737488355328) (hb0 : 0 < bytes)
    (hK : ∀ s' tag' σ', Step [r] ro tag σ tag' σ' → Row tag' σ' r e s' (l ++ [v]) → Q (Sl.v s') σ') :
    awp P ro (Builtin.append_ #[t, t] ty #[Sl.v s, Sl.v ⟨some a, 1, 1⟩]) Q σ := by
  obtain ⟨i, hi, hiz, his, hib⟩ := hz
  have hz : TyIs P e zv 1 bytes := ⟨i, hi, hiz, his, hib⟩
  have q1 : ∀ (f : TypeInfo → Sem Value), awp P ro (Sem.bind (typeInfo e) f) Q σ ↔ awp P ro (f i) Q σ := fun f => awp_typeInfo hi
  have g0 : (#[t, t] : Array TypeId)[0]? = some t := rfl
  have g1 : (#[t, t] : Array TypeId)[1]? = some t := rfl
  have g2 : (#[Value.slice s.a s.len s.cap, Value.slice (some a) 1 1] : Array Value)[0]? = some (Value.slice s.a s.len s.cap) := rfl
  have g3 : (#[Value.slice s.a s.len s.cap, Value.slice (some a) 1 1] : Array Value)[1]? = some (Value.slice (some a) 1 1) := rfl
  have hld : ∀ τ : AH, acell ro τ a = some v → ∀ {β : Type} (f : Array Value → Sem β) (Q : β → AH → Prop), awp P ro (f #[v]) Q τ → awp P ro (Sem.bind (Builtin.firstCells 1 1 (.slice (some a) 1 1)) f) Q τ := by
    intro τ hτ β f Q hf
    rw [show Sem.bind (Builtin.firstCells 1 1 (.slice (some a) 1 1)) f = (loadCells a 1) >>= f from rfl, awp_bind]
    exact awp_loadCells [v] 0 #[] ⟨by simpa using hτ, trivial⟩ hf
  unfold Builtin.append_
  simp only [Sl.v, bind_def, pure_def, g0, g1, g2, g3, bind_assoc']
  rw [awp_underlying ht]
  simp only []
  rw [awp_size hz]
  rw [awp_underlying ht]
  simp only [bind_pure', Builtin.lenOf, bind_def, pure_def, bind_assoc', Bool.false_eq_true, if_false, Bool.not_false, if_true, false_or]
  split
  · rename_i hroom
    refine hld _ hc _ _ ?_
    have h' := h
    rcases h with ⟨rfl, rfl⟩ | ⟨b, cs, ha, htg, hbk, hln, hcp, hle, hg⟩
    · simp at hroom
    · have hlt : s.len < cs.size := by omega
      have hx : Row tag σ r e ⟨s.a, s.len + 1, s.cap⟩ (l ++ [cs[s.len]]) := by
        refine .inr ⟨b, cs, ha, htg, hbk, by simp [hln], hcp, hroom, fun i hi => ?_⟩
        simp at hi
        rcases Nat.lt_or_ge i l.length with h1 | h1
        · rw [List.getElem?_append_left h1]; exact hg i h1
        · have : i = l.length := by omega
          subst this
          rw [List.getElem?_append_right (Nat.le_refl _)]
          simp [← hln, hlt]
      simp only [ha]
      show awp P ro (storeCells (Addr.add ⟨b, 0, none⟩ (s.len * 1)) [v] >>= fun _ => Sem.pure (Value.slice (some ⟨b, 0, none⟩) (s.len + 1) s.cap)) Q σ
      rw [awp_bind]
      refine awp_storeCells [v] 0 σ (hx.st (i := s.len) hs ha (by simp; omega) hv fun σ' hst hr => ?_)
      show Q (Value.slice (some ⟨b, 0, none⟩) (s.len + 1) s.cap) σ'
      have e1 : (l ++ [cs[s.len]]).set s.len v = l ++ [v] := by rw [List.set_append_right _ _ (by omega)]; simp [hln]
      rw [e1, ha] at hr
      exact hK _ _ _ hst hr
  · rename_i hroom
    rw [awp_typeInfo hi]
    rw [if_neg (by rw [hib]; omega)]
    rw [awp_typeInfo hi]
    rw [if_neg (by rw [hib]; have := growslice_fits (need := s.len + 1) (old := s.cap) (bytes := bytes) (by omega) (by rw [h.len]; exact hb); omega)]
    refine awp_choose rfl (fun n => ?_)
    rw [awp_typeInfo hi]
    refine awp_askRoom ?_
    have hcut : s.len + 1 ≤ (Question.appendCap (s.len + 1) s.cap e).cut n := by simp only [Question.cut]; omega
    generalize (Question.appendCap (s.len + 1) s.cap e).cut n = N at hcut
    refine awp_first h hs ?_
    refine hld _ hc _ _ ?_
    rw [awp_zero hz]
    rw [hzc]
    show ∀ b, ro b = none → σ b = none → Q (Value.slice (some ⟨b, 0, none⟩) (s.len + 1) N) (upd σ b _)
    intro b hro hb
    refine hK ⟨some ⟨b, 0, none⟩, s.len + 1, N⟩ (setTag tag b r) _ (Step.fresh hs hro hb) (.inr ⟨b, _, rfl, by simp [setTag], upd_same _ _ _, by simp [h.len], ?_, hcut, fun i hi => ?_⟩)
    · have := h.len
      simp [Builtin.zeroCells]; omega
    · simp at hi
      rw [Array.getElem?_append_left (by simp; omega)]
      simp

theorem stN_new {b : Nat} {e : TypeId} {K : AH → Prop} : ∀ (vs : List Value) (cs : Array Value) (i : Nat), cs.size = i + vs.length → (∀ v ∈ vs, storable v = true) → (∀ cs' : Array Value, cs'.size = cs.size → (∀ j, j < i → cs'[j]? = cs[j]?) → (∀ j v, vs[j]? = some v → cs'[i + j]? = some v) → K (upd σ b (.cells cs' e))) →
    stN ⟨b, 0, none⟩ K vs i (upd σ b (.cells cs e)) := by
  intro vs
  induction vs with
  | nil => intro cs i hsz _ hK; exact hK cs rfl (fun _ _ => rfl) (fun j v h => by cases h)
  | cons x vs ih =>
    intro cs i hsz hst hK
    simp only [List.length_cons] at hsz
    refine ⟨hst x (by simp), by simp, cs, e, (0, 0), ?_, ?_, ?_, ?_⟩
    · simp [upd]
    · simp; omega
    · simp
    · simp only [add_add, Nat.zero_add]
      rw [upd_upd]
      refine ih _ _ (by simp; omega) (fun v hv => hst v (by simp [hv])) fun cs' h1 h2 h3 => hK cs' (by simpa using h1) (fun j hj => ?_) fun j v hj => ?_
      · rw [h2 j (by omega), Array.getElem?_setIfInBounds_ne (by omega)]
      · rcases j with _ | j
        · cases hj
          rw [Nat.add_zero, h2 i (by omega), Array.getElem?_setIfInBounds_self_of_lt (by omega)]
        · rw [show i + (j + 1) = i + 1 + j by omega]; exact h3 j v hj
/-- new memory, and what is put there at once -/
theorem nw_st (r : Nat) {e : TypeId} {cs : Array Value} {vs : List Value} {K : Nat → AH → Prop} (hs : Sep ro σ) (hsz : cs.size = vs.length) (hst : ∀ v ∈ vs, storable v = true)
    (hK : ∀ b tag' σ', (∀ R, Step R ro tag σ tag' σ') → Row tag' σ' r e ⟨some ⟨b, 0, none⟩, vs.length, vs.length⟩ vs → K b σ') : nw ro σ (.cells cs e) fun b σ => stN ⟨b, 0, none⟩ (K b) vs 0 σ := by
  intro b hro hb
  refine stN_new vs cs 0 (by omega) hst fun cs' h1 _ h3 => ?_
  refine hK b (setTag tag b r) _ (fun R => Step.fresh hs hro hb) (.inr ⟨b, cs', rfl, by simp [setTag], upd_same _ _ _, rfl, by simp; omega, Nat.le_refl _, fun i hi => ?_⟩)
  rw [List.getElem?_eq_getElem hi]
  have := h3 i _ (List.getElem?_eq_getElem hi)
  rwa [Nat.zero_add] at this

/-! one block lent -/
def one (σ : AH) (b : Nat) : AH := fun c => if c = b then σ c else none
def del (σ : AH) (b : Nat) : AH := fun c => if c = b then none else σ c
theorem lent_block (b : Nat) {K : AH → AH → Prop} (h : K (one σ b) (del σ b)) : lent σ K := by
  refine ⟨_, _, fun c o hc => ?_, ?_, h⟩
  · unfold one at hc; unfold del
    split at hc
    · rename_i e; rw [if_pos e]
    · cases hc
  · funext c; unfold join one del
    by_cases e : c = b
    · simp only [e, if_true]; cases σ b <;> rfl
    · simp [e]
theorem Sep.lent {b : Nat} (hs : Sep ro σ) : Sep (join ro (one σ b)) (del σ b) := by
  intro c o hc
  unfold del at hc
  split at hc
  · cases hc
  · rename_i e
    unfold join one
    rw [hs c o hc]; simp [e]
theorem Row.del {r r' : Nat} {e : TypeId} {s : Sl} {l : List Value} {b : Nat} (h : Row tag σ r e s l) (hb : tag b = r') (hr : r ≠ r') : Row tag (del σ b) r e s l := by
  rcases h with h | ⟨c, cs, ha, ht, hs, hx⟩
  · exact .inl h
  · refine .inr ⟨c, cs, ha, ht, ?_, hx⟩
    have : c ≠ b := fun e => hr (by rw [← ht, e, hb])
    unfold SL.del; rw [if_neg this]; exact hs
theorem Row.lend {r : Nat} {e : TypeId} {b : Nat} {n m : Nat} {l : List Value} (h : Row tag σ r e ⟨some ⟨b, 0, none⟩, n, m⟩ l) (hs : Sep ro σ) {τ : AH} {i : Nat} {v : Value} (hv : l[i]? = some v) : acell (join ro (one σ b)) τ ((⟨b, 0, none⟩ : Addr).add (i * 1)) = some v := by
  rcases h with ⟨e, _⟩ | ⟨c, cs, ha, ht, hb, hln, hc, hle, hg⟩
  · cases e
  · cases ha
    have hi : i < l.length := by
      rcases Nat.lt_or_ge i l.length with h | h
      · exact h
      · rw [List.getElem?_eq_none h] at hv; cases hv
    rw [add_add, Nat.mul_one, Nat.zero_add]
    have : join ro (one σ b) b = some (.cells cs e) := by unfold join one; rw [hs b _ hb]; simp [hb]
    unfold acell rd
    simp only [this, cellOf]
    rw [← hv, ← hg i hi]; rfl
theorem Row.tagOf {r : Nat} {e : TypeId} {b : Nat} {n m : Nat} {l : List Value} (h : Row tag σ r e ⟨some ⟨b, 0, none⟩, n, m⟩ l) : tag b = r ∧ ∃ o, σ b = some o := by
  rcases h with ⟨e, _⟩ | ⟨c, cs, ha, ht, hb, _⟩
  · cases e
  · cases ha; exact ⟨ht, _, hb⟩
theorem Row.back {r : Nat} {e : TypeId} {s : Sl} {l : List Value} {b r' : Nat} {τ : AH} (h : Row tag' τ r e s l) (hd : Disj (one σ b) τ) (hb : ∃ o, σ b = some o) : Row (setTag tag' b r') (join (one σ b) τ) r e s l := by
  rcases h with h | ⟨c, cs, ha, ht, hs, hx⟩
  · exact .inl h
  · have hcb : c ≠ b := fun e => by
      obtain ⟨o, ho⟩ := hb
      have := hd b o (by unfold one; rw [if_pos rfl]; exact ho)
      rw [← e, hs] at this; cases this
    exact .inr ⟨c, cs, ha, by unfold setTag; rw [if_neg hcb]; exact ht, by unfold join one; rw [if_neg hcb]; exact hs, hx⟩
theorem Step.back {R : List Nat} {b : Nat} {τ : AH} (h : Step R (join ro (one σ b)) tag (del σ b) tag' τ) (hs : Sep ro σ) (hd : Disj (one σ b) τ) (hb : ∃ o, σ b = some o) : Step R ro tag σ (setTag tag' b (tag b)) (join (one σ b) τ) := by
  obtain ⟨ob, hob⟩ := hb
  have hone : one σ b b = some ob := by unfold one; rw [if_pos rfl]; exact hob
  refine ⟨fun c o hc hn => ?_, fun c o hc => ?_, fun c o hc => ?_⟩
  · by_cases e : c = b
    · subst e; exact ⟨by simp [setTag], by simp only [join, hone]; rw [← hob]; exact hc⟩
    · obtain ⟨t1, t2⟩ := h.keep c o (by unfold del; rw [if_neg e]; exact hc) hn
      exact ⟨by unfold setTag; rw [if_neg e]; exact t1, by unfold join one; rw [if_neg e]; exact t2⟩
  · by_cases e : c = b
    · subst e; exact ⟨by simp [setTag], ob, by unfold join; rw [hone]⟩
    · obtain ⟨t1, o', t2⟩ := h.old c o (by unfold del; rw [if_neg e]; exact hc)
      exact ⟨by unfold setTag; rw [if_neg e]; exact t1, o', by unfold join one; rw [if_neg e]; exact t2⟩
  · by_cases e : c = b
    · subst e; exact hs c _ hob
    · have : τ c = some o := by unfold join one at hc; rw [if_neg e] at hc; exact hc
      exact (join_none (h.sep c o this)).1
end Go.Proofs.YtomdigihapdhnaaGreatDoor.SL

/- Strings as lists of bytes; calls that leave memory as it is. Generic over any program. -/
namespace Go.Proofs.YtomdigihapdhnaaGreatDoor.SL
open Go
set_option linter.unusedSimpArgs false
variable {P : Program} {B : World} {ro σ σ' : AH} {tag tag' : Nat → Nat}

abbrev Str := List UInt8
def S (l : Str) : ByteArray := ⟨l.toArray⟩
def L (s : ByteArray) : Str := s.data.toList
@[simp] theorem L_S (l : Str) : L (S l) = l := rfl
@[simp] theorem S_L (s : ByteArray) : S (L s) = s := by cases s; rfl
theorem L_inj {a b : ByteArray} (h : L a = L b) : a = b := by rw [← S_L a, h, S_L]
theorem S_inj {a b : Str} : S a = S b ↔ a = b := ⟨fun h => by have := congrArg L h; simpa using this, fun h => by rw [h]⟩
@[simp] theorem S_size (l : Str) : (S l).size = l.length := rfl
theorem L_len (s : ByteArray) : (L s).length = s.size := rfl
theorem L_append (a b : ByteArray) : L (a ++ b) = L a ++ L b := by
  unfold L; rw [ByteArray.data_append, Array.toList_append]
theorem S_append (a b : Str) : S a ++ S b = S (a ++ b) := L_inj (by rw [L_append]; rfl)
theorem S_extract (l : Str) (i j : Nat) : (S l).extract i j = S ((l.take j).drop i) := by
  apply L_inj
  have := Go.Lib.extract_data (S l) i j
  show ((S l).extract i j).data.toList = _
  rw [this]
  simp [S, L, List.drop_take]
theorem S_ext (s : ByteArray) (a b : Nat) : s.extract a b = S (((L s).take b).drop a) := by
  conv => lhs; rw [← S_L s]
  rw [S_extract]
theorem S_get (l : Str) (i : Nat) : (S l)[i]? = l[i]? := by
  by_cases h : i < l.length
  · rw [List.getElem?_eq_getElem h]
    rw [getElem?_pos (S l) i h]
    rfl
  · rw [List.getElem?_eq_none (by omega), getElem?_neg (S l) i h]

/-- a call that reads no memory and writes none: all that was owned is as it was -/
theorem ACalls.quiet {f : FuncId} {args : Array Value} {R : Value → Prop} {Q : Value → AH → Prop} (h : ACalls P B ro f args (fun _ => none) fun v _ => R v) (hq : ∀ v, R v → Q v σ) : ACalls P B ro f args σ Q := by
  have e : join (fun _ => none) σ = σ := by funext b; rfl
  have := ACalls.frame h (ψ := σ) (fun b o h => by cases h)
  rw [e] at this
  refine this.drop ?_
  rintro v σ' ⟨τ, rfl, hd, hr⟩
  exact ⟨σ, fun b o h => join_right hd h, hq v hr⟩

/-- what memory says, in every world that has it -/
def Sees (ro σ : AH) (w : World) : Prop := ∀ b o, rd ro σ b = some o → w.heap[b]? = some o
/-- new memory of a world -/
def News (w w' : World) (N : AH) : Prop := ∀ b o, N b = some o → w.heap.size ≤ b ∧ w'.heap[b]? = some o
theorem ACalls.of_calls {f : FuncId} {args : Array Value} {Q : Value → AH → Prop}
    (h : ∀ w, Sees ro σ w → Sep ro σ → Calls P f args w fun e w' => ∃ v N, e = .returned v ∧ Go.RowKit.Below w.heap.size w w' ∧ News w w' N ∧ Q v (join σ N)) : ACalls P B ro f args σ Q := by
  intro φ w ho
  refine (h w (fun b o hr => ho.rd hr) ho.sep).mono ?_
  rintro e w' ⟨v, N, he, hb, hn, hq⟩
  have lt : ∀ b o, w.heap[b]? = some o → w'.heap[b]? = some o ∧ N b = none := fun b o hbo => by
    have hlt := lt_of_block hbo
    refine ⟨by rw [hb.block b hlt]; exact hbo, ?_⟩
    cases hN : N b with
    | none => rfl
    | some o' => have := (hn b o' hN).1; omega
  refine ⟨v, _, he, hq, hb.os.trans ho.os, hb.tape.trans ho.tape, hb.output.trans ho.output, fun b o hj => ?_, fun b o hf => (lt b o (ho.fr b o hf)).1, fun b o hf => (lt b o (ho.ro b o hf)).1⟩
  rcases join_some hj with h1 | ⟨_, h1⟩
  · obtain ⟨h2, h3, h4⟩ := ho.own b o h1
    exact ⟨(lt b o h2).1, h3, h4⟩
  · obtain ⟨h2, h3⟩ := hn b o h1
    refine ⟨h3, ?_, ?_⟩
    · cases hf : φ b with
      | none => rfl
      | some o' => have := lt_of_block (ho.fr b o' hf); omega
    · cases hf : ro b with
      | none => rfl
      | some o' => have := lt_of_block (ho.ro b o' hf); omega
/-- one new row -/
theorem new_row {w w' : World} {g : Nat} {cs : Array Value} {e : TypeId} (r : Nat) (hs : Sees ro σ w) (hsep : Sep ro σ) (hg : w.heap.size ≤ g) (hw : w'.heap[g]? = some (.cells cs e)) :
    ∃ N tag', News w w' N ∧ (∀ R, Step R ro tag σ tag' (join σ N)) ∧ ∀ n c (l : List Value), n = l.length → c = cs.size → n ≤ c → cs.toList.take n = l → Row tag' (join σ N) r e ⟨some ⟨g, 0, none⟩, n, c⟩ l := by
  have hσ : σ g = none := by
    cases h : σ g with
    | none => rfl
    | some o => have := lt_of_block (hs g o (by unfold rd; rw [hsep g o h]; exact h)); omega
  have hro : ro g = none := by
    cases h : ro g with
    | none => rfl
    | some o => have := lt_of_block (hs g o (by unfold rd; rw [h])); omega
  have e1 : join σ (fun b => if b = g then some (.cells cs e) else none) = upd σ g (.cells cs e) := by
    funext b; unfold join upd
    by_cases h : b = g
    · subst h; simp [hσ]
    · simp [h]; cases σ b <;> rfl
  refine ⟨fun b => if b = g then some (.cells cs e) else none, setTag tag g r, ?_, ?_, ?_⟩
  · intro b o hb
    simp only at hb
    split at hb
    · rename_i h; subst h; cases hb; exact ⟨hg, hw⟩
    · cases hb
  · intro R; rw [e1]; exact Step.fresh hsep hro hσ
  · rintro n c l rfl rfl hn ht
    rw [e1]
    refine .inr ⟨g, cs, rfl, by simp [setTag], upd_same _ _ _, rfl, rfl, hn, fun i hi => ?_⟩
    have : l[i]? = cs.toList[i]? := by
      conv => lhs; rw [← ht]
      rw [List.getElem?_take, if_pos hi]
    rw [this]; simp
theorem News.none (w w' : World) : News w w' fun _ => none := fun _ _ h => by cases h
end Go.Proofs.YtomdigihapdhnaaGreatDoor.SL

/- Maps whose keys are strings: what look-ups, stores and deletes do to the list of pairs that a map holds. Generic over any program. -/
namespace Go.Proofs.YtomdigihapdhnaaGreatDoor.SL
open Go
set_option linter.unusedSimpArgs false
set_option linter.unusedVariables false
variable {P : Program} {B : World} {ro σ σ' : AH} {tag tag' : Nat → Nat}

abbrev KV := List (Str × Value)
def mput : KV → Str → Value → KV
  | [], k, v => [(k, v)]
  | (k', v') :: r, k, v => if k = k' then (k, v) :: r else (k', v') :: mput r k v
def mdel : KV → Str → KV
  | [], _ => []
  | (k', v') :: r, k => if k = k' then r else (k', v') :: mdel r k
def entV (e : MapEntry) : Value × Value := (e.key, e.val)
def pairV (p : Str × Value) : Value × Value := (.string (S p.1), p.2)
structure Born (es : Array MapEntry) (clock : Nat) : Prop where
  lt : ∀ e ∈ es.toList, e.born < clock
  nd : (es.toList.map (·.born)).Nodup
structure MapIs (tag : Nat → Nat) (σ : AH) (r b : Nat) (m : KV) : Prop where
  tg : tag b = r
  obj : ∃ es clock, σ b = some (.map es clock) ∧ es.toList.map entV = m.map pairV ∧ Born es clock

theorem MapIs.keep {R : List Nat} {r b : Nat} {m : KV} (h : MapIs tag σ r b m) (k : Step R ro tag σ tag' σ') (hr : r ∉ R) : MapIs tag' σ' r b m := by
  obtain ⟨es, c, hb, hx⟩ := h.obj
  obtain ⟨t, e⟩ := k.keep b _ hb (by rw [h.tg]; exact hr)
  exact ⟨t.trans h.tg, es, c, e, hx⟩

theorem bbeq (a b : ByteArray) : (a == b) = decide (a = b) := by
  cases a with | mk a => cases b with | mk b =>
  show (a == b) = _
  rw [Bool.eq_iff_iff]; simp
theorem findNow_str (k : Str) : ∀ (l : List MapEntry) (m : KV) (i : Nat), l.map entV = m.map pairV →
    (m.lookup k = none ∧ mdel m k = m ∧ (∀ v, mput m k v = m ++ [(k, v)]) ∧ Instr.findNow .string (.string (S k)) l i = some none) ∨
    ∃ j v, j < l.length ∧ m.lookup k = some v ∧ Instr.findNow .string (.string (S k)) l i = some (some (i + j, v)) ∧ m[j]? = some (k, v) ∧ (∀ v', mput m k v' = m.set j (k, v')) ∧ mdel m k = m.eraseIdx j := by
  intro l
  induction l with
  | nil =>
    intro m i h
    have : m = [] := by simpa using h.symm
    subst this
    exact .inl ⟨rfl, rfl, fun _ => rfl, rfl⟩
  | cons e l ih =>
    intro m i h
    cases m with
    | nil => simp at h
    | cons p m =>
      simp only [List.map_cons, List.cons.injEq] at h
      obtain ⟨h1, h2⟩ := h
      have hk : e.key = .string (S p.1) := congrArg Prod.fst h1
      have hv : e.val = p.2 := congrArg Prod.snd h1
      obtain ⟨pk, pv⟩ := p
      simp only at hk hv
      unfold Instr.findNow
      rw [hk]
      by_cases c : k = pk
      · subst c
        right
        refine ⟨0, pv, by simp, by simp, ?_, rfl, fun v' => by simp [mput], by simp [mdel]⟩
        simp [Instr.sameNow, hv, bbeq]
      · have hne : Instr.sameNow .string (.string (S k)) (.string (S pk)) = some false := by
          simp [Instr.sameNow, S_inj, c, bbeq]
        rw [hne]
        simp only
        have hlk : List.lookup k ((pk, pv) :: m) = m.lookup k := by
          rw [List.lookup_cons]
          have : (k == pk) = false := by simpa using c
          rw [this]
        rw [hlk]
        rcases ih m (i + 1) h2 with ⟨a, b, d, f⟩ | ⟨j, v, hj, a, f, g, q, w⟩
        · exact .inl ⟨a, by simp [mdel, c, b], fun v => by simp [mput, c, d], f⟩
        · exact .inr ⟨j + 1, v, by simp; omega, a, by rw [f]; congr 3; omega, by simpa using g, fun v' => by simp [mput, c, q], by simp [mdel, c, w]⟩

theorem awp_checkKey {β : Type} {em : Bool} {kt : TypeId} {s : ByteArray} {f : Unit → Sem β} {K : β → AH → Prop} (hk : P.underlying kt = some .string) (h : awp P ro (f ()) K σ) : awp P ro (Sem.bind (Instr.checkKey em 10000 kt (.string s)) f) K σ := by
  rw [show (10000 : Nat) = 9999 + 1 from rfl]
  unfold Instr.checkKey
  simp only [bind_def]
  rw [bind_assoc', awp_underlying hk]
  exact h
theorem awp_findKey {β : Type} {kt : TypeId} {s : ByteArray} {l : List MapEntry} {r : Option (Nat × Value)} {f : Option (Nat × Value) → Sem β} {K : β → AH → Prop} (hk : P.underlying kt = some .string) (hr : Instr.findNow .string (.string s) l 0 = some r) (h : awp P ro (f r) K σ) :
    awp P ro (Sem.bind (Instr.findKey kt (.string s) l) f) K σ := by
  unfold Instr.findKey
  simp only [bind_def]
  rw [bind_assoc', awp_underlying hk]
  rw [hr]
  exact h

theorem awp_lookup_str {t kt et : TypeId} {zv : Value} {n bt r b : Nat} {m : KV} {k : Str} {K : Value → AH → Prop} (hm : MapIs tag σ r b m) (hs : Sep ro σ) (ht : P.underlying t = some (.map kt et)) (hk : P.underlying kt = some .string) (hz : TyIs P et zv n bt)
    (hK : K ((m.lookup k).getD zv) σ) : awp P ro (Instr.lookup t (.map (some b)) (.string (S k)) false) K σ := by
  obtain ⟨es, clock, hb, he, hbn⟩ := hm.obj
  unfold Instr.lookup
  simp only [bind_def]
  rw [awp_underlying ht]
  simp only [bind_assoc']
  refine ⟨.map es clock, by unfold rd; rw [hs b _ hb]; exact hb, rfl, ?_⟩
  refine awp_checkKey hk ?_
  rcases findNow_str k es.toList m 0 he with ⟨a, _, _, f⟩ | ⟨j, v, hj, a, f, _⟩
  · refine awp_findKey hk f ?_
    simp only [bind_assoc']
    rw [awp_zero hz]
    rw [a] at hK
    exact hK
  · refine awp_findKey hk f ?_
    rw [a] at hK
    exact hK

theorem step_obj {r b : Nat} {o o' : Obj} (hs : Sep ro σ) (ht : tag b = r) (hb : σ b = some o) : Step [r] ro tag σ tag (upd σ b o') := by
  refine ⟨fun c x hc hn => ?_, fun c x hc => ⟨rfl, ?_⟩, fun c x hc => ?_⟩
  · have : c ≠ b := fun h => hn (by simp [h, ht])
    exact ⟨rfl, by rw [upd_ne _ _ this]; exact hc⟩
  · by_cases h : c = b
    · exact ⟨_, by rw [h]; exact upd_same _ _ _⟩
    · exact ⟨x, by rw [upd_ne _ _ h]; exact hc⟩
  · by_cases h : c = b
    · exact hs c _ (by rw [h]; exact hb)
    · rw [upd_ne _ _ h] at hc; exact hs c _ hc
theorem awp_update_str {t kt et : TypeId} {r b : Nat} {m : KV} {k : Str} {v : Value} {K : Unit → AH → Prop} (hm : MapIs tag σ r b m) (hs : Sep ro σ) (ht : P.underlying t = some (.map kt et)) (hk : P.underlying kt = some .string)
    (hK : ∀ σ', Step [r] ro tag σ tag σ' → MapIs tag σ' r b (mput m k v) → K () σ') : awp P ro (Instr.mapUpdate t (.map (some b)) (.string (S k)) v) K σ := by
  obtain ⟨es, clock, hb, he, hbn⟩ := hm.obj
  unfold Instr.mapUpdate
  simp only [bind_def]
  rw [awp_underlying ht]
  refine ⟨.map es clock, by unfold rd; rw [hs b _ hb]; exact hb, rfl, ?_⟩
  refine awp_checkKey hk ?_
  rcases findNow_str k es.toList m 0 he with ⟨a, _, d, f⟩ | ⟨j, u, hj, a, f, g, q, _⟩
  · refine awp_findKey hk f ?_
    refine ⟨.map es clock, hb, rfl, ?_⟩
    refine hK _ (step_obj hs hm.tg hb) ⟨hm.tg, _, _, upd_same _ _ _, ?_, ?_, ?_⟩
    · rw [d v, Array.toList_push, List.map_append, List.map_append, he]; rfl
    · intro e he'
      rw [Array.toList_push] at he'
      rcases List.mem_append.1 he' with h | h
      · have := hbn.lt e h; omega
      · rw [List.mem_singleton] at h; rw [h]; exact Nat.lt_succ_self _
    · rw [Array.toList_push, List.map_append, List.nodup_append]
      refine ⟨hbn.nd, by simp, ?_⟩
      intro x hx y hy
      obtain ⟨e, he', rfl⟩ := List.mem_map.1 hx
      have := hbn.lt e he'
      simp at hy; omega
  · refine awp_findKey hk f ?_
    have hje : j < es.size := by simpa using hj
    have hkey : es[j].key = .string (S k) := by
      have h1 : (es.toList.map entV)[j]? = (m.map pairV)[j]? := by rw [he]
      rw [List.getElem?_map, List.getElem?_map, g, List.getElem?_eq_getElem hj] at h1
      have := Option.some.inj h1
      exact congrArg Prod.fst this
    have hst : (((es[0 + j]?).map (·.key)).getD (.string (S k))) = .string (S k) := by
      rw [Nat.zero_add, Array.getElem?_eq_getElem hje]
      exact hkey
    simp only
    rw [hst]
    have hkt : Instr.keyThatStays (.string (S k)) (.string (S k)) = Sem.pure (.string (S k)) := by
      unfold Instr.keyThatStays
      rw [if_pos (by simp [Instr.sameBits, bbeq])]; rfl
    rw [hkt]
    refine ⟨.map es clock, hb, rfl, ?_⟩
    have hml : (es.modify (0 + j) fun e => { e with key := .string (S k), val := v }).toList = es.toList.modify j fun e => { e with key := .string (S k), val := v } := by
      rw [Nat.zero_add]; exact Array.toList_modify ..
    refine hK _ (step_obj hs hm.tg hb) ⟨hm.tg, _, _, upd_same _ _ _, ?_, ?_, ?_⟩
    · rw [hml, q v]
      apply List.ext_getElem?
      intro i
      rw [List.getElem?_map, List.getElem?_map, List.getElem?_modify, List.getElem?_set]
      have hi : (es.toList.map entV)[i]? = (m.map pairV)[i]? := by rw [he]
      rw [List.getElem?_map, List.getElem?_map] at hi
      by_cases c : j = i
      · subst c
        have hjm : j < m.length := by
          rcases Nat.lt_or_ge j m.length with h | h
          · exact h
          · rw [List.getElem?_eq_none h] at g; cases g
        rw [if_pos rfl, if_pos hjm, List.getElem?_eq_getElem hj]
        simp [entV, pairV]
      · rw [if_neg c]
        simp only [c, if_false]
        cases h : es.toList[i]? with
        | none => rw [h] at hi; simpa using hi
        | some e => rw [h] at hi; simpa using hi
    · intro e he'
      rw [hml] at he'
      obtain ⟨i, hi, rfl⟩ := List.getElem_of_mem he'
      rw [List.getElem_modify]
      rw [List.length_modify] at hi
      split
      · have := hbn.lt _ (List.getElem_mem hi)
        exact this
      · have := hbn.lt _ (List.getElem_mem hi)
        exact this
    · rw [hml]
      have : (es.toList.modify j fun e => { e with key := .string (S k), val := v }).map (·.born) = es.toList.map (·.born) := by
        apply List.ext_getElem?
        intro i
        rw [List.getElem?_map, List.getElem?_map, List.getElem?_modify]
        by_cases c : j = i
        · subst c; rw [List.getElem?_eq_getElem hj]; simp
        · simp [c]
      rw [this]; exact hbn.nd
theorem nw_map (r : Nat) {K : Nat → AH → Prop} (hs : Sep ro σ) (hK : ∀ b tag' σ', (∀ R, Step R ro tag σ tag' σ') → MapIs tag' σ' r b [] → K b σ') : nw ro σ (.map #[] 0) K := by
  intro b hro hb
  exact hK b (setTag tag b r) _ (fun R => Step.fresh hs hro hb) ⟨by simp [setTag], _, _, upd_same _ _ _, rfl, by simp, by simp⟩
end Go.Proofs.YtomdigihapdhnaaGreatDoor.SL

/- Memory, on: slices that are only read, appends of many, classes of roles. Generic over any program. -/
namespace Go.Proofs.YtomdigihapdhnaaGreatDoor.SL
open Go
set_option linter.unusedSimpArgs false
set_option linter.unusedVariables false
variable {P : Program} {B : World} {ro σ σ' : AH} {tag tag' : Nat → Nat}

/-- what a slice reads as -/
def Read (ro σ : AH) (s : Sl) (l : List Value) : Prop := s.len = l.length ∧ (s.a = none → l = []) ∧ ∀ p, s.a = some p → ∀ i v, l[i]? = some v → acell ro σ (p.add i) = some v
theorem Row.read {r : Nat} {e : TypeId} {s : Sl} {l : List Value} (h : Row tag σ r e s l) (hs : Sep ro σ) : Read ro σ s l := by
  refine ⟨h.len, fun hn => ?_, fun p hp i v hv => ?_⟩
  · rcases h with ⟨_, h⟩ | ⟨b, cs, ha, _⟩
    · exact h
    · rw [hn] at ha; cases ha
  · have hl : 0 < l.length := by
      rcases Nat.eq_zero_or_pos l.length with h0 | h0
      · rw [List.eq_nil_of_length_eq_zero h0] at hv; cases hv
      · exact h0
    obtain ⟨q, hq, hg⟩ := h.ptr hs hl
    rw [hp] at hq; cases hq
    have := hg i v hv
    rwa [Nat.mul_one] at this
theorem Read.keep {s : Sl} {l : List Value} (h : Read ro (fun _ => none) s l) : Read ro σ s l := by
  refine ⟨h.1, h.2.1, fun p hp i v hv => ?_⟩
  have := h.2.2 p hp i v hv
  unfold acell rd at this ⊢
  cases e : ro (p.add i).block with
  | none => rw [e] at this; simp [cellOf] at this
  | some o => rw [e] at this; exact this

theorem Read.step {s : Sl} {l : List Value} (h : Read ro σ s l) (k : Step [] ro tag σ tag' σ') : Read ro σ' s l := by
  refine ⟨h.1, h.2.1, fun p hp i v hv => ?_⟩
  have := h.2.2 p hp i v hv
  unfold acell rd at this ⊢
  cases e : ro (p.add i).block with
  | some o => rw [e] at this; exact this
  | none =>
    rw [e] at this
    simp only at this ⊢
    cases e2 : σ (p.add i).block with
    | none => rw [e2] at this; simp [cellOf] at this
    | some o => rw [(k.keep _ o e2 (by simp)).2]; rw [e2] at this; exact this
theorem stN_blk {b o : Nat} {e : TypeId} {K : AH → Prop} : ∀ (vs : List Value) (cs : Array Value) (i : Nat) (σ : AH), σ b = some (.cells cs e) → o + i + vs.length ≤ cs.size → (∀ v ∈ vs, storable v = true) →
    (∀ cs' : Array Value, cs'.size = cs.size → (∀ j, j < o + i → cs'[j]? = cs[j]?) → (∀ j v, vs[j]? = some v → cs'[o + i + j]? = some v) → K (upd σ b (.cells cs' e))) → stN ⟨b, o, none⟩ K vs i σ := by
  intro vs
  induction vs with
  | nil =>
    intro cs i σ hb _ _ hK
    have := hK cs rfl (fun _ _ => rfl) (fun j v h => by cases h)
    have e : upd σ b (.cells cs e) = σ := by
      funext c; unfold upd; split
      · rename_i h; rw [h, hb]
      · rfl
    rw [e] at this; exact this
  | cons x vs ih =>
    intro cs i σ hb hsz hst hK
    simp only [List.length_cons] at hsz
    refine ⟨hst x (by simp), by simp, cs, e, (0, 0), ?_, ?_, ?_, ?_⟩
    · simpa using hb
    · simp; omega
    · simp
    · simp only [add_add]
      refine ih _ (i + 1) _ (upd_same _ _ _) (by simp; omega) (fun v hv => hst v (by simp [hv])) fun cs' h1 h2 h3 => ?_
      rw [upd_upd]
      refine hK cs' (by simpa using h1) (fun j hj => ?_) fun j v hj => ?_
      · rw [h2 j (by omega), Array.getElem?_setIfInBounds_ne (by omega)]
      · rcases j with _ | j
        · cases hj
          rw [Nat.add_zero, h2 (o + i) (by omega), Array.getElem?_setIfInBounds_self_of_lt (by omega)]
        · rw [show o + i + (j + 1) = o + (i + 1) + j by omega]; exact h3 j v hj

theorem awp_appendN {r : Nat} {e t : TypeId} {s s2 : Sl} {l l2 : List Value} {zv : Value} {bytes : Nat} {ty : TypeId} {Q : Value → AH → Prop} (h : Row tag σ r e s l) (hs : Sep ro σ) (h2 : Read ro σ s2 l2)
    (ht : P.underlying t = some (.slice e)) (hz : TyIs P e zv 1 bytes) (hzc : zv.cells = #[zv]) (hv : ∀ v ∈ l2, storable v = true) (hb : (l.length + l2.length) * bytes ≤ 140737488355328) (hb0 : 0 < bytes)
    (hK : ∀ s' tag' σ', (∀ R, s.len = s.cap ∨ r ∈ R → Step R ro tag σ tag' σ') → Row tag' σ' r e s' (l ++ l2) → Q (Sl.v s') σ') :
    awp P ro (Builtin.append_ #[t, t] ty #[Sl.v s, Sl.v s2]) Q σ := by
  obtain ⟨i, hi, hiz, his, hib⟩ := hz
  have hz : TyIs P e zv 1 bytes := ⟨i, hi, hiz, his, hib⟩
  have g0 : (#[t, t] : Array TypeId)[0]? = some t := rfl
  have g1 : (#[t, t] : Array TypeId)[1]? = some t := rfl
  have g2 : (#[Value.slice s.a s.len s.cap, Value.slice s2.a s2.len s2.cap] : Array Value)[0]? = some (Value.slice s.a s.len s.cap) := rfl
  have g3 : (#[Value.slice s.a s.len s.cap, Value.slice s2.a s2.len s2.cap] : Array Value)[1]? = some (Value.slice s2.a s2.len s2.cap) := rfl
  have hln := h2.1
  have hld : ∀ {β : Type} (f : Array Value → Sem β) (Q : β → AH → Prop), awp P ro (f l2.toArray) Q σ → awp P ro (Sem.bind (Builtin.firstCells 1 s2.len (.slice s2.a s2.len s2.cap)) f) Q σ := by
    intro β f Q hf
    cases hsa : s2.a with
    | none =>
      rw [h2.2.1 hsa] at hf
      exact hf
    | some p =>
      rw [show Sem.bind (Builtin.firstCells 1 s2.len (.slice (some p) s2.len s2.cap)) f = (loadCells p (s2.len * 1)) >>= f from rfl, awp_bind, Nat.mul_one, hln]
      exact awp_loadCells l2 0 #[] (cellsAt_of 0 fun j v hj => by rw [Nat.zero_add]; exact h2.2.2 p hsa j v hj) (by simpa using hf)
  unfold Builtin.append_
  simp only [Sl.v, bind_def, pure_def, g0, g1, g2, g3]
  rw [awp_underlying ht]
  simp only []
  rw [awp_size hz]
  rw [awp_underlying ht]
  simp only [bind_pure', Builtin.lenOf, bind_def, pure_def, Bool.false_eq_true, if_false, Bool.not_false, if_true, false_or]
  split
  · rename_i hroom
    refine hld _ _ ?_
    rcases h with ⟨rfl, rfl⟩ | ⟨b, cs, ha, htg, hbk, hln1, hcp, hle, hg⟩
    · have h0 : l2 = [] := List.eq_nil_of_length_eq_zero (by simp at hroom; omega)
      subst h0
      have hs2 : s2.len = 0 := hln
      show Q (.slice none (0 + s2.len) 0) σ
      rw [hs2]
      exact hK ⟨none, 0, 0⟩ tag σ (fun _ _ => Step.refl hs) (.inl ⟨rfl, rfl⟩)
    · have h' : Row tag σ r e s l := .inr ⟨b, cs, ha, htg, hbk, hln1, hcp, hle, hg⟩
      by_cases h0 : l2 = []
      · subst h0
        have hs2 : s2.len = 0 := hln
        simp only [ha]
        show Q (Value.slice (some ⟨b, 0, none⟩) (s.len + s2.len) s.cap) σ
        rw [hs2, Nat.add_zero]
        have := hK s tag σ (fun _ _ => Step.refl hs) (by rw [List.append_nil]; exact h')
        unfold Sl.v at this
        rw [ha] at this; exact this
      have hpos := List.length_pos_iff.2 h0
      simp only [ha]
      show awp P ro (storeCells (Addr.add ⟨b, 0, none⟩ (s.len * 1)) l2 >>= fun _ => Sem.pure (Value.slice (some ⟨b, 0, none⟩) (s.len + s2.len) s.cap)) Q σ
      rw [awp_bind, add_add, Nat.mul_one, Nat.zero_add]
      refine awp_storeCells l2 0 σ (stN_blk l2 cs 0 σ hbk (by omega) hv fun cs' c1 c2 c3 => ?_)
      show Q (Value.slice (some ⟨b, 0, none⟩) (s.len + s2.len) s.cap) _
      refine hK ⟨some ⟨b, 0, none⟩, s.len + s2.len, s.cap⟩ tag _ (fun R hR => (step_obj hs htg hbk).mono fun x hx => by rw [List.mem_singleton] at hx; rw [hx]; exact hR.resolve_left (by omega)) (.inr ⟨b, cs', rfl, htg, upd_same _ _ _, by simp [hln1, hln], by rw [c1]; exact hcp, hroom, fun i hi => ?_⟩)
      simp at hi
      rcases Nat.lt_or_ge i l.length with hh | hh
      · rw [c2 i (by omega), List.getElem?_append_left hh]; exact hg i hh
      · rw [List.getElem?_append_right hh]
        have := c3 (i - l.length) _ (List.getElem?_eq_getElem (by omega))
        rw [List.getElem?_eq_getElem (by omega), ← this]
        congr 1; omega
  · rename_i hroom
    rw [awp_typeInfo hi]
    rw [if_neg (by rw [hib]; omega)]
    rw [awp_typeInfo hi]
    have hl := h.len
    rw [if_neg (by rw [hib]; have := growslice_fits (need := s.len + s2.len) (old := s.cap) (bytes := bytes) (by omega) (by rw [hl, hln]; exact hb); omega)]
    refine awp_choose rfl (fun n => ?_)
    rw [awp_typeInfo hi]
    refine awp_askRoom ?_
    have hcut : s.len + s2.len ≤ (Question.appendCap (s.len + s2.len) s.cap e).cut n := by simp only [Question.cut]; omega
    generalize (Question.appendCap (s.len + s2.len) s.cap e).cut n = N at hcut
    refine awp_first h hs ?_
    refine hld _ _ ?_
    rw [awp_zero hz]
    rw [hzc]
    show ∀ b, ro b = none → σ b = none → Q (Value.slice (some ⟨b, 0, none⟩) (s.len + s2.len) N) (upd σ b _)
    intro b hro hb
    refine hK ⟨some ⟨b, 0, none⟩, s.len + s2.len, N⟩ (setTag tag b r) _ (fun _ _ => Step.fresh hs hro hb) (.inr ⟨b, _, rfl, by simp [setTag], upd_same _ _ _, by simp [hl, hln], ?_, hcut, fun i hi => ?_⟩)
    · simp [Builtin.zeroCells]; omega
    · simp at hi
      rw [Array.getElem?_append_left (by simp; omega)]
      simp

/-- new memory whose role its own number tells -/
theorem nw_cellsF (r : Nat → Nat) {e : TypeId} {cs : Array Value} {K : Nat → AH → Prop} (hs : Sep ro σ)
    (hK : ∀ b tag' σ', ro b = none → σ b = none → (∀ R, Step R ro tag σ tag' σ') → Row tag' σ' (r b) e ⟨some ⟨b, 0, none⟩, cs.size, cs.size⟩ cs.toList → K b σ') : nw ro σ (.cells cs e) K := by
  intro b hro hb
  exact hK b (setTag tag b (r b)) _ hro hb (fun R => Step.fresh hs hro hb) (.inr ⟨b, _, rfl, by simp [setTag], upd_same _ _ _, by simp, rfl, Nat.le_refl _, fun i hi => by simp⟩)

/-- only roles of one class change -/
def StepC (c : Nat) (ro : AH) (tag : Nat → Nat) (σ : AH) (tag' : Nat → Nat) (σ' : AH) : Prop := ∃ R : List Nat, (∀ x ∈ R, x % 64 = c) ∧ Step R ro tag σ tag' σ'
theorem Step.c {c : Nat} {R : List Nat} (h : Step R ro tag σ tag' σ') (hR : ∀ x ∈ R, x % 64 = c) : StepC c ro tag σ tag' σ' := ⟨R, hR, h⟩
theorem StepC.sep {c : Nat} (h : StepC c ro tag σ tag' σ') : Sep ro σ' := by obtain ⟨_, _, h⟩ := h; exact h.sep
theorem StepC.trans {c : Nat} {tag'' : Nat → Nat} {σ'' : AH} (h : StepC c ro tag σ tag' σ') (k : StepC c ro tag' σ' tag'' σ'') : StepC c ro tag σ tag'' σ'' := by
  obtain ⟨R, h1, h2⟩ := h
  obtain ⟨R', k1, k2⟩ := k
  refine ⟨R ++ R', fun x hx => ?_, (h2.mono fun r hr => by simp [hr]).trans (k2.mono fun r hr => by simp [hr])⟩
  rcases List.mem_append.1 hx with h | h
  · exact h1 x h
  · exact k1 x h
theorem StepC.refl {c : Nat} (h : Sep ro σ) : StepC c ro tag σ tag σ := ⟨[], by simp, Step.refl h⟩
theorem Row.keepC {c r : Nat} {e : TypeId} {s : Sl} {l : List Value} (h : Row tag σ r e s l) (k : StepC c ro tag σ tag' σ') (hr : r % 64 ≠ c) : Row tag' σ' r e s l := by
  obtain ⟨R, h1, h2⟩ := k
  exact h.keep h2 fun m => hr (h1 _ m)
theorem MapIs.keepC {c r b : Nat} {m : KV} (h : MapIs tag σ r b m) (k : StepC c ro tag σ tag' σ') (hr : r % 64 ≠ c) : MapIs tag' σ' r b m := by
  obtain ⟨R, h1, h2⟩ := k
  exact h.keep h2 fun m => hr (h1 _ m)

/-! with one block lent, all reads as before -/
theorem rd_lent (b c : Nat) : rd (join ro (one σ b)) (SL.del σ b) c = rd ro σ c := by
  unfold rd join one SL.del
  cases h : ro c with
  | some o => rfl
  | none =>
    by_cases e : c = b
    · subst e; simp only [if_true]; cases σ c <;> rfl
    · simp [e]
theorem Read.lent {s : Sl} {l : List Value} (b : Nat) (h : Read ro σ s l) : Read (join ro (one σ b)) (SL.del σ b) s l :=
  ⟨h.1, h.2.1, fun p hp i v hv => by have := h.2.2 p hp i v hv; unfold acell at this ⊢; rw [rd_lent]; exact this⟩
theorem MapIs.del {r b c : Nat} {m : KV} (h : MapIs tag σ r b m) (hc : tag c ≠ r) : MapIs tag (SL.del σ c) r b m := by
  obtain ⟨es, k, hb, hx⟩ := h.obj
  refine ⟨h.tg, es, k, ?_, hx⟩
  have : b ≠ c := fun e => hc (by rw [← e]; exact h.tg)
  unfold SL.del; rw [if_neg this]; exact hb
theorem MapIs.back {r b c r' : Nat} {m : KV} {τ : AH} (h : MapIs tag' τ r b m) (hd : Disj (one σ c) τ) (hb : ∃ o, σ c = some o) : MapIs (setTag tag' c r') (join (one σ c) τ) r b m := by
  obtain ⟨es, k, hs, hx⟩ := h.obj
  have hcb : b ≠ c := fun e => by
    obtain ⟨o, ho⟩ := hb
    have := hd c o (by unfold one; rw [if_pos rfl]; exact ho)
    rw [← e, hs] at this; cases this
  exact ⟨by unfold setTag; rw [if_neg hcb]; exact h.tg, es, k, by unfold join one; rw [if_neg hcb]; exact hs, hx⟩

/-- all cells of a row anew -/
theorem Row.stAll {r : Nat} {e : TypeId} {b n c : Nat} {l vs : List Value} {K : AH → Prop} (h : Row tag σ r e ⟨some ⟨b, 0, none⟩, n, c⟩ l) (hs : Sep ro σ) (hl : vs.length = l.length) (hv : ∀ v ∈ vs, storable v = true)
    (hK : ∀ σ', Step [r] ro tag σ tag σ' → Row tag σ' r e ⟨some ⟨b, 0, none⟩, n, c⟩ vs → K σ') : stN ⟨b, 0, none⟩ K vs 0 σ := by
  rcases h with ⟨h, _⟩ | ⟨b', cs, ha, ht, hb, hln, hc, hle, hg⟩
  · cases h
  · cases ha
    refine stN_blk vs cs 0 σ hb (by simp at hln hc hle; omega) hv fun cs' c1 _ c3 => ?_
    refine hK _ (step_obj hs ht hb) (.inr ⟨b, cs', rfl, ht, upd_same _ _ _, by rw [hl]; exact hln, by rw [c1]; exact hc, hle, fun i hi => ?_⟩)
    have := c3 i _ (List.getElem?_eq_getElem hi)
    rw [List.getElem?_eq_getElem hi, ← this]; congr 1; omega
end Go.Proofs.YtomdigihapdhnaaGreatDoor.SL

/- What an argument is, to whatever depth: a reading with its sizes. Generic over any program. -/
namespace Go.Proofs.YtomdigihapdhnaaGreatDoor.SL
open Go
set_option linter.unusedSimpArgs false
set_option linter.unusedVariables false
variable {P : Program} {W : World}

/-- the cells cs read as a value of type t, and nothing in it is larger than the reach -/
def Arg (P : Program) (W : World) (H : Type) (enc : TypeId × Value → H) (t : TypeId) (cs : List Value) : Prop :=
  ∃ (fuel : Nat) (d : DataW H) (ps : List MemPlace), DataW.trod enc P W 0 (fun _ => true) true fuel t cs = some (d, ps) ∧ (d.weights P t).all (· ≤ reachBytes) = true
variable {H : Type} {enc : TypeId × Value → H}

theorem weightsAll_get {e : TypeId} : ∀ {l : List (DataW H)} {d : DataW H}, d ∈ l → (DataW.weightsAll P e l).all (· ≤ reachBytes) = true → (d.weights P e).all (· ≤ reachBytes) = true := by
  intro l
  induction l with
  | nil => intro d h; cases h
  | cons x l ih =>
    intro d h hw
    rw [DataW.weightsAll, List.all_append, Bool.and_eq_true] at hw
    rcases List.mem_cons.1 h with rfl | h
    · exact hw.1
    · exact ih h hw.2
theorem weightsEach_get : ∀ {ts : List TypeId} {l : List (DataW H)} {i : Nat} {t : TypeId} {d : DataW H}, ts[i]? = some t → l[i]? = some d → (DataW.weightsEach P ts l).all (· ≤ reachBytes) = true → (d.weights P t).all (· ≤ reachBytes) = true := by
  intro ts
  induction ts with
  | nil => intro l i t d h; cases h
  | cons t' ts ih =>
    intro l i t d ht hd hw
    cases l with
    | nil => cases hd
    | cons x l =>
      rw [DataW.weightsEach, List.all_append, Bool.and_eq_true] at hw
      cases i with
      | zero => cases ht; cases hd; exact hw.1
      | succ i => exact ih (by simpa using ht) (by simpa using hd) hw.2
theorem Arg.slice {t e : TypeId} {a : Option Addr} {len cap : Nat} (ht : P.underlying t = some (.slice e)) (h : Arg P W H enc t [.slice a len cap]) :
    (a = none ∧ len = 0 ∧ cap = 0) ∨ ∃ x, a = some x ∧ len ≤ cap ∧ cap * P.bytesOf e ≤ reachBytes ∧ ∀ j, j < len → ∃ cs, cs.length = P.cellsOf e ∧ (∀ i, i < P.cellsOf e → W.cell? ((x.add (j * P.cellsOf e)).add i) = cs[i]?) ∧ Arg P W H enc e cs := by
  obtain ⟨fuel, d, ps, hf, hw⟩ := h
  rcases Go.Deep.open_slice ht hf with ⟨hcs, _⟩ | ⟨x, l, c, m, n, D, Pl, hcs, _, hl, _, hm, hx, hel⟩
  · simp at hcs; exact .inl hcs
  · simp at hcs
    obtain ⟨rfl, rfl, rfl⟩ := hcs
    simp only [Prod.mk.injEq] at hx
    rw [hx.1] at hw
    rw [DataW.weights, ht] at hw
    simp only [List.all_cons, List.all_append, Bool.and_eq_true, decide_eq_true_eq, List.length_map, List.length_range] at hw
    refine .inr ⟨x, rfl, hl, ?_, fun j hj => ?_⟩
    · have : len + (m - len) = cap := by simp at hm; omega
      rw [this] at hw; exact hw.1
    · obtain ⟨cs, h1, h2⟩ := hel j (by simp at hm; omega)
      obtain ⟨_, h3, h4⟩ := World.cells?_some h1
      exact ⟨cs, h3, h4, n, D j, Pl j, h2, weightsAll_get (List.mem_map.2 ⟨j, List.mem_range.2 hj, rfl⟩) hw.2.1⟩
theorem Arg.struct {t : TypeId} {fs : Array Field} {cs : List Value} (ht : P.underlying t = some (.struct fs)) (h : Arg P W H enc t cs) :
    cs.length = P.cellsOf t ∧ ∀ (i : Nat) (f : Field), fs.toList[i]? = some f → Arg P W H enc f.type ((cs.drop f.offset).take (P.cellsOf f.type)) := by
  obtain ⟨fuel, d, ps, hf, hw⟩ := h
  cases fuel with
  | zero => cases hf
  | succ n =>
    unfold DataW.trod at hf
    rw [ht] at hf
    simp only at hf
    split at hf
    · rename_i hl
      refine ⟨hl, fun i f hi => ?_⟩
      obtain ⟨r, hr, hd⟩ := Option.map_eq_some_iff.1 hf
      have h1 := mapM_some_get hr i f hi
      have h2 := mapM_some_length hr
      have hil : i < fs.toList.length := by
        rcases Nat.lt_or_ge i fs.toList.length with h' | h'
        · exact h'
        · rw [List.getElem?_eq_none h'] at hi; cases hi
      rw [List.getElem?_eq_getElem (by omega)] at h1
      simp only [Prod.mk.injEq] at hd
      rw [← hd.1, DataW.weights, ht] at hw
      refine ⟨n, r[i].1, r[i].2, h1, weightsEach_get (ts := fs.toList.map (·.type)) (i := i) (by rw [List.getElem?_map, hi]; rfl) (by rw [List.getElem?_map, List.getElem?_eq_getElem (by omega)]; rfl) hw⟩
    · cases hf
theorem Arg.i64 {t : TypeId} {u : Value} (ht : P.underlying t = some (.int .i64)) (h : Arg P W H enc t [u]) : ∃ x : Int, u = .int .i64 x := by
  obtain ⟨fuel, d, ps, hf, hw⟩ := h
  obtain ⟨x, h, _⟩ := trod_i64 ht hf
  exact ⟨x, h⟩
theorem Arg.u8 {t : TypeId} {u : Value} (ht : P.underlying t = some (.int .u8)) (h : Arg P W H enc t [u]) : ∃ c : UInt8, u = .int .u8 c.toNat := by
  obtain ⟨fuel, d, ps, hf, hw⟩ := h
  cases fuel with
  | zero => cases hf
  | succ n =>
    unfold DataW.trod at hf
    rw [ht] at hf
    cases u <;> simp at hf
    rename_i k x
    obtain ⟨⟨rfl, hwf⟩, _⟩ := hf
    simp [Lit.wf, IntKind.min, IntKind.max, IntKind.bits, IntKind.signed] at hwf
    refine ⟨UInt8.ofNat x.toNat, ?_⟩
    congr 1
    simp; omega
theorem Arg.bool {t : TypeId} {u : Value} (ht : P.underlying t = some .bool) (h : Arg P W H enc t [u]) : ∃ b : Bool, u = .bool b := by
  obtain ⟨fuel, d, ps, hf, hw⟩ := h
  cases fuel with
  | zero => cases hf
  | succ n =>
    unfold DataW.trod at hf
    rw [ht] at hf
    cases u <;> simp at hf
    exact ⟨_, rfl⟩
theorem Arg.str {t : TypeId} {u : Value} (ht : P.underlying t = some .string) (h : Arg P W H enc t [u]) : ∃ s : ByteArray, u = .string s ∧ s.size ≤ reachBytes := by
  obtain ⟨fuel, d, ps, hf, hw⟩ := h
  cases fuel with
  | zero => cases hf
  | succ n =>
    unfold DataW.trod at hf
    rw [ht] at hf
    cases u <;> simp at hf
    rename_i s
    refine ⟨s, rfl, ?_⟩
    obtain ⟨_, rfl, _⟩ := hf
    rw [DataW.weights] at hw
    simpa using hw
end Go.Proofs.YtomdigihapdhnaaGreatDoor.SL

/- Rows of the second form (what is read is of small bulk), with listed variables, in a world of its right shape. -/
namespace Go.Proofs.YtomdigihapdhnaaGreatDoor.SL
open Go Go.ChangeShapes Go.WideShapes Go.ChangeAt Go.RowKit
set_option linter.unusedVariables false
set_option linter.unusedSimpArgs false

theorem wrapU {H : Type} {enc : TypeId × Value → H} {a : Assume} {C : Checked} {os : Os} {f : FuncId} {fn : Func} {s : ChangeSpec} {conds : List PathCond} {apart fresh handsOn again : Bool} {X : World → Array Value → Prop} {F : Stop.Interp}
    (hX : ∀ (w w' : World) (args : Array Value), w.heap = w'.heap → X w args → X w' args)
    (own : ownKnob C.prog.godebug = none) (started : os.Started) (noInit : C.prog.inits.idxOf? f = none) (hfn : C.prog.funcs[f]? = some fn)
    (witness : ∃ (w : World) (tape : Tape) (i : Input), w.os = os ∧ (w.forCall tape i).Shaped C.prog ∧ i.vars = [] ∧ Input.okWide C.prog (w.forCall tape i) .any w.heap.size f i ∧
      (((Rows.OpenSpec.upto s).pre enc C.prog fn conds apart (w.forCall tape i).memory i.args ∧ X (w.forCall tape i).memory i.args) ∧ sizedMet enc C.prog fn (Rows.OpenSpec.upto s) apart (w.forCall tape i).memory i.args) ∧ a.holds C.prog (lone (Frame.enter C.prog f i.args .normal) [] (w.forCall tape i)))
    (contract : ∀ (W : World) (base : Nat) (args : Array Value) (ds gs : List (DataW H)) (before : List MemPlace),
      (∀ (j : Nat) t v, fn.params[j]? = some t → args[j]? = some v → Value.okWide C.prog W .any base t v) →
      DataW.Whole enc C.prog fn.params.toList s.vars apart W args.toList ds gs before →
      Rows.uptoSmall H (ds ++ gs) = true →
      (DataW.weightsEach C.prog (fn.params.toList ++ s.plain.varTypes C.prog) (ds ++ gs)).all (· ≤ reachBytes) = true → X W args → W.ShapedOpen C.prog →
      a.holds C.prog (lone (Frame.enter C.prog f args .normal) [] W) →
      Calls C.prog f args W fun e W' => ∃ v, e = .returned v ∧ ((Rows.OpenSpec.upto s).at F).post enc C.prog fn apart fresh handsOn again W args v W') :
    ReturnsInHanded a C os f .any (fun w args => ((Rows.OpenSpec.upto s).pre enc C.prog fn conds apart w args ∧ X w args) ∧ sizedMet enc C.prog fn (Rows.OpenSpec.upto s) apart w args) (((Rows.OpenSpec.upto s).at F).post enc C.prog fn apart fresh handsOn again) := by
  refine returnsInHanded_of_calls own started noInit witness ?_
  intro w tape i _ hsh _ hok hpre hholds
  obtain ⟨_, _, _, fn', hfn', _, _, _, _, hval⟩ := hok
  have e : fn' = fn := Option.some.inj (hfn'.symm.trans hfn)
  subst e
  obtain ⟨⟨hp, hx⟩, hz⟩ := hpre
  obtain ⟨ds, gs, before, hw, _, hk⟩ := (OpenSpec.pre_some (s := Rows.OpenSpec.upto s) (k := Rows.uptoSmall) rfl conds apart _ _).1 hp
  have hw' := DataW.Whole.of_heap (w' := w.forCall tape i) (by rfl) hw
  refine (contract (w.forCall tape i) w.heap.size i.args ds gs before hval hw' hk (hz.weights hw) (hX _ _ _ (by rfl) hx) hsh hholds).mono fun e W' ⟨v, he, hp⟩ => ?_
  subst he
  exact ChangeSpec.post_blind hp
theorem witnessU {H : Type} {enc : TypeId × Value → H} {C : Checked} {os : Os} {f : FuncId} {fn : Func} {s : ChangeSpec} {apart : Bool} {X : World → Array Value → Prop} (w0 : World) (args : Array Value) (fuel : Nat) (hos : w0.os = os)
    (hsh : (w0.forCall (fun _ _ => 0) ⟨#[], args, []⟩).Shaped C.prog)
    (hok : Input.okWideB C.prog (w0.forCall (fun _ _ => 0) ⟨#[], args, []⟩) f ⟨#[], args, []⟩ = true)
    {x : List (DataW H) × List (DataW H) × List MemPlace} (hx : DataW.whole enc C.prog (w0.forCall (fun _ _ => 0) ⟨#[], args, []⟩).memory fn.params.toList s.vars apart args.toList fuel = some x)
    (hkk : Rows.uptoSmall H (x.1 ++ x.2.1) = true)
    (hsz : s.sizedB enc C.prog fn apart (w0.forCall (fun _ _ => 0) ⟨#[], args, []⟩).memory args fuel = true)
    (hX : X (w0.forCall (fun _ _ => 0) ⟨#[], args, []⟩).memory args) :
    ∃ (w : World) (tape : Tape) (i : Input), w.os = os ∧ (w.forCall tape i).Shaped C.prog ∧ i.vars = [] ∧ Input.okWide C.prog (w.forCall tape i) .any w.heap.size f i ∧
      (((Rows.OpenSpec.upto s).pre enc C.prog fn [] apart (w.forCall tape i).memory i.args ∧ X (w.forCall tape i).memory i.args) ∧ sizedMet enc C.prog fn (Rows.OpenSpec.upto s) apart (w.forCall tape i).memory i.args) ∧ ({} : Assume).holds C.prog (lone (Frame.enter C.prog f i.args .normal) [] (w.forCall tape i)) :=
  ⟨w0, fun _ _ => 0, ⟨#[], args, []⟩, hos, hsh, (Input.okWide_of_okWideB (base := 0) hok).1, (Input.okWide_of_okWideB hok).2,
    ⟨⟨(OpenSpec.pre_some (s := Rows.OpenSpec.upto s) (k := Rows.uptoSmall) rfl [] apart _ _).2 ⟨x.1, x.2.1, x.2.2, DataW.Whole_of_whole hx, rfl, hkk⟩, hX⟩, sizedMet_of_sizedB hsz⟩, by
    simp only [Assume.holds]
    exact ⟨by simp, by simp, fun _ => Modest.zero, by simp, by simp⟩⟩

theorem bulk_pos {H : Type} (d : DataW H) : 1 ≤ Rows.uptoBulk d := by
  cases d with
  | lit l => cases l <;> simp [Rows.uptoBulk]
  | _ => simp [Rows.uptoBulk]
theorem bulkAll_len {H : Type} : ∀ (l : List (DataW H)), l.length ≤ Rows.uptoBulkAll l := by
  intro l
  induction l with
  | nil => simp [Rows.uptoBulkAll]
  | cons d l ih => have := bulk_pos d; simp [Rows.uptoBulkAll]; omega
theorem bulkAll_get {H : Type} : ∀ {l : List (DataW H)} {i : Nat} {d : DataW H}, l[i]? = some d → Rows.uptoBulk d ≤ Rows.uptoBulkAll l := by
  intro l
  induction l with
  | nil => intro i d h; cases h
  | cons x l ih =>
    intro i d h
    cases i with
    | zero => cases h; simp [Rows.uptoBulkAll]
    | succ i => have := ih (by simpa using h); simp only [Rows.uptoBulkAll]; omega
theorem upto_get {H : Type} {l : List (DataW H)} {i : Nat} {d : DataW H} (h : Rows.uptoSmall H l = true) (hi : l[i]? = some d) : Rows.uptoBulk d ≤ 1048576 := by
  unfold Rows.uptoSmall at h
  have := bulkAll_get hi
  simp only [decide_eq_true_eq] at h
  omega
end Go.Proofs.YtomdigihapdhnaaGreatDoor.SL

/- Facts of the types that the printed functions use. Printed by wip/tools/gen.py. -/
namespace Go.Proofs.YtomdigihapdhnaaGreatDoor.G
open Go Go.Proofs.YtomdigihapdhnaaGreatDoor.SL
set_option linter.unusedVariables false
set_option linter.unusedSimpArgs false

theorem _root_.Go.Proofs.Tryz.mixed : Tryz.prog.follows .mixedOrders = true := by kernel_rfl
theorem ty3 : TyIs Tryz.prog 3 (.int .i64 0) 1 8 := TyIs.of (by kernel_rfl)
theorem ty4 : TyIs Tryz.prog 4 (.bool false) 1 1 := TyIs.of (by kernel_rfl)
theorem ty5 : TyIs Tryz.prog 5 (.int .u8 0) 1 1 := TyIs.of (by kernel_rfl)
theorem ty9 : TyIs Tryz.prog 9 (.string ByteArray.empty) 1 16 := TyIs.of (by kernel_rfl)
theorem ty22 : TyIs Tryz.prog 22 (.int .i64 0) 1 8 := TyIs.of (by kernel_rfl)
theorem ty23 : TyIs Tryz.prog 23 (.slice none 0 0) 1 24 := TyIs.of (by kernel_rfl)
theorem ty24 : TyIs Tryz.prog 24 (.slice none 0 0) 1 24 := TyIs.of (by kernel_rfl)
theorem ty26 : TyIs Tryz.prog 26 (.agg #[.int .i64 0, .int .i64 0, .int .i64 0, .int .i64 0]) 4 32 := TyIs.of (by kernel_rfl)
theorem ty27 : TyIs Tryz.prog 27 (.slice none 0 0) 1 24 := TyIs.of (by kernel_rfl)
theorem ty28 : TyIs Tryz.prog 28 (.slice none 0 0) 1 24 := TyIs.of (by kernel_rfl)
theorem ty30 : TyIs Tryz.prog 30 (.agg #[.int .i64 0, .int .i64 0, .slice none 0 0, .int .i64 0, .slice none 0 0, .int .i64 0, .int .i64 0, .int .i64 0, .int .i64 0, .slice none 0 0, .slice none 0 0, .int .i64 0]) 12 160 := TyIs.of (by kernel_rfl)
theorem ty35 : TyIs Tryz.prog 35 (.slice none 0 0) 1 24 := TyIs.of (by kernel_rfl)
theorem ty36 : TyIs Tryz.prog 36 (.agg #[.int .i64 0, .int .i64 0, .int .i64 0, .int .i64 0]) 4 32 := TyIs.of (by kernel_rfl)
theorem ty37 : TyIs Tryz.prog 37 (.slice none 0 0) 1 24 := TyIs.of (by kernel_rfl)
theorem ty39 : TyIs Tryz.prog 39 (.agg #[.int .i64 0, .int .i64 0, .slice none 0 0, .int .i64 0, .slice none 0 0, .int .i64 0, .int .i64 0, .int .i64 0, .int .i64 0, .slice none 0 0, .slice none 0 0, .int .i64 0]) 12 160 := TyIs.of (by kernel_rfl)
theorem ty54 : TyIs Tryz.prog 54 (.slice none 0 0) 1 24 := TyIs.of (by kernel_rfl)
theorem ty55 : TyIs Tryz.prog 55 (.slice none 0 0) 1 24 := TyIs.of (by kernel_rfl)
theorem ty57 : TyIs Tryz.prog 57 (.agg #[.int .i64 0, .string ByteArray.empty, .int .i64 0, .int .i64 0, .int .i64 0, .int .i64 0, .int .i64 0, .int .i64 0, .slice none 0 0, .string ByteArray.empty, .bool false, .int .i64 0, .slice none 0 0]) 13 152 := TyIs.of (by kernel_rfl)
theorem ty61 : TyIs Tryz.prog 61 (.pointer none) 1 8 := TyIs.of (by kernel_rfl)
theorem ty81 : TyIs Tryz.prog 81 (.agg #[.string ByteArray.empty, .int .i64 0]) 2 24 := TyIs.of (by kernel_rfl)
theorem ty83 : TyIs Tryz.prog 83 (.agg #[.string ByteArray.empty, .int .i64 0, .int .i64 0, .int .i64 0, .int .i64 0, .int .i64 0, .slice none 0 0]) 7 80 := TyIs.of (by kernel_rfl)
theorem ty128 : TyIs Tryz.prog 128 (.agg #[.string ByteArray.empty, .int .i64 0]) 2 24 := TyIs.of (by kernel_rfl)
theorem ty132 : TyIs Tryz.prog 132 (.agg #[.int .i64 0, .int .i64 0, .string ByteArray.empty]) 3 32 := TyIs.of (by kernel_rfl)
theorem ty136 : TyIs Tryz.prog 136 (.agg #[.string ByteArray.empty, .int .i64 0]) 2 24 := TyIs.of (by kernel_rfl)
theorem ty139 : TyIs Tryz.prog 139 (.agg #[.int .i64 0, .int .i64 0, .string ByteArray.empty]) 3 32 := TyIs.of (by kernel_rfl)
theorem ty147 : TyIs Tryz.prog 147 (.agg #[.slice none 0 0, .int .i64 0, .int .i64 0]) 3 40 := TyIs.of (by kernel_rfl)
theorem ty149 : TyIs Tryz.prog 149 (.agg #[.int .i64 0, .slice none 0 0]) 2 32 := TyIs.of (by kernel_rfl)
theorem ty150 : TyIs Tryz.prog 150 (.pointer none) 1 8 := TyIs.of (by kernel_rfl)
theorem ty151 : TyIs Tryz.prog 151 (.pointer none) 1 8 := TyIs.of (by kernel_rfl)
theorem ty153 : TyIs Tryz.prog 153 (.agg #[.int .i64 0, .slice none 0 0, .pointer none, .pointer none, .pointer none]) 5 56 := TyIs.of (by kernel_rfl)
theorem ty168 : TyIs Tryz.prog 168 (.agg #[.int .i64 0, .int .i64 0, .int .i64 0, .int .i64 0, .slice none 0 0]) 5 56 := TyIs.of (by kernel_rfl)
theorem ty215 : TyIs Tryz.prog 215 (.int .i8 0) 1 1 := TyIs.of (by kernel_rfl)
theorem ty217 : TyIs Tryz.prog 217 (.agg #[.slice none 0 0, .int .i64 0, .int .i8 0]) 3 40 := TyIs.of (by kernel_rfl)
theorem ty219 : TyIs Tryz.prog 219 (.agg #[.slice none 0 0, .int .i64 0, .int .i8 0, .bool false]) 4 48 := TyIs.of (by kernel_rfl)
theorem ty221 : TyIs Tryz.prog 221 (.agg #[.slice none 0 0, .int .i64 0, .int .i8 0, .bool false]) 4 48 := TyIs.of (by kernel_rfl)
theorem ty231 : TyIs Tryz.prog 231 (.agg #[.slice none 0 0, .int .i64 0]) 2 32 := TyIs.of (by kernel_rfl)
theorem ty237 : TyIs Tryz.prog 237 (.map none) 1 8 := TyIs.of (by kernel_rfl)
theorem ty239 : TyIs Tryz.prog 239 (.agg #[.map none]) 1 8 := TyIs.of (by kernel_rfl)
theorem ty240 : TyIs Tryz.prog 240 (.map none) 1 8 := TyIs.of (by kernel_rfl)
theorem ty242 : TyIs Tryz.prog 242 (.agg #[.map none]) 1 8 := TyIs.of (by kernel_rfl)
theorem ty243 : TyIs Tryz.prog 243 (.map none) 1 8 := TyIs.of (by kernel_rfl)
theorem ty245 : TyIs Tryz.prog 245 (.agg #[.map none]) 1 8 := TyIs.of (by kernel_rfl)
theorem ty252 : TyIs Tryz.prog 252 (.map none) 1 8 := TyIs.of (by kernel_rfl)
theorem ty254 : TyIs Tryz.prog 254 (.agg #[.int .i64 0, .map none]) 2 16 := TyIs.of (by kernel_rfl)
theorem pl26 : placesOk Tryz.prog [{ name := "Version", type := 3, offset := 0, embedded := false, tag := "", pkgPath := "", byteOffset := 0 }, { name := "Counter", type := 3, offset := 1, embedded := false, tag := "", pkgPath := "", byteOffset := 8 }, { name := "Owner", type := 3, offset := 2, embedded := false, tag := "", pkgPath := "", byteOffset := 16 }, { name := "Children", type := 3, offset := 3, embedded := false, tag := "", pkgPath := "", byteOffset := 24 }] [(0, 1), (1, 1), (2, 1), (3, 1)] := ⟨⟨rfl, _, _, ty3⟩, ⟨⟨rfl, _, _, ty3⟩, ⟨⟨rfl, _, _, ty3⟩, ⟨⟨rfl, _, _, ty3⟩, trivial⟩⟩⟩⟩
theorem pl30 : placesOk Tryz.prog [{ name := "Code", type := 22, offset := 0, embedded := false, tag := "", pkgPath := "", byteOffset := 0 }, { name := "Session", type := 3, offset := 1, embedded := false, tag := "", pkgPath := "", byteOffset := 8 }, { name := "Results", type := 23, offset := 2, embedded := false, tag := "", pkgPath := "", byteOffset := 16 }, { name := "Bad", type := 3, offset := 3, embedded := false, tag := "", pkgPath := "", byteOffset := 40 }, { name := "Data", type := 24, offset := 4, embedded := false, tag := "", pkgPath := "", byteOffset := 48 }, { name := "Stat", type := 26, offset := 5, embedded := false, tag := "", pkgPath := "", byteOffset := 72 }, { name := "Names", type := 27, offset := 9, embedded := false, tag := "", pkgPath := "", byteOffset := 104 }, { name := "Events", type := 28, offset := 10, embedded := false, tag := "", pkgPath := "", byteOffset := 128 }, { name := "Epoch", type := 3, offset := 11, embedded := false, tag := "", pkgPath := "", byteOffset := 152 }] [(0, 1), (1, 1), (2, 1), (3, 1), (4, 1), (5, 4), (9, 1), (10, 1), (11, 1)] := ⟨⟨rfl, _, _, ty22⟩, ⟨⟨rfl, _, _, ty3⟩, ⟨⟨rfl, _, _, ty23⟩, ⟨⟨rfl, _, _, ty3⟩, ⟨⟨rfl, _, _, ty24⟩, ⟨⟨rfl, _, _, ty26⟩, ⟨⟨rfl, _, _, ty27⟩, ⟨⟨rfl, _, _, ty28⟩, ⟨⟨rfl, _, _, ty3⟩, trivial⟩⟩⟩⟩⟩⟩⟩⟩⟩
theorem pl39 : placesOk Tryz.prog [{ name := "Code", type := 3, offset := 0, embedded := false, tag := "", pkgPath := "", byteOffset := 0 }, { name := "Session", type := 3, offset := 1, embedded := false, tag := "", pkgPath := "", byteOffset := 8 }, { name := "Results", type := 35, offset := 2, embedded := false, tag := "", pkgPath := "", byteOffset := 16 }, { name := "Bad", type := 3, offset := 3, embedded := false, tag := "", pkgPath := "", byteOffset := 40 }, { name := "Data", type := 24, offset := 4, embedded := false, tag := "", pkgPath := "", byteOffset := 48 }, { name := "Stat", type := 36, offset := 5, embedded := false, tag := "", pkgPath := "", byteOffset := 72 }, { name := "Names", type := 27, offset := 9, embedded := false, tag := "", pkgPath := "", byteOffset := 104 }, { name := "Events", type := 37, offset := 10, embedded := false, tag := "", pkgPath := "", byteOffset := 128 }, { name := "Epoch", type := 3, offset := 11, embedded := false, tag := "", pkgPath := "", byteOffset := 152 }] [(0, 1), (1, 1), (2, 1), (3, 1), (4, 1), (5, 4), (9, 1), (10, 1), (11, 1)] := ⟨⟨rfl, _, _, ty3⟩, ⟨⟨rfl, _, _, ty3⟩, ⟨⟨rfl, _, _, ty35⟩, ⟨⟨rfl, _, _, ty3⟩, ⟨⟨rfl, _, _, ty24⟩, ⟨⟨rfl, _, _, ty36⟩, ⟨⟨rfl, _, _, ty27⟩, ⟨⟨rfl, _, _, ty37⟩, ⟨⟨rfl, _, _, ty3⟩, trivial⟩⟩⟩⟩⟩⟩⟩⟩⟩
theorem pl57 : placesOk Tryz.prog [{ name := "Kind", type := 3, offset := 0, embedded := false, tag := "", pkgPath := "", byteOffset := 0 }, { name := "Home", type := 9, offset := 1, embedded := false, tag := "", pkgPath := "", byteOffset := 8 }, { name := "Session", type := 3, offset := 2, embedded := false, tag := "", pkgPath := "", byteOffset := 24 }, { name := "Req", type := 3, offset := 3, embedded := false, tag := "", pkgPath := "", byteOffset := 32 }, { name := "Nonce", type := 3, offset := 4, embedded := false, tag := "", pkgPath := "", byteOffset := 40 }, { name := "Lease", type := 3, offset := 5, embedded := false, tag := "", pkgPath := "", byteOffset := 48 }, { name := "Beats", type := 3, offset := 6, embedded := false, tag := "", pkgPath := "", byteOffset := 56 }, { name := "Ack", type := 3, offset := 7, embedded := false, tag := "", pkgPath := "", byteOffset := 64 }, { name := "Ops", type := 54, offset := 8, embedded := false, tag := "", pkgPath := "", byteOffset := 72 }, { name := "Path", type := 9, offset := 9, embedded := false, tag := "", pkgPath := "", byteOffset := 96 }, { name := "Watch", type := 4, offset := 10, embedded := false, tag := "", pkgPath := "", byteOffset := 112 }, { name := "Epoch", type := 3, offset := 11, embedded := false, tag := "", pkgPath := "", byteOffset := 120 }, { name := "Members", type := 55, offset := 12, embedded := false, tag := "", pkgPath := "", byteOffset := 128 }] [(0, 1), (1, 1), (2, 1), (3, 1), (4, 1), (5, 1), (6, 1), (7, 1), (8, 1), (9, 1), (10, 1), (11, 1), (12, 1)] := ⟨⟨rfl, _, _, ty3⟩, ⟨⟨rfl, _, _, ty9⟩, ⟨⟨rfl, _, _, ty3⟩, ⟨⟨rfl, _, _, ty3⟩, ⟨⟨rfl, _, _, ty3⟩, ⟨⟨rfl, _, _, ty3⟩, ⟨⟨rfl, _, _, ty3⟩, ⟨⟨rfl, _, _, ty3⟩, ⟨⟨rfl, _, _, ty54⟩, ⟨⟨rfl, _, _, ty9⟩, ⟨⟨rfl, _, _, ty4⟩, ⟨⟨rfl, _, _, ty3⟩, ⟨⟨rfl, _, _, ty55⟩, trivial⟩⟩⟩⟩⟩⟩⟩⟩⟩⟩⟩⟩⟩
theorem pl81 : placesOk Tryz.prog [{ name := "Home", type := 9, offset := 0, embedded := false, tag := "", pkgPath := "", byteOffset := 0 }, { name := "N", type := 3, offset := 1, embedded := false, tag := "", pkgPath := "", byteOffset := 16 }] [(0, 1), (1, 1)] := ⟨⟨rfl, _, _, ty9⟩, ⟨⟨rfl, _, _, ty3⟩, trivial⟩⟩
theorem pl83 : placesOk Tryz.prog [{ name := "Key", type := 81, offset := 0, embedded := true, tag := "", pkgPath := "", byteOffset := 0 }, { name := "Nonce", type := 3, offset := 2, embedded := false, tag := "", pkgPath := "", byteOffset := 24 }, { name := "Lease", type := 3, offset := 3, embedded := false, tag := "", pkgPath := "", byteOffset := 32 }, { name := "Beats", type := 3, offset := 4, embedded := false, tag := "", pkgPath := "", byteOffset := 40 }, { name := "Req", type := 3, offset := 5, embedded := false, tag := "", pkgPath := "", byteOffset := 48 }, { name := "Reply", type := 24, offset := 6, embedded := false, tag := "", pkgPath := "", byteOffset := 56 }] [(0, 2), (2, 1), (3, 1), (4, 1), (5, 1), (6, 1)] := ⟨⟨rfl, _, _, ty81⟩, ⟨⟨rfl, _, _, ty3⟩, ⟨⟨rfl, _, _, ty3⟩, ⟨⟨rfl, _, _, ty3⟩, ⟨⟨rfl, _, _, ty3⟩, ⟨⟨rfl, _, _, ty24⟩, trivial⟩⟩⟩⟩⟩⟩
theorem pl128 : placesOk Tryz.prog [{ name := "Path", type := 9, offset := 0, embedded := false, tag := "", pkgPath := "", byteOffset := 0 }, { name := "Version", type := 3, offset := 1, embedded := false, tag := "", pkgPath := "", byteOffset := 16 }] [(0, 1), (1, 1)] := ⟨⟨rfl, _, _, ty9⟩, ⟨⟨rfl, _, _, ty3⟩, trivial⟩⟩
theorem pl132 : placesOk Tryz.prog [{ name := "N", type := 3, offset := 0, embedded := false, tag := "", pkgPath := "", byteOffset := 0 }, { name := "Kind", type := 3, offset := 1, embedded := false, tag := "", pkgPath := "", byteOffset := 8 }, { name := "Path", type := 9, offset := 2, embedded := false, tag := "", pkgPath := "", byteOffset := 16 }] [(0, 1), (1, 1), (2, 1)] := ⟨⟨rfl, _, _, ty3⟩, ⟨⟨rfl, _, _, ty3⟩, ⟨⟨rfl, _, _, ty9⟩, trivial⟩⟩⟩
theorem pl136 : placesOk Tryz.prog [{ name := "Path", type := 9, offset := 0, embedded := false, tag := "", pkgPath := "", byteOffset := 0 }, { name := "Version", type := 3, offset := 1, embedded := false, tag := "", pkgPath := "", byteOffset := 16 }] [(0, 1), (1, 1)] := ⟨⟨rfl, _, _, ty9⟩, ⟨⟨rfl, _, _, ty3⟩, trivial⟩⟩
theorem pl139 : placesOk Tryz.prog [{ name := "N", type := 3, offset := 0, embedded := false, tag := "", pkgPath := "", byteOffset := 0 }, { name := "Kind", type := 3, offset := 1, embedded := false, tag := "", pkgPath := "", byteOffset := 8 }, { name := "Path", type := 9, offset := 2, embedded := false, tag := "", pkgPath := "", byteOffset := 16 }] [(0, 1), (1, 1), (2, 1)] := ⟨⟨rfl, _, _, ty3⟩, ⟨⟨rfl, _, _, ty3⟩, ⟨⟨rfl, _, _, ty9⟩, trivial⟩⟩⟩
theorem pl147 : placesOk Tryz.prog [{ name := "B", type := 24, offset := 0, embedded := false, tag := "", pkgPath := "", byteOffset := 0 }, { name := "At", type := 3, offset := 1, embedded := false, tag := "", pkgPath := "", byteOffset := 24 }, { name := "Err", type := 3, offset := 2, embedded := false, tag := "", pkgPath := "", byteOffset := 32 }] [(0, 1), (1, 1), (2, 1)] := ⟨⟨rfl, _, _, ty24⟩, ⟨⟨rfl, _, _, ty3⟩, ⟨⟨rfl, _, _, ty3⟩, trivial⟩⟩⟩
theorem pl149 : placesOk Tryz.prog [{ name := "epoch", type := 3, offset := 0, embedded := false, tag := "", pkgPath := "althing/store", byteOffset := 0 }, { name := "members", type := 55, offset := 1, embedded := false, tag := "", pkgPath := "althing/store", byteOffset := 8 }] [(0, 1), (1, 1)] := ⟨⟨rfl, _, _, ty3⟩, ⟨⟨rfl, _, _, ty55⟩, trivial⟩⟩
theorem pl153 : placesOk Tryz.prog [{ name := "quorum", type := 149, offset := 0, embedded := true, tag := "", pkgPath := "althing/store", byteOffset := 0 }, { name := "tree", type := 61, offset := 2, embedded := false, tag := "", pkgPath := "althing/store", byteOffset := 32 }, { name := "table", type := 150, offset := 3, embedded := false, tag := "", pkgPath := "althing/store", byteOffset := 40 }, { name := "hub", type := 151, offset := 4, embedded := false, tag := "", pkgPath := "althing/store", byteOffset := 48 }] [(0, 2), (2, 1), (3, 1), (4, 1)] := ⟨⟨rfl, _, _, ty149⟩, ⟨⟨rfl, _, _, ty61⟩, ⟨⟨rfl, _, _, ty150⟩, ⟨⟨rfl, _, _, ty151⟩, trivial⟩⟩⟩⟩
theorem pl168 : placesOk Tryz.prog [{ name := "Stat", type := 26, offset := 0, embedded := true, tag := "", pkgPath := "", byteOffset := 0 }, { name := "data", type := 24, offset := 4, embedded := false, tag := "", pkgPath := "althing/ztree", byteOffset := 32 }] [(0, 4), (4, 1)] := ⟨⟨rfl, _, _, ty26⟩, ⟨⟨rfl, _, _, ty24⟩, trivial⟩⟩
theorem pl221 : placesOk Tryz.prog [{ name := "buffer", type := 219, offset := 0, embedded := true, tag := "", pkgPath := "althing/wire", byteOffset := 0 }] [(0, 4)] := ⟨⟨rfl, _, _, ty219⟩, trivial⟩
theorem pl231 : placesOk Tryz.prog [{ name := "b", type := 24, offset := 0, embedded := false, tag := "", pkgPath := "althing/wire", byteOffset := 0 }, { name := "err", type := 22, offset := 1, embedded := false, tag := "", pkgPath := "althing/wire", byteOffset := 24 }] [(0, 1), (1, 1)] := ⟨⟨rfl, _, _, ty24⟩, ⟨⟨rfl, _, _, ty22⟩, trivial⟩⟩
theorem pl239 : placesOk Tryz.prog [{ name := "nodes", type := 237, offset := 0, embedded := false, tag := "", pkgPath := "althing/ztree", byteOffset := 0 }] [(0, 1)] := ⟨⟨rfl, _, _, ty237⟩, trivial⟩
theorem pl242 : placesOk Tryz.prog [{ name := "houses", type := 240, offset := 0, embedded := false, tag := "", pkgPath := "althing/session", byteOffset := 0 }] [(0, 1)] := ⟨⟨rfl, _, _, ty240⟩, trivial⟩
theorem pl245 : placesOk Tryz.prog [{ name := "desks", type := 243, offset := 0, embedded := false, tag := "", pkgPath := "althing/watch", byteOffset := 0 }] [(0, 1)] := ⟨⟨rfl, _, _, ty243⟩, trivial⟩
theorem pl254 : placesOk Tryz.prog [{ name := "last", type := 3, offset := 0, embedded := false, tag := "", pkgPath := "althing/session", byteOffset := 0 }, { name := "live", type := 252, offset := 1, embedded := false, tag := "", pkgPath := "althing/session", byteOffset := 8 }] [(0, 1), (1, 1)] := ⟨⟨rfl, _, _, ty3⟩, ⟨⟨rfl, _, _, ty252⟩, trivial⟩⟩
end Go.Proofs.YtomdigihapdhnaaGreatDoor.G

/- What it means to call each function: printed by wip/tools/gen.py. -/
namespace Go.Proofs.YtomdigihapdhnaaGreatDoor.G
open Go Go.Proofs.YtomdigihapdhnaaGreatDoor.SL
set_option linter.unusedVariables false
set_option linter.unusedSimpArgs false

/-- althing/althinglaw17.StoreReplies -/
def c_law17_StoreReplies (B : World) (ro : AH) (a0_0 : Int) (a0_1 : Int) (a0_2 : Sl) (a0_3 : Int) (a0_4 : Sl) (a0_5 : Int) (a0_6 : Int) (a0_7 : Int) (a0_8 : Int) (a0_9 : Sl) (a0_10 : Sl) (a0_11 : Int) (a1 : Sl) (σ : AH) (Q : Bool → AH → Prop) : Prop :=
  ACalls Tryz.prog B ro 3 #[.agg #[.int .i64 a0_0, .int .i64 a0_1, Sl.v a0_2, .int .i64 a0_3, Sl.v a0_4, .int .i64 a0_5, .int .i64 a0_6, .int .i64 a0_7, .int .i64 a0_8, Sl.v a0_9, Sl.v a0_10, .int .i64 a0_11], Sl.v a1] σ fun v σ => ∃ (r0 : Bool), v = .bool r0 ∧ Q r0 σ
/-- althing/store.PutReply -/
def c_store_PutReply (B : World) (ro : AH) (a0_0 : Int) (a0_1 : Int) (a0_2 : Sl) (a0_3 : Int) (a0_4 : Sl) (a0_5 : Int) (a0_6 : Int) (a0_7 : Int) (a0_8 : Int) (a0_9 : Sl) (a0_10 : Sl) (a0_11 : Int) (σ : AH) (Q : Sl → Int → AH → Prop) : Prop :=
  ACalls Tryz.prog B ro 12 #[.agg #[.int .i64 a0_0, .int .i64 a0_1, Sl.v a0_2, .int .i64 a0_3, Sl.v a0_4, .int .i64 a0_5, .int .i64 a0_6, .int .i64 a0_7, .int .i64 a0_8, Sl.v a0_9, Sl.v a0_10, .int .i64 a0_11]] σ fun v σ => ∃ (r0 : Sl) (r1 : Int), v = .tuple #[Sl.v r0, .int .i64 r1] ∧ Q r0 r1 σ
/-- althing/althingref17.PutReply -/
def c_ref17_PutReply (B : World) (ro : AH) (a0_0 : Int) (a0_1 : Int) (a0_2 : Sl) (a0_3 : Int) (a0_4 : Sl) (a0_5 : Int) (a0_6 : Int) (a0_7 : Int) (a0_8 : Int) (a0_9 : Sl) (a0_10 : Sl) (a0_11 : Int) (σ : AH) (Q : Sl → Bool → AH → Prop) : Prop :=
  ACalls Tryz.prog B ro 13 #[.agg #[.int .i64 a0_0, .int .i64 a0_1, Sl.v a0_2, .int .i64 a0_3, Sl.v a0_4, .int .i64 a0_5, .int .i64 a0_6, .int .i64 a0_7, .int .i64 a0_8, Sl.v a0_9, Sl.v a0_10, .int .i64 a0_11]] σ fun v σ => ∃ (r0 : Sl) (r1 : Bool), v = .tuple #[Sl.v r0, .bool r1] ∧ Q r0 r1 σ
/-- althing/althinglaw17.reply -/
def c_law17_reply (B : World) (ro : AH) (a0_0 : Int) (a0_1 : Int) (a0_2 : Sl) (a0_3 : Int) (a0_4 : Sl) (a0_5 : Int) (a0_6 : Int) (a0_7 : Int) (a0_8 : Int) (a0_9 : Sl) (a0_10 : Sl) (a0_11 : Int) (σ : AH) (Q : Int → Int → Sl → Int → Sl → Int → Int → Int → Int → Sl → Sl → Int → AH → Prop) : Prop :=
  ACalls Tryz.prog B ro 14 #[.agg #[.int .i64 a0_0, .int .i64 a0_1, Sl.v a0_2, .int .i64 a0_3, Sl.v a0_4, .int .i64 a0_5, .int .i64 a0_6, .int .i64 a0_7, .int .i64 a0_8, Sl.v a0_9, Sl.v a0_10, .int .i64 a0_11]] σ fun v σ => ∃ (r0_0 : Int) (r0_1 : Int) (r0_2 : Sl) (r0_3 : Int) (r0_4 : Sl) (r0_5 : Int) (r0_6 : Int) (r0_7 : Int) (r0_8 : Int) (r0_9 : Sl) (r0_10 : Sl) (r0_11 : Int), v = .agg #[.int .i64 r0_0, .int .i64 r0_1, Sl.v r0_2, .int .i64 r0_3, Sl.v r0_4, .int .i64 r0_5, .int .i64 r0_6, .int .i64 r0_7, .int .i64 r0_8, Sl.v r0_9, Sl.v r0_10, .int .i64 r0_11] ∧ Q r0_0 r0_1 r0_2 r0_3 r0_4 r0_5 r0_6 r0_7 r0_8 r0_9 r0_10 r0_11 σ
/-- althing/store.GetReply -/
def c_store_GetReply (B : World) (ro : AH) (a0 : Sl) (σ : AH) (Q : Int → Int → Sl → Int → Sl → Int → Int → Int → Int → Sl → Sl → Int → Int → AH → Prop) : Prop :=
  ACalls Tryz.prog B ro 15 #[Sl.v a0] σ fun v σ => ∃ (r0_0 : Int) (r0_1 : Int) (r0_2 : Sl) (r0_3 : Int) (r0_4 : Sl) (r0_5 : Int) (r0_6 : Int) (r0_7 : Int) (r0_8 : Int) (r0_9 : Sl) (r0_10 : Sl) (r0_11 : Int) (r1 : Int), v = .tuple #[.agg #[.int .i64 r0_0, .int .i64 r0_1, Sl.v r0_2, .int .i64 r0_3, Sl.v r0_4, .int .i64 r0_5, .int .i64 r0_6, .int .i64 r0_7, .int .i64 r0_8, Sl.v r0_9, Sl.v r0_10, .int .i64 r0_11], .int .i64 r1] ∧ Q r0_0 r0_1 r0_2 r0_3 r0_4 r0_5 r0_6 r0_7 r0_8 r0_9 r0_10 r0_11 r1 σ
/-- althing/althingref01.Copy -/
def c_ref01_Copy (B : World) (ro : AH) (a0 : Sl) (σ : AH) (Q : Sl → AH → Prop) : Prop :=
  ACalls Tryz.prog B ro 16 #[Sl.v a0] σ fun v σ => ∃ (r0 : Sl), v = Sl.v r0 ∧ Q r0 σ
/-- althing/althingref17.GetReply -/
def c_ref17_GetReply (B : World) (ro : AH) (a0 : Sl) (σ : AH) (Q : Int → Int → Sl → Int → Sl → Int → Int → Int → Int → Sl → Sl → Int → Bool → AH → Prop) : Prop :=
  ACalls Tryz.prog B ro 17 #[Sl.v a0] σ fun v σ => ∃ (r0_0 : Int) (r0_1 : Int) (r0_2 : Sl) (r0_3 : Int) (r0_4 : Sl) (r0_5 : Int) (r0_6 : Int) (r0_7 : Int) (r0_8 : Int) (r0_9 : Sl) (r0_10 : Sl) (r0_11 : Int) (r1 : Bool), v = .tuple #[.agg #[.int .i64 r0_0, .int .i64 r0_1, Sl.v r0_2, .int .i64 r0_3, Sl.v r0_4, .int .i64 r0_5, .int .i64 r0_6, .int .i64 r0_7, .int .i64 r0_8, Sl.v r0_9, Sl.v r0_10, .int .i64 r0_11], .bool r1] ∧ Q r0_0 r0_1 r0_2 r0_3 r0_4 r0_5 r0_6 r0_7 r0_8 r0_9 r0_10 r0_11 r1 σ
/-- althing/althingref01.Same -/
def c_ref01_Same (B : World) (ro : AH) (a0 : Sl) (a1 : Sl) (σ : AH) (Q : Bool → AH → Prop) : Prop :=
  ACalls Tryz.prog B ro 18 #[Sl.v a0, Sl.v a1] σ fun v σ => ∃ (r0 : Bool), v = .bool r0 ∧ Q r0 σ
/-- althing/althingref17.Same -/
def c_ref17_Same (B : World) (ro : AH) (a0_0 : Int) (a0_1 : Int) (a0_2 : Sl) (a0_3 : Int) (a0_4 : Sl) (a0_5 : Int) (a0_6 : Int) (a0_7 : Int) (a0_8 : Int) (a0_9 : Sl) (a0_10 : Sl) (a0_11 : Int) (a1_0 : Int) (a1_1 : Int) (a1_2 : Sl) (a1_3 : Int) (a1_4 : Sl) (a1_5 : Int) (a1_6 : Int) (a1_7 : Int) (a1_8 : Int) (a1_9 : Sl) (a1_10 : Sl) (a1_11 : Int) (σ : AH) (Q : Bool → AH → Prop) : Prop :=
  ACalls Tryz.prog B ro 19 #[.agg #[.int .i64 a0_0, .int .i64 a0_1, Sl.v a0_2, .int .i64 a0_3, Sl.v a0_4, .int .i64 a0_5, .int .i64 a0_6, .int .i64 a0_7, .int .i64 a0_8, Sl.v a0_9, Sl.v a0_10, .int .i64 a0_11], .agg #[.int .i64 a1_0, .int .i64 a1_1, Sl.v a1_2, .int .i64 a1_3, Sl.v a1_4, .int .i64 a1_5, .int .i64 a1_6, .int .i64 a1_7, .int .i64 a1_8, Sl.v a1_9, Sl.v a1_10, .int .i64 a1_11]] σ fun v σ => ∃ (r0 : Bool), v = .bool r0 ∧ Q r0 σ
/-- althing/althinglaw17.awake -/
def c_law17_awake (B : World) (ro : AH) (σ : AH) (Q : Bool → AH → Prop) : Prop :=
  ACalls Tryz.prog B ro 20 #[] σ fun v σ => ∃ (r0 : Bool), v = .bool r0 ∧ Q r0 σ
/-- althing/store.New -/
def c_store_New (B : World) (ro : AH) (a0 : Sl) (σ : AH) (Q : Option Addr → Int → AH → Prop) : Prop :=
  ACalls Tryz.prog B ro 21 #[Sl.v a0] σ fun v σ => ∃ (r0 : Option Addr) (r1 : Int), v = .tuple #[.pointer r0, .int .i64 r1] ∧ Q r0 r1 σ
/-- (*althing/store.Store).Apply -/
def c_store_Store_Apply (B : World) (ro : AH) (a0 : Option Addr) (a1_0 : Int) (a1_1 : ByteArray) (a1_2 : Int) (a1_3 : Int) (a1_4 : Int) (a1_5 : Int) (a1_6 : Int) (a1_7 : Int) (a1_8 : Sl) (a1_9 : ByteArray) (a1_10 : Bool) (a1_11 : Int) (a1_12 : Sl) (σ : AH) (Q : Int → Int → Sl → Int → Sl → Int → Int → Int → Int → Sl → Sl → Int → AH → Prop) : Prop :=
  ACalls Tryz.prog B ro 22 #[.pointer a0, .agg #[.int .i64 a1_0, .string a1_1, .int .i64 a1_2, .int .i64 a1_3, .int .i64 a1_4, .int .i64 a1_5, .int .i64 a1_6, .int .i64 a1_7, Sl.v a1_8, .string a1_9, .bool a1_10, .int .i64 a1_11, Sl.v a1_12]] σ fun v σ => ∃ (r0_0 : Int) (r0_1 : Int) (r0_2 : Sl) (r0_3 : Int) (r0_4 : Sl) (r0_5 : Int) (r0_6 : Int) (r0_7 : Int) (r0_8 : Int) (r0_9 : Sl) (r0_10 : Sl) (r0_11 : Int), v = .agg #[.int .i64 r0_0, .int .i64 r0_1, Sl.v r0_2, .int .i64 r0_3, Sl.v r0_4, .int .i64 r0_5, .int .i64 r0_6, .int .i64 r0_7, .int .i64 r0_8, Sl.v r0_9, Sl.v r0_10, .int .i64 r0_11] ∧ Q r0_0 r0_1 r0_2 r0_3 r0_4 r0_5 r0_6 r0_7 r0_8 r0_9 r0_10 r0_11 σ
/-- (*althing/ztree.Tree).Get -/
def c_ztree_Tree_Get (B : World) (ro : AH) (a0 : Option Addr) (a1 : ByteArray) (σ : AH) (Q : Sl → Int → Int → Int → Int → Int → AH → Prop) : Prop :=
  ACalls Tryz.prog B ro 25 #[.pointer a0, .string a1] σ fun v σ => ∃ (r0 : Sl) (r1_0 : Int) (r1_1 : Int) (r1_2 : Int) (r1_3 : Int) (r2 : Int), v = .tuple #[Sl.v r0, .agg #[.int .i64 r1_0, .int .i64 r1_1, .int .i64 r1_2, .int .i64 r1_3], .int .i64 r2] ∧ Q r0 r1_0 r1_1 r1_2 r1_3 r2 σ
/-- althing/wire.NewWriter -/
def c_wire_NewWriter (B : World) (ro : AH) (σ : AH) (Q : Option Addr → AH → Prop) : Prop :=
  ACalls Tryz.prog B ro 43 #[] σ fun v σ => ∃ (r0 : Option Addr), v = .pointer r0 ∧ Q r0 σ
/-- (*althing/wire.Writer).Nums -/
def c_wire_Writer_Nums (B : World) (ro : AH) (a0 : Option Addr) (a1 : Sl) (σ : AH) (Q : AH → Prop) : Prop :=
  ACalls Tryz.prog B ro 44 #[.pointer a0, Sl.v a1] σ fun v σ => v = .tuple #[] ∧ Q σ
/-- (*althing/wire.Writer).Texts -/
def c_wire_Writer_Texts (B : World) (ro : AH) (a0 : Option Addr) (a1 : Sl) (σ : AH) (Q : AH → Prop) : Prop :=
  ACalls Tryz.prog B ro 45 #[.pointer a0, Sl.v a1] σ fun v σ => v = .tuple #[] ∧ Q σ
/-- (*althing/wire.Writer).Blobs -/
def c_wire_Writer_Blobs (B : World) (ro : AH) (a0 : Option Addr) (a1 : Sl) (σ : AH) (Q : AH → Prop) : Prop :=
  ACalls Tryz.prog B ro 46 #[.pointer a0, Sl.v a1] σ fun v σ => v = .tuple #[] ∧ Q σ
/-- (*althing/wire.Writer).Out -/
def c_wire_Writer_Out (B : World) (ro : AH) (a0 : Option Addr) (σ : AH) (Q : Sl → Int → AH → Prop) : Prop :=
  ACalls Tryz.prog B ro 47 #[.pointer a0] σ fun v σ => ∃ (r0 : Sl) (r1 : Int), v = .tuple #[Sl.v r0, .int .i64 r1] ∧ Q r0 r1 σ
/-- althing/althingref17.bad -/
def c_ref17_bad (B : World) (ro : AH) (a0 : Sl) (σ : AH) (Q : Bool → AH → Prop) : Prop :=
  ACalls Tryz.prog B ro 48 #[Sl.v a0] σ fun v σ => ∃ (r0 : Bool), v = .bool r0 ∧ Q r0 σ
/-- althing/althingref17.nums -/
def c_ref17_nums (B : World) (ro : AH) (a0 : Sl) (σ : AH) (Q : Sl → AH → Prop) : Prop :=
  ACalls Tryz.prog B ro 49 #[Sl.v a0] σ fun v σ => ∃ (r0 : Sl), v = Sl.v r0 ∧ Q r0 σ
/-- althing/althingref01.Join -/
def c_ref01_Join (B : World) (ro : AH) (a0 : Sl) (σ : AH) (Q : Sl → AH → Prop) : Prop :=
  ACalls Tryz.prog B ro 50 #[Sl.v a0] σ fun v σ => ∃ (r0 : Sl), v = Sl.v r0 ∧ Q r0 σ
/-- althing/althingref01.Blob -/
def c_ref01_Blob (B : World) (ro : AH) (a0 : Sl) (σ : AH) (Q : Sl → AH → Prop) : Prop :=
  ACalls Tryz.prog B ro 51 #[Sl.v a0] σ fun v σ => ∃ (r0 : Sl), v = Sl.v r0 ∧ Q r0 σ
/-- althing/althingref01.Put -/
def c_ref01_Put (B : World) (ro : AH) (a0 : Int) (σ : AH) (Q : Sl → AH → Prop) : Prop :=
  ACalls Tryz.prog B ro 52 #[.int .i64 a0] σ fun v σ => ∃ (r0 : Sl), v = Sl.v r0 ∧ Q r0 σ
/-- althing/wire.NewReader -/
def c_wire_NewReader (B : World) (ro : AH) (a0 : Sl) (σ : AH) (Q : Option Addr → AH → Prop) : Prop :=
  ACalls Tryz.prog B ro 53 #[Sl.v a0] σ fun v σ => ∃ (r0 : Option Addr), v = .pointer r0 ∧ Q r0 σ
/-- (*althing/wire.Reader).Num -/
def c_wire_Reader_Num (B : World) (ro : AH) (a0 : Option Addr) (σ : AH) (Q : Int → AH → Prop) : Prop :=
  ACalls Tryz.prog B ro 54 #[.pointer a0] σ fun v σ => ∃ (r0 : Int), v = .int .i64 r0 ∧ Q r0 σ
/-- (*althing/wire.Reader).Text -/
def c_wire_Reader_Text (B : World) (ro : AH) (a0 : Option Addr) (σ : AH) (Q : ByteArray → AH → Prop) : Prop :=
  ACalls Tryz.prog B ro 55 #[.pointer a0] σ fun v σ => ∃ (r0 : ByteArray), v = .string r0 ∧ Q r0 σ
/-- (*althing/wire.Reader).Blob -/
def c_wire_Reader_Blob (B : World) (ro : AH) (a0 : Option Addr) (σ : AH) (Q : Sl → AH → Prop) : Prop :=
  ACalls Tryz.prog B ro 56 #[.pointer a0] σ fun v σ => ∃ (r0 : Sl), v = Sl.v r0 ∧ Q r0 σ
/-- (*althing/wire.Reader).Err -/
def c_wire_Reader_Err (B : World) (ro : AH) (a0 : Option Addr) (σ : AH) (Q : Int → AH → Prop) : Prop :=
  ACalls Tryz.prog B ro 57 #[.pointer a0] σ fun v σ => ∃ (r0 : Int), v = .int .i64 r0 ∧ Q r0 σ
/-- (*althing/wire.Reader).Left -/
def c_wire_Reader_Left (B : World) (ro : AH) (a0 : Option Addr) (σ : AH) (Q : Int → AH → Prop) : Prop :=
  ACalls Tryz.prog B ro 58 #[.pointer a0] σ fun v σ => ∃ (r0 : Int), v = .int .i64 r0 ∧ Q r0 σ
/-- (*althing/althingref01.Reader).Num -/
def c_ref01_Reader_Num (B : World) (ro : AH) (a0 : Option Addr) (σ : AH) (Q : Int → AH → Prop) : Prop :=
  ACalls Tryz.prog B ro 59 #[.pointer a0] σ fun v σ => ∃ (r0 : Int), v = .int .i64 r0 ∧ Q r0 σ
/-- (*althing/althingref01.Reader).Blob -/
def c_ref01_Reader_Blob (B : World) (ro : AH) (a0 : Option Addr) (σ : AH) (Q : Sl → AH → Prop) : Prop :=
  ACalls Tryz.prog B ro 60 #[.pointer a0] σ fun v σ => ∃ (r0 : Sl), v = Sl.v r0 ∧ Q r0 σ
/-- (*althing/althingref01.Reader).Left -/
def c_ref01_Reader_Left (B : World) (ro : AH) (a0 : Option Addr) (σ : AH) (Q : Int → AH → Prop) : Prop :=
  ACalls Tryz.prog B ro 61 #[.pointer a0] σ fun v σ => ∃ (r0 : Int), v = .int .i64 r0 ∧ Q r0 σ
/-- (*althing/store.quorum).Epoch -/
def c_store_quorum_Epoch (B : World) (ro : AH) (a0 : Option Addr) (σ : AH) (Q : Int → AH → Prop) : Prop :=
  ACalls Tryz.prog B ro 62 #[.pointer a0] σ fun v σ => ∃ (r0 : Int), v = .int .i64 r0 ∧ Q r0 σ
/-- (*althing/store.quorum).Members -/
def c_store_quorum_Members (B : World) (ro : AH) (a0 : Option Addr) (σ : AH) (Q : Sl → AH → Prop) : Prop :=
  ACalls Tryz.prog B ro 63 #[.pointer a0] σ fun v σ => ∃ (r0 : Sl), v = Sl.v r0 ∧ Q r0 σ
/-- althing/store.rightMembers -/
def c_store_rightMembers (B : World) (ro : AH) (a0 : Sl) (σ : AH) (Q : Bool → AH → Prop) : Prop :=
  ACalls Tryz.prog B ro 64 #[Sl.v a0] σ fun v σ => ∃ (r0 : Bool), v = .bool r0 ∧ Q r0 σ
/-- slices.Clone[[]int,int] -/
def c_slices_Clone_int_int (B : World) (ro : AH) (a0 : Sl) (σ : AH) (Q : Sl → AH → Prop) : Prop :=
  ACalls Tryz.prog B ro 65 #[Sl.v a0] σ fun v σ => ∃ (r0 : Sl), v = Sl.v r0 ∧ Q r0 σ
/-- althing/ztree.New -/
def c_ztree_New (B : World) (ro : AH) (σ : AH) (Q : Option Addr → AH → Prop) : Prop :=
  ACalls Tryz.prog B ro 66 #[] σ fun v σ => ∃ (r0 : Option Addr), v = .pointer r0 ∧ Q r0 σ
/-- althing/session.New -/
def c_session_New (B : World) (ro : AH) (σ : AH) (Q : Option Addr → AH → Prop) : Prop :=
  ACalls Tryz.prog B ro 67 #[] σ fun v σ => ∃ (r0 : Option Addr), v = .pointer r0 ∧ Q r0 σ
/-- althing/watch.New -/
def c_watch_New (B : World) (ro : AH) (σ : AH) (Q : Option Addr → AH → Prop) : Prop :=
  ACalls Tryz.prog B ro 68 #[] σ fun v σ => ∃ (r0 : Option Addr), v = .pointer r0 ∧ Q r0 σ
/-- (*althing/store.Store).open -/
def c_store_Store_open (B : World) (ro : AH) (a0 : Option Addr) (a1_0 : Int) (a1_1 : ByteArray) (a1_2 : Int) (a1_3 : Int) (a1_4 : Int) (a1_5 : Int) (a1_6 : Int) (a1_7 : Int) (a1_8 : Sl) (a1_9 : ByteArray) (a1_10 : Bool) (a1_11 : Int) (a1_12 : Sl) (σ : AH) (Q : Int → Int → Sl → Int → Sl → Int → Int → Int → Int → Sl → Sl → Int → AH → Prop) : Prop :=
  ACalls Tryz.prog B ro 69 #[.pointer a0, .agg #[.int .i64 a1_0, .string a1_1, .int .i64 a1_2, .int .i64 a1_3, .int .i64 a1_4, .int .i64 a1_5, .int .i64 a1_6, .int .i64 a1_7, Sl.v a1_8, .string a1_9, .bool a1_10, .int .i64 a1_11, Sl.v a1_12]] σ fun v σ => ∃ (r0_0 : Int) (r0_1 : Int) (r0_2 : Sl) (r0_3 : Int) (r0_4 : Sl) (r0_5 : Int) (r0_6 : Int) (r0_7 : Int) (r0_8 : Int) (r0_9 : Sl) (r0_10 : Sl) (r0_11 : Int), v = .agg #[.int .i64 r0_0, .int .i64 r0_1, Sl.v r0_2, .int .i64 r0_3, Sl.v r0_4, .int .i64 r0_5, .int .i64 r0_6, .int .i64 r0_7, .int .i64 r0_8, Sl.v r0_9, Sl.v r0_10, .int .i64 r0_11] ∧ Q r0_0 r0_1 r0_2 r0_3 r0_4 r0_5 r0_6 r0_7 r0_8 r0_9 r0_10 r0_11 σ
/-- (*althing/session.Table).Expire -/
def c_session_Table_Expire (B : World) (ro : AH) (a0 : Option Addr) (a1_0 : ByteArray) (a1_1 : Int) (a2 : Int) (σ : AH) (Q : Bool → AH → Prop) : Prop :=
  ACalls Tryz.prog B ro 70 #[.pointer a0, .agg #[.string a1_0, .int .i64 a1_1], .int .i64 a2] σ fun v σ => ∃ (r0 : Bool), v = .bool r0 ∧ Q r0 σ
/-- (althing/store.Call).key -/
def c_store_Call_key (B : World) (ro : AH) (a0_0 : Int) (a0_1 : ByteArray) (a0_2 : Int) (a0_3 : Int) (a0_4 : Int) (a0_5 : Int) (a0_6 : Int) (a0_7 : Int) (a0_8 : Sl) (a0_9 : ByteArray) (a0_10 : Bool) (a0_11 : Int) (a0_12 : Sl) (σ : AH) (Q : ByteArray → Int → AH → Prop) : Prop :=
  ACalls Tryz.prog B ro 71 #[.agg #[.int .i64 a0_0, .string a0_1, .int .i64 a0_2, .int .i64 a0_3, .int .i64 a0_4, .int .i64 a0_5, .int .i64 a0_6, .int .i64 a0_7, Sl.v a0_8, .string a0_9, .bool a0_10, .int .i64 a0_11, Sl.v a0_12]] σ fun v σ => ∃ (r0_0 : ByteArray) (r0_1 : Int), v = .agg #[.string r0_0, .int .i64 r0_1] ∧ Q r0_0 r0_1 σ
/-- althing/store.fault -/
def c_store_fault (B : World) (ro : AH) (a0 : Int) (σ : AH) (Q : Int → Int → Sl → Int → Sl → Int → Int → Int → Int → Sl → Sl → Int → AH → Prop) : Prop :=
  ACalls Tryz.prog B ro 72 #[.int .i64 a0] σ fun v σ => ∃ (r0_0 : Int) (r0_1 : Int) (r0_2 : Sl) (r0_3 : Int) (r0_4 : Sl) (r0_5 : Int) (r0_6 : Int) (r0_7 : Int) (r0_8 : Int) (r0_9 : Sl) (r0_10 : Sl) (r0_11 : Int), v = .agg #[.int .i64 r0_0, .int .i64 r0_1, Sl.v r0_2, .int .i64 r0_3, Sl.v r0_4, .int .i64 r0_5, .int .i64 r0_6, .int .i64 r0_7, .int .i64 r0_8, Sl.v r0_9, Sl.v r0_10, .int .i64 r0_11] ∧ Q r0_0 r0_1 r0_2 r0_3 r0_4 r0_5 r0_6 r0_7 r0_8 r0_9 r0_10 r0_11 σ
/-- (*althing/store.Store).clean -/
def c_store_Store_clean (B : World) (ro : AH) (a0 : Option Addr) (a1_0 : ByteArray) (a1_1 : Int) (σ : AH) (Q : AH → Prop) : Prop :=
  ACalls Tryz.prog B ro 73 #[.pointer a0, .agg #[.string a1_0, .int .i64 a1_1]] σ fun v σ => v = .tuple #[] ∧ Q σ
/-- (*althing/store.Store).reconf -/
def c_store_Store_reconf (B : World) (ro : AH) (a0 : Option Addr) (a1_0 : Int) (a1_1 : ByteArray) (a1_2 : Int) (a1_3 : Int) (a1_4 : Int) (a1_5 : Int) (a1_6 : Int) (a1_7 : Int) (a1_8 : Sl) (a1_9 : ByteArray) (a1_10 : Bool) (a1_11 : Int) (a1_12 : Sl) (σ : AH) (Q : Int → Int → Sl → Int → Sl → Int → Int → Int → Int → Sl → Sl → Int → AH → Prop) : Prop :=
  ACalls Tryz.prog B ro 74 #[.pointer a0, .agg #[.int .i64 a1_0, .string a1_1, .int .i64 a1_2, .int .i64 a1_3, .int .i64 a1_4, .int .i64 a1_5, .int .i64 a1_6, .int .i64 a1_7, Sl.v a1_8, .string a1_9, .bool a1_10, .int .i64 a1_11, Sl.v a1_12]] σ fun v σ => ∃ (r0_0 : Int) (r0_1 : Int) (r0_2 : Sl) (r0_3 : Int) (r0_4 : Sl) (r0_5 : Int) (r0_6 : Int) (r0_7 : Int) (r0_8 : Int) (r0_9 : Sl) (r0_10 : Sl) (r0_11 : Int), v = .agg #[.int .i64 r0_0, .int .i64 r0_1, Sl.v r0_2, .int .i64 r0_3, Sl.v r0_4, .int .i64 r0_5, .int .i64 r0_6, .int .i64 r0_7, .int .i64 r0_8, Sl.v r0_9, Sl.v r0_10, .int .i64 r0_11] ∧ Q r0_0 r0_1 r0_2 r0_3 r0_4 r0_5 r0_6 r0_7 r0_8 r0_9 r0_10 r0_11 σ
/-- (*althing/store.Store).within -/
def c_store_Store_within (B : World) (ro : AH) (a0 : Option Addr) (a1_0 : Int) (a1_1 : ByteArray) (a1_2 : Int) (a1_3 : Int) (a1_4 : Int) (a1_5 : Int) (a1_6 : Int) (a1_7 : Int) (a1_8 : Sl) (a1_9 : ByteArray) (a1_10 : Bool) (a1_11 : Int) (a1_12 : Sl) (σ : AH) (Q : Int → Int → Sl → Int → Sl → Int → Int → Int → Int → Sl → Sl → Int → AH → Prop) : Prop :=
  ACalls Tryz.prog B ro 75 #[.pointer a0, .agg #[.int .i64 a1_0, .string a1_1, .int .i64 a1_2, .int .i64 a1_3, .int .i64 a1_4, .int .i64 a1_5, .int .i64 a1_6, .int .i64 a1_7, Sl.v a1_8, .string a1_9, .bool a1_10, .int .i64 a1_11, Sl.v a1_12]] σ fun v σ => ∃ (r0_0 : Int) (r0_1 : Int) (r0_2 : Sl) (r0_3 : Int) (r0_4 : Sl) (r0_5 : Int) (r0_6 : Int) (r0_7 : Int) (r0_8 : Int) (r0_9 : Sl) (r0_10 : Sl) (r0_11 : Int), v = .agg #[.int .i64 r0_0, .int .i64 r0_1, Sl.v r0_2, .int .i64 r0_3, Sl.v r0_4, .int .i64 r0_5, .int .i64 r0_6, .int .i64 r0_7, .int .i64 r0_8, Sl.v r0_9, Sl.v r0_10, .int .i64 r0_11] ∧ Q r0_0 r0_1 r0_2 r0_3 r0_4 r0_5 r0_6 r0_7 r0_8 r0_9 r0_10 r0_11 σ
/-- (*althing/ztree.Tree).find -/
def c_ztree_Tree_find (B : World) (ro : AH) (a0 : Option Addr) (a1 : ByteArray) (σ : AH) (Q : Option Addr → Int → AH → Prop) : Prop :=
  ACalls Tryz.prog B ro 79 #[.pointer a0, .string a1] σ fun v σ => ∃ (r0 : Option Addr) (r1 : Int), v = .tuple #[.pointer r0, .int .i64 r1] ∧ Q r0 r1 σ
/-- bytes.Clone -/
def c_bytes_Clone (B : World) (ro : AH) (a0 : Sl) (σ : AH) (Q : Sl → AH → Prop) : Prop :=
  ACalls Tryz.prog B ro 80 #[Sl.v a0] σ fun v σ => ∃ (r0 : Sl), v = Sl.v r0 ∧ Q r0 σ
/-- althing/path.Check -/
def c_path_Check (B : World) (ro : AH) (a0 : ByteArray) (σ : AH) (Q : Int → AH → Prop) : Prop :=
  ACalls Tryz.prog B ro 82 #[.string a0] σ fun v σ => ∃ (r0 : Int), v = .int .i64 r0 ∧ Q r0 σ
/-- althing/path.Name -/
def c_path_Name (B : World) (ro : AH) (a0 : ByteArray) (σ : AH) (Q : Bool → AH → Prop) : Prop :=
  ACalls Tryz.prog B ro 99 #[.string a0] σ fun v σ => ∃ (r0 : Bool), v = .bool r0 ∧ Q r0 σ
/-- (*althing/wire.buffer).num -/
def c_wire_buffer_num (B : World) (ro : AH) (a0 : Option Addr) (a1 : Int) (σ : AH) (Q : AH → Prop) : Prop :=
  ACalls Tryz.prog B ro 114 #[.pointer a0, .int .i64 a1] σ fun v σ => v = .tuple #[] ∧ Q σ
/-- (*bytes.Buffer).WriteString -/
def c_bytes_Buffer_WriteString (B : World) (ro : AH) (a0 : Option Addr) (a1 : ByteArray) (σ : AH) (Q : Int → Value → AH → Prop) : Prop :=
  ACalls Tryz.prog B ro 115 #[.pointer a0, .string a1] σ fun v σ => ∃ (r0 : Int) (r1 : Value), v = .tuple #[.int .i64 r0, r1] ∧ Q r0 r1 σ
/-- (*bytes.Buffer).Write -/
def c_bytes_Buffer_Write (B : World) (ro : AH) (a0 : Option Addr) (a1 : Sl) (σ : AH) (Q : Int → Value → AH → Prop) : Prop :=
  ACalls Tryz.prog B ro 116 #[.pointer a0, Sl.v a1] σ fun v σ => ∃ (r0 : Int) (r1 : Value), v = .tuple #[.int .i64 r0, r1] ∧ Q r0 r1 σ
/-- (*bytes.Buffer).Bytes -/
def c_bytes_Buffer_Bytes (B : World) (ro : AH) (a0 : Option Addr) (σ : AH) (Q : Sl → AH → Prop) : Prop :=
  ACalls Tryz.prog B ro 117 #[.pointer a0] σ fun v σ => ∃ (r0 : Sl), v = Sl.v r0 ∧ Q r0 σ
/-- althing/althingref01.Bad -/
def c_ref01_Bad (B : World) (ro : AH) (a0 : Int) (σ : AH) (Q : Bool → AH → Prop) : Prop :=
  ACalls Tryz.prog B ro 118 #[.int .i64 a0] σ fun v σ => ∃ (r0 : Bool), v = .bool r0 ∧ Q r0 σ
/-- althing/wire.Number -/
def c_wire_Number (B : World) (ro : AH) (a0 : Sl) (a1 : Int) (σ : AH) (Q : Int → Int → Int → AH → Prop) : Prop :=
  ACalls Tryz.prog B ro 119 #[Sl.v a0, .int .i64 a1] σ fun v σ => ∃ (r0 : Int) (r1 : Int) (r2 : Int), v = .tuple #[.int .i64 r0, .int .i64 r1, .int .i64 r2] ∧ Q r0 r1 r2 σ
/-- althing/althingref01.Number -/
def c_ref01_Number (B : World) (ro : AH) (a0 : Sl) (a1 : Int) (σ : AH) (Q : Int → Int → Int → AH → Prop) : Prop :=
  ACalls Tryz.prog B ro 120 #[Sl.v a0, .int .i64 a1] σ fun v σ => ∃ (r0 : Int) (r1 : Int) (r2 : Int), v = .tuple #[.int .i64 r0, .int .i64 r1, .int .i64 r2] ∧ Q r0 r1 r2 σ
/-- (*althing/session.Table).Open -/
def c_session_Table_Open (B : World) (ro : AH) (a0 : Option Addr) (a1 : ByteArray) (a2 : Int) (a3 : Int) (σ : AH) (Q : Int → Bool → Int → AH → Prop) : Prop :=
  ACalls Tryz.prog B ro 121 #[.pointer a0, .string a1, .int .i64 a2, .int .i64 a3] σ fun v σ => ∃ (r0 : Int) (r1 : Bool) (r2 : Int), v = .tuple #[.int .i64 r0, .bool r1, .int .i64 r2] ∧ Q r0 r1 r2 σ
/-- (*althing/ztree.Tree).Create -/
def c_ztree_Tree_Create (B : World) (ro : AH) (a0 : Option Addr) (a1 : ByteArray) (a2 : Sl) (a3 : Int) (a4 : Bool) (σ : AH) (Q : ByteArray → Int → AH → Prop) : Prop :=
  ACalls Tryz.prog B ro 122 #[.pointer a0, .string a1, Sl.v a2, .int .i64 a3, .bool a4] σ fun v σ => ∃ (r0 : ByteArray) (r1 : Int), v = .tuple #[.string r0, .int .i64 r1] ∧ Q r0 r1 σ
/-- althing/path.Parts -/
def c_path_Parts (B : World) (ro : AH) (a0 : ByteArray) (σ : AH) (Q : Sl → Int → AH → Prop) : Prop :=
  ACalls Tryz.prog B ro 134 #[.string a0] σ fun v σ => ∃ (r0 : Sl) (r1 : Int), v = .tuple #[Sl.v r0, .int .i64 r1] ∧ Q r0 r1 σ
/-- strings.HasPrefix -/
def c_strings_HasPrefix (B : World) (ro : AH) (a0 : ByteArray) (a1 : ByteArray) (σ : AH) (Q : Bool → AH → Prop) : Prop :=
  ACalls Tryz.prog B ro 138 #[.string a0, .string a1] σ fun v σ => ∃ (r0 : Bool), v = .bool r0 ∧ Q r0 σ
/-- althing/wire.right -/
def c_wire_right (B : World) (ro : AH) (a0 : Int) (σ : AH) (Q : Bool → AH → Prop) : Prop :=
  ACalls Tryz.prog B ro 174 #[.int .i64 a0] σ fun v σ => ∃ (r0 : Bool), v = .bool r0 ∧ Q r0 σ
/-- althing/wire.put -/
def c_wire_put (B : World) (ro : AH) (a0 : Sl) (a1 : Int) (σ : AH) (Q : Sl → AH → Prop) : Prop :=
  ACalls Tryz.prog B ro 175 #[Sl.v a0, .int .i64 a1] σ fun v σ => ∃ (r0 : Sl), v = Sl.v r0 ∧ Q r0 σ
/-- (*bytes.Buffer).tryGrowByReslice -/
def c_bytes_Buffer_tryGrowByReslice (B : World) (ro : AH) (a0 : Option Addr) (a1 : Int) (σ : AH) (Q : Int → Bool → AH → Prop) : Prop :=
  ACalls Tryz.prog B ro 176 #[.pointer a0, .int .i64 a1] σ fun v σ => ∃ (r0 : Int) (r1 : Bool), v = .tuple #[.int .i64 r0, .bool r1] ∧ Q r0 r1 σ
/-- (*bytes.Buffer).grow -/
def c_bytes_Buffer_grow (B : World) (ro : AH) (a0 : Option Addr) (a1 : Int) (σ : AH) (Q : Int → AH → Prop) : Prop :=
  ACalls Tryz.prog B ro 177 #[.pointer a0, .int .i64 a1] σ fun v σ => ∃ (r0 : Int), v = .int .i64 r0 ∧ Q r0 σ
/-- althing/session.number -/
def c_session_number (B : World) (ro : AH) (a0 : Int) (σ : AH) (Q : Bool → AH → Prop) : Prop :=
  ACalls Tryz.prog B ro 178 #[.int .i64 a0] σ fun v σ => ∃ (r0 : Bool), v = .bool r0 ∧ Q r0 σ
/-- althing/path.Parent -/
def c_path_Parent (B : World) (ro : AH) (a0 : ByteArray) (σ : AH) (Q : ByteArray → Int → AH → Prop) : Prop :=
  ACalls Tryz.prog B ro 179 #[.string a0] σ fun v σ => ∃ (r0 : ByteArray) (r1 : Int), v = .tuple #[.string r0, .int .i64 r1] ∧ Q r0 r1 σ
/-- althing/path.Suffix -/
def c_path_Suffix (B : World) (ro : AH) (a0 : ByteArray) (a1 : Int) (σ : AH) (Q : ByteArray → Int → AH → Prop) : Prop :=
  ACalls Tryz.prog B ro 180 #[.string a0, .int .i64 a1] σ fun v σ => ∃ (r0 : ByteArray) (r1 : Int), v = .tuple #[.string r0, .int .i64 r1] ∧ Q r0 r1 σ
/-- strings.Split -/
def c_strings_Split (B : World) (ro : AH) (a0 : ByteArray) (a1 : ByteArray) (σ : AH) (Q : Sl → AH → Prop) : Prop :=
  ACalls Tryz.prog B ro 193 #[.string a0, .string a1] σ fun v σ => ∃ (r0 : Sl), v = Sl.v r0 ∧ Q r0 σ
/-- internal/stringslite.HasPrefix -/
def c_stringslite_HasPrefix (B : World) (ro : AH) (a0 : ByteArray) (a1 : ByteArray) (σ : AH) (Q : Bool → AH → Prop) : Prop :=
  ACalls Tryz.prog B ro 197 #[.string a0, .string a1] σ fun v σ => ∃ (r0 : Bool), v = .bool r0 ∧ Q r0 σ
/-- (*bytes.Buffer).Len -/
def c_bytes_Buffer_Len (B : World) (ro : AH) (a0 : Option Addr) (σ : AH) (Q : Int → AH → Prop) : Prop :=
  ACalls Tryz.prog B ro 224 #[.pointer a0] σ fun v σ => ∃ (r0 : Int), v = .int .i64 r0 ∧ Q r0 σ
/-- (*bytes.Buffer).Reset -/
def c_bytes_Buffer_Reset (B : World) (ro : AH) (a0 : Option Addr) (σ : AH) (Q : AH → Prop) : Prop :=
  ACalls Tryz.prog B ro 225 #[.pointer a0] σ fun v σ => v = .tuple #[] ∧ Q σ
/-- bytes.growSlice -/
def c_bytes_growSlice (B : World) (ro : AH) (a0 : Sl) (a1 : Int) (σ : AH) (Q : Sl → AH → Prop) : Prop :=
  ACalls Tryz.prog B ro 226 #[Sl.v a0, .int .i64 a1] σ fun v σ => ∃ (r0 : Sl), v = Sl.v r0 ∧ Q r0 σ
/-- strings.LastIndexByte -/
def c_strings_LastIndexByte (B : World) (ro : AH) (a0 : ByteArray) (a1 : Int) (σ : AH) (Q : Int → AH → Prop) : Prop :=
  ACalls Tryz.prog B ro 227 #[.string a0, .int .u8 a1] σ fun v σ => ∃ (r0 : Int), v = .int .i64 r0 ∧ Q r0 σ
/-- strconv.Itoa -/
def c_strconv_Itoa (B : World) (ro : AH) (a0 : Int) (σ : AH) (Q : ByteArray → AH → Prop) : Prop :=
  ACalls Tryz.prog B ro 228 #[.int .i64 a0] σ fun v σ => ∃ (r0 : ByteArray), v = .string r0 ∧ Q r0 σ
/-- strings.Repeat -/
def c_strings_Repeat (B : World) (ro : AH) (a0 : ByteArray) (a1 : Int) (σ : AH) (Q : ByteArray → AH → Prop) : Prop :=
  ACalls Tryz.prog B ro 229 #[.string a0, .int .i64 a1] σ fun v σ => ∃ (r0 : ByteArray), v = .string r0 ∧ Q r0 σ
/-- internal/bytealg.LastIndexByteString -/
def c_bytealg_LastIndexByteString (B : World) (ro : AH) (a0 : ByteArray) (a1 : Int) (σ : AH) (Q : Int → AH → Prop) : Prop :=
  ACalls Tryz.prog B ro 264 #[.string a0, .int .u8 a1] σ fun v σ => ∃ (r0 : Int), v = .int .i64 r0 ∧ Q r0 σ
end Go.Proofs.YtomdigihapdhnaaGreatDoor.G
