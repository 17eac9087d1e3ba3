/- The base: a separation logic over the model: what a run owns (a partial heap), weakest preconditions of the model's operations over it, and the rules for code and calls. Generic over any program. -/
import Derived.Calls
import Derived.Below
import Derived.Scope
import Derived.Orders
namespace Go.Proofs.YthfpmipeejjogaaGreatDoor.SL
open Go

/-! ### 1. What is owned -/
abbrev AH := Nat → Option Obj

structure Own (B : World) (ro φ σ : AH) (w : World) : Prop where
  os : w.os = B.os
  tape : w.tape = B.tape
  output : w.output = B.output
  own : ∀ b o, σ b = some o → w.heap[b]? = some o ∧ φ b = none ∧ ro b = none
  fr : ∀ b o, φ b = some o → w.heap[b]? = some o
  ro : ∀ b o, ro b = some o → w.heap[b]? = some o

def upd (σ : AH) (b : Nat) (o : Obj) : AH := fun i => if i = b then some o else σ i
def rd (ro σ : AH) (b : Nat) : Option Obj := match ro b with | some o => some o | none => σ b
def cellOf (a : Addr) : Option Obj → Option Value
  | some (.cells c _ _) => if a.spot.isSome then none else c[a.off]?
  | _ => none
def acell (ro σ : AH) (a : Addr) : Option Value := cellOf a (rd ro σ a.block)
def shapeOf : Obj → Option (TypeId × Nat)
  | .cells c e _ => some (e, c.size)
  | _ => none
def frozenOf (off : Nat) : Obj → Bool
  | .cells _ _ (lo, hi) => lo ≤ off && off < hi
  | _ => false
def isCells : Obj → Bool
  | .cells .. => true
  | _ => false
def storable : Value → Bool
  | .agg _ => false
  | .tuple _ => false
  | _ => true
def freezeObj (off n : Nat) : Obj → Obj
  | .cells c elem (lo, hi) => .cells c elem (if lo == hi then (off, off + n) else (min lo off, max hi (off + n)))
  | o => o

theorem Own.rd {B : World} {ro φ σ : AH} {w : World} (h : Own B ro φ σ w) {b : Nat} {o : Obj} (hr : rd ro σ b = some o) : w.heap[b]? = some o := by
  unfold SL.rd at hr
  split at hr
  · rename_i x hb; cases hr; exact h.ro b _ hb
  · exact (h.own b o hr).1

theorem cell?_eq (w : World) (a : Addr) : w.cell? a = cellOf a w.heap[a.block]? := by
  unfold World.cell? cellOf; rfl

theorem Own.cell {B : World} {ro φ σ : AH} {w : World} (h : Own B ro φ σ w) {a : Addr} {v : Value} (hr : acell ro σ a = some v) : w.cell? a = some v := by
  unfold acell at hr
  rw [cell?_eq]
  cases hb : SL.rd ro σ a.block with
  | none => rw [hb] at hr; simp [cellOf] at hr
  | some o => rw [h.rd hb, ← hb]; exact hr

theorem lt_of_block {w : World} {b : Nat} {o : Obj} (h : w.heap[b]? = some o) : b < w.heap.size := by
  rcases Nat.lt_or_ge b w.heap.size with h' | h'
  · exact h'
  · rw [Array.getElem?_eq_none h'] at h; cases h
theorem Own.lt {B : World} {ro φ σ : AH} {w : World} (h : Own B ro φ σ w) {b : Nat} {o : Obj} (hs : σ b = some o) : b < w.heap.size := lt_of_block (h.own b o hs).1

/-- What is not wanted any more is let go. -/
theorem Own.drop {B : World} {ro φ σ σ' : AH} {w : World} (h : Own B ro φ σ w) (hs : ∀ b o, σ' b = some o → σ b = some o) : Own B ro φ σ' w :=
  ⟨h.os, h.tape, h.output, fun b o e => h.own b o (hs b o e), h.fr, h.ro⟩

theorem Own.to_new {B : World} {ro φ σ : AH} {w : World} (h : Own B ro φ σ w) : σ w.heap.size = none ∧ φ w.heap.size = none ∧ ro w.heap.size = none := by
  refine ⟨?_, ?_, ?_⟩
  · cases hs : σ w.heap.size with
    | none => rfl
    | some o => have := h.lt hs; omega
  · cases hs : φ w.heap.size with
    | none => rfl
    | some o => have := lt_of_block (h.fr w.heap.size o hs); omega
  · cases hs : ro w.heap.size with
    | none => rfl
    | some o => have := lt_of_block (h.ro w.heap.size o hs); omega

theorem Own.newObj {B : World} {ro φ σ : AH} {w : World} (h : Own B ro φ σ w) (o : Obj) : Own B ro φ (upd σ w.heap.size o) { w with heap := w.heap.push o } := by
  obtain ⟨n1, n2, n3⟩ := h.to_new
  have keep : ∀ (b : Nat) (o' : Obj), w.heap[b]? = some o' → (w.heap.push o)[b]? = some o' := by
    intro b o' hb
    have := lt_of_block hb
    rw [Array.getElem?_push, if_neg (by omega)]; exact hb
  refine ⟨h.os, h.tape, h.output, ?_, fun b o' hs => keep b o' (h.fr b o' hs), fun b o' hs => keep b o' (h.ro b o' hs)⟩
  intro b o' hs
  unfold upd at hs
  split at hs
  · rename_i e; subst e; cases hs
    exact ⟨by simp, n2, n3⟩
  · obtain ⟨h1, h2, h3⟩ := h.own b o' hs
    exact ⟨keep b o' h1, h2, h3⟩

theorem Own.setObj {B : World} {ro φ σ : AH} {w : World} (h : Own B ro φ σ w) {b : Nat} {o : Obj} (o' : Obj) (hs : σ b = some o) {H : Array Obj}
    (hb : H[b]? = some o') (hn : ∀ i, i ≠ b → H[i]? = w.heap[i]?) : Own B ro φ (upd σ b o') { w with heap := H } := by
  obtain ⟨_, h2, h3⟩ := h.own b o hs
  refine ⟨h.os, h.tape, h.output, ?_, ?_, ?_⟩
  · intro i x hx
    unfold upd at hx
    split at hx
    · rename_i e; subst e; cases hx; exact ⟨hb, h2, h3⟩
    · rename_i ne; obtain ⟨g1, g2, g3⟩ := h.own i x hx; exact ⟨by show H[i]? = _; rw [hn i ne]; exact g1, g2, g3⟩
  · intro i x hx
    have : i ≠ b := by intro e; subst e; rw [h2] at hx; cases hx
    show H[i]? = _; rw [hn i this]; exact h.fr i x hx
  · intro i x hx
    have : i ≠ b := by intro e; subst e; rw [h3] at hx; cases hx
    show H[i]? = _; rw [hn i this]; exact h.ro i x hx

theorem Own.drawn {B : World} {ro φ σ : AH} {w : World} (h : Own B ro φ σ w) (n : Nat) : Own B ro φ σ { w with drawn := n } :=
  ⟨h.os, h.tape, h.output, h.own, h.fr, h.ro⟩

/-! ### 2. The weakest precondition of an operation's meaning -/
def awp {α : Type} (P : Program) (ro : AH) : Sem α → (α → AH → Prop) → AH → Prop
  | .pure a, Q, σ => Q a σ
  | .load _ a k, Q, σ => ∃ v, acell ro σ a = some v ∧ awp P ro (k v) Q σ
  | .store _ a v k, Q, σ => storable v = true ∧ a.spot = none ∧ ∃ c e fz, σ a.block = some (.cells c e fz) ∧ a.off < c.size ∧ ¬ (fz.1 ≤ a.off ∧ a.off < fz.2) ∧
      awp P ro k Q (upd σ a.block (.cells (c.setIfInBounds a.off v) e fz))
  | .new o k, Q, σ => ∀ b, ro b = none → σ b = none → awp P ro (k b) Q (upd σ b o)
  | .shape r k, Q, σ => ∃ o, rd ro σ r = some o ∧ awp P ro (k (shapeOf o)) Q σ
  | .freeze a n k, Q, σ => n ≠ 0 ∧ ∃ o, σ a.block = some o ∧ awp P ro k Q (upd σ a.block (freezeObj a.off n o))
  | .frozen a k, Q, σ => ∃ o, rd ro σ a.block = some o ∧ awp P ro (k (frozenOf a.off o)) Q σ
  | .getObj r k, Q, σ => ∃ o, rd ro σ r = some o ∧ isCells o = false ∧ awp P ro (k o) Q σ
  | .setObj r o k, Q, σ => ∃ o', σ r = some o' ∧ isCells o' = false ∧ awp P ro k Q (upd σ r o)
  | .choose q k, Q, σ => if q.forced then awp P ro (k 0) Q σ else ∀ n, awp P ro (k (q.cut n)) Q σ
  | .sys _ _, _, _ => False
  | .program k, Q, σ => awp P ro (k P) Q σ
  | .mark _ k, Q, σ => awp P ro k Q σ
  | .halt _, _, _ => False

theorem awp_sound {α : Type} {P : Program} {B : World} {ro φ : AH} (s : Sem α) : ∀ {Q : α → AH → Prop} {σ : AH} {w : World}, awp P ro s Q σ → Own B ro φ σ w →
    ∃ a w' σ', s.run P w = .ok a w' ∧ Q a σ' ∧ Own B ro φ σ' w' := by
  induction s with
  | pure a => intro Q σ w h ho; exact ⟨a, w, σ, rfl, h, ho⟩
  | load m a k ih =>
    intro Q σ w h ho
    obtain ⟨v, hc, h⟩ := h
    obtain ⟨x, w', σ', h1, h2, h3⟩ := ih v h ho
    exact ⟨x, w', σ', by simp only [Sem.run, ho.cell hc]; exact h1, h2, h3⟩
  | store m a v k ih =>
    intro Q σ w h ho
    obtain ⟨hv, hsp, c, e, fz, hs, hoff, hfz, h⟩ := h
    have hb := (ho.own _ _ hs).1
    have hcell : ∃ x, w.cell? a = some x := by
      rw [cell?_eq, hb]; simp [cellOf, hsp, hoff]
    obtain ⟨x, hx⟩ := hcell
    have hfr : w.frozen? a = false := by
      unfold World.frozen?; rw [hb]; obtain ⟨f1, f2⟩ := fz
      simp only [Bool.and_eq_false_iff, decide_eq_false_iff_not] at *
      simp only [not_and] at hfz
      by_cases h1 : f1 ≤ a.off
      · exact .inr (hfz h1)
      · exact .inl h1
    have hlt := ho.lt hs
    have ho' : Own B ro φ (upd σ a.block (.cells (c.setIfInBounds a.off v) e fz)) (w.setCell a v) := by
      unfold World.setCell
      refine ho.setObj _ hs ?_ ?_
      · rw [Array.getElem?_modify, if_pos rfl, hb]; simp [hsp]
      · intro i hi; rw [Array.getElem?_modify, if_neg (by omega)]
    obtain ⟨y, w', σ', h1, h2, h3⟩ := ih h ho'
    refine ⟨y, w', σ', ?_, h2, h3⟩
    cases v <;> simp only [storable] at hv <;> first | (simp only [Sem.run, hx, hfr]; exact h1) | cases hv
  | new o k ih =>
    intro Q σ w h ho
    obtain ⟨y, w', σ', h1, h2, h3⟩ := ih w.heap.size (h _ ho.to_new.2.2 ho.to_new.1) (ho.newObj o)
    exact ⟨y, w', σ', h1, h2, h3⟩
  | shape r k ih =>
    intro Q σ w h ho
    obtain ⟨o, hr, h⟩ := h
    obtain ⟨y, w', σ', h1, h2, h3⟩ := ih _ h ho
    refine ⟨y, w', σ', ?_, h2, h3⟩
    have : w.shape? r = shapeOf o := by unfold World.shape?; rw [ho.rd hr]; cases o <;> rfl
    simp only [Sem.run, this]; exact h1
  | freeze a n k ih =>
    intro Q σ w h ho
    obtain ⟨hn, o, hs, h⟩ := h
    have hb := (ho.own _ _ hs).1
    have ho' : Own B ro φ (upd σ a.block (freezeObj a.off n o)) (w.freeze a n) := by
      unfold World.freeze; rw [if_neg hn]
      refine ho.setObj _ hs ?_ ?_
      · rw [Array.getElem?_modify, if_pos rfl, hb]; simp only [Option.map_some]; cases o <;> rfl
      · intro i hi; rw [Array.getElem?_modify, if_neg (by omega)]
    obtain ⟨y, w', σ', h1, h2, h3⟩ := ih h ho'
    exact ⟨y, w', σ', h1, h2, h3⟩
  | frozen a k ih =>
    intro Q σ w h ho
    obtain ⟨o, hr, h⟩ := h
    obtain ⟨y, w', σ', h1, h2, h3⟩ := ih _ h ho
    refine ⟨y, w', σ', ?_, h2, h3⟩
    have : w.frozen? a = frozenOf a.off o := by unfold World.frozen?; rw [ho.rd hr]; cases o <;> rfl
    simp only [Sem.run, this]; exact h1
  | getObj r k ih =>
    intro Q σ w h ho
    obtain ⟨o, hr, hi, h⟩ := h
    obtain ⟨y, w', σ', h1, h2, h3⟩ := ih _ h ho
    refine ⟨y, w', σ', ?_, h2, h3⟩
    have hb := ho.rd hr
    cases o <;> first | (simp only [Sem.run, hb]; exact h1) | cases hi
  | setObj r o k ih =>
    intro Q σ w h ho
    obtain ⟨o', hs, hi, h⟩ := h
    have hb := (ho.own _ _ hs).1
    have hlt := ho.lt hs
    have ho' : Own B ro φ (upd σ r o) { w with heap := w.heap.setIfInBounds r o } := by
      refine ho.setObj _ hs ?_ ?_
      · simp [hlt]
      · intro i hi; rw [Array.getElem?_setIfInBounds, if_neg (by omega)]
    obtain ⟨y, w', σ', h1, h2, h3⟩ := ih h ho'
    refine ⟨y, w', σ', ?_, h2, h3⟩
    cases o' <;> first | (simp only [Sem.run, hb]; exact h1) | cases hi
  | choose q k ih =>
    intro Q σ w h ho
    simp only [awp] at h
    by_cases hq : q.forced = true
    · rw [if_pos hq] at h
      obtain ⟨y, w', σ', h1, h2, h3⟩ := ih _ h ho
      exact ⟨y, w', σ', by simp only [Sem.run, hq, if_true]; exact h1, h2, h3⟩
    · rw [if_neg hq] at h
      obtain ⟨y, w', σ', h1, h2, h3⟩ := ih _ (h (w.tape w.drawn q)) (ho.drawn (w.drawn + 1))
      exact ⟨y, w', σ', by simp only [Sem.run]; rw [if_neg hq]; exact h1, h2, h3⟩
  | sys c k ih => intro Q σ w h; exact h.elim
  | program k ih =>
    intro Q σ w h ho
    obtain ⟨y, w', σ', h1, h2, h3⟩ := ih _ h ho
    exact ⟨y, w', σ', h1, h2, h3⟩
  | mark m k ih =>
    intro Q σ w h ho
    obtain ⟨y, w', σ', h1, h2, h3⟩ := ih h ho
    exact ⟨y, w', σ', h1, h2, h3⟩
  | halt e => intro Q σ w h; exact h.elim

theorem awp_mono {α : Type} {P : Program} {ro : AH} (s : Sem α) : ∀ {Q Q' : α → AH → Prop} {σ : AH}, awp P ro s Q σ → (∀ a σ, Q a σ → Q' a σ) → awp P ro s Q' σ := by
  induction s with
  | pure a => intro Q Q' σ h hq; exact hq _ _ h
  | load m a k ih => intro Q Q' σ h hq; obtain ⟨v, hc, h⟩ := h; exact ⟨v, hc, ih v h hq⟩
  | store m a v k ih => intro Q Q' σ h hq; obtain ⟨hv, hsp, c, e, fz, hs, hoff, hfz, h⟩ := h; exact ⟨hv, hsp, c, e, fz, hs, hoff, hfz, ih h hq⟩
  | new o k ih => intro Q Q' σ h hq b hb hs; exact ih b (h b hb hs) hq
  | shape r k ih => intro Q Q' σ h hq; obtain ⟨o, hr, h⟩ := h; exact ⟨o, hr, ih _ h hq⟩
  | freeze a n k ih => intro Q Q' σ h hq; obtain ⟨hn, o, hr, h⟩ := h; exact ⟨hn, o, hr, ih h hq⟩
  | frozen a k ih => intro Q Q' σ h hq; obtain ⟨o, hr, h⟩ := h; exact ⟨o, hr, ih _ h hq⟩
  | getObj r k ih => intro Q Q' σ h hq; obtain ⟨o, hr, hi, h⟩ := h; exact ⟨o, hr, hi, ih _ h hq⟩
  | setObj r o k ih => intro Q Q' σ h hq; obtain ⟨o', hr, hi, h⟩ := h; exact ⟨o', hr, hi, ih h hq⟩
  | choose q k ih =>
    intro Q Q' σ h hq
    simp only [awp] at h ⊢
    split
    · rename_i e; rw [if_pos e] at h; exact ih _ h hq
    · rename_i e; rw [if_neg e] at h; intro n; exact ih _ (h n) hq
  | sys c k ih => intro Q Q' σ h; exact h.elim
  | program k ih => intro Q Q' σ h hq; exact ih _ h hq
  | mark m k ih => intro Q Q' σ h hq; exact ih h hq
  | halt e => intro Q Q' σ h; exact h.elim

theorem awp_bind {α β : Type} {P : Program} {ro : AH} (s : Sem α) (f : α → Sem β) : ∀ {Q : β → AH → Prop} {σ : AH}, awp P ro (s >>= f) Q σ ↔ awp P ro s (fun a σ => awp P ro (f a) Q σ) σ := by
  show ∀ {Q : β → AH → Prop} {σ : AH}, awp P ro (s.bind f) Q σ ↔ _
  induction s with
  | pure a => intro Q σ; rfl
  | load m a k ih => intro Q σ; simp only [Sem.bind, awp, ih]
  | store m a v k ih => intro Q σ; simp only [Sem.bind, awp, ih]
  | new o k ih => intro Q σ; simp only [Sem.bind, awp, ih]
  | shape r k ih => intro Q σ; simp only [Sem.bind, awp, ih]
  | freeze a n k ih => intro Q σ; simp only [Sem.bind, awp, ih]
  | frozen a k ih => intro Q σ; simp only [Sem.bind, awp, ih]
  | getObj r k ih => intro Q σ; simp only [Sem.bind, awp, ih]
  | setObj r o k ih => intro Q σ; simp only [Sem.bind, awp, ih]
  | choose q k ih => intro Q σ; simp only [Sem.bind, awp, ih]
  | sys c k ih => intro Q σ; simp only [Sem.bind, awp]
  | program k ih => intro Q σ; simp only [Sem.bind, awp, ih]
  | mark m k ih => intro Q σ; simp only [Sem.bind, awp, ih]
  | halt e => intro Q σ; simp only [Sem.bind, awp]
end Go.Proofs.YthfpmipeejjogaaGreatDoor.SL
