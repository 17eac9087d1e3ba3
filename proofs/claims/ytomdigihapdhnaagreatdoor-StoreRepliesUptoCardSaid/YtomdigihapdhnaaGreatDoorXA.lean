/- Base, Base2, Base3, Base4 -/
import Derived.Calls
import Derived.Below
import Derived.Scope
import Derived.Orders
import Derived.Sort.Walk0
/- The base: a separation logic over the model: what a run owns (a partial heap), weakest preconditions of the model's operations over it, and the rules for code and calls. Generic over any program. -/
namespace Go.Proofs.YtomdigihapdhnaaGreatDoor.SL
open Go

/-! ### 1. What is owned -/
abbrev AH := Nat → Option Obj

structure Own (B : World) (ro φ σ : AH) (w : World) : Prop where
  os : w.os = B.os
  tape : w.tape = B.tape
  output : w.output = B.output
  own : ∀ b o, σ b = some o → w.heap[b]? = some o ∧ φ b = none ∧ ro b = none
  fr : ∀ b o, φ b = some o → w.heap[b]? = some o
  ro : ∀ b o, ro b = some o → w.heap[b]? = some o

def upd (σ : AH) (b : Nat) (o : Obj) : AH := fun i => if i = b then some o else σ i
def rd (ro σ : AH) (b : Nat) : Option Obj := match ro b with | some o => some o | none => σ b
def cellOf (a : Addr) : Option Obj → Option Value
  | some (.cells c _ _) => if a.spot.isSome then none else c[a.off]?
  | _ => none
def acell (ro σ : AH) (a : Addr) : Option Value := cellOf a (rd ro σ a.block)
def shapeOf : Obj → Option (TypeId × Nat)
  | .cells c e _ => some (e, c.size)
  | _ => none
def frozenOf (off : Nat) : Obj → Bool
  | .cells _ _ (lo, hi) => lo ≤ off && off < hi
  | _ => false
def isCells : Obj → Bool
  | .cells .. => true
  | _ => false
def storable : Value → Bool
  | .agg _ => false
  | .tuple _ => false
  | _ => true
def freezeObj (off n : Nat) : Obj → Obj
  | .cells c elem (lo, hi) => .cells c elem (if lo == hi then (off, off + n) else (min lo off, max hi (off + n)))
  | o => o

theorem Own.rd {B : World} {ro φ σ : AH} {w : World} (h : Own B ro φ σ w) {b : Nat} {o : Obj} (hr : rd ro σ b = some o) : w.heap[b]? = some o := by
  unfold SL.rd at hr
  split at hr
  · rename_i x hb; cases hr; exact h.ro b _ hb
  · exact (h.own b o hr).1

theorem cell?_eq (w : World) (a : Addr) : w.cell? a = cellOf a w.heap[a.block]? := by
  unfold World.cell? cellOf; rfl

theorem Own.cell {B : World} {ro φ σ : AH} {w : World} (h : Own B ro φ σ w) {a : Addr} {v : Value} (hr : acell ro σ a = some v) : w.cell? a = some v := by
  unfold acell at hr
  rw [cell?_eq]
  cases hb : SL.rd ro σ a.block with
  | none => rw [hb] at hr; simp [cellOf] at hr
  | some o => rw [h.rd hb, ← hb]; exact hr

theorem lt_of_block {w : World} {b : Nat} {o : Obj} (h : w.heap[b]? = some o) : b < w.heap.size := by
  rcases Nat.lt_or_ge b w.heap.size with h' | h'
  · exact h'
  · rw [Array.getElem?_eq_none h'] at h; cases h
theorem Own.lt {B : World} {ro φ σ : AH} {w : World} (h : Own B ro φ σ w) {b : Nat} {o : Obj} (hs : σ b = some o) : b < w.heap.size := lt_of_block (h.own b o hs).1

/-- What is not wanted any more is let go. -/
theorem Own.drop {B : World} {ro φ σ σ' : AH} {w : World} (h : Own B ro φ σ w) (hs : ∀ b o, σ' b = some o → σ b = some o) : Own B ro φ σ' w :=
  ⟨h.os, h.tape, h.output, fun b o e => h.own b o (hs b o e), h.fr, h.ro⟩

theorem Own.to_new {B : World} {ro φ σ : AH} {w : World} (h : Own B ro φ σ w) : σ w.heap.size = none ∧ φ w.heap.size = none ∧ ro w.heap.size = none := by
  refine ⟨?_, ?_, ?_⟩
  · cases hs : σ w.heap.size with
    | none => rfl
    | some o => have := h.lt hs; omega
  · cases hs : φ w.heap.size with
    | none => rfl
    | some o => have := lt_of_block (h.fr w.heap.size o hs); omega
  · cases hs : ro w.heap.size with
    | none => rfl
    | some o => have := lt_of_block (h.ro w.heap.size o hs); omega

theorem Own.newObj {B : World} {ro φ σ : AH} {w : World} (h : Own B ro φ σ w) (o : Obj) : Own B ro φ (upd σ w.heap.size o) { w with heap := w.heap.push o } := by
  obtain ⟨n1, n2, n3⟩ := h.to_new
  have keep : ∀ (b : Nat) (o' : Obj), w.heap[b]? = some o' → (w.heap.push o)[b]? = some o' := by
    intro b o' hb
    have := lt_of_block hb
    rw [Array.getElem?_push, if_neg (by omega)]; exact hb
  refine ⟨h.os, h.tape, h.output, ?_, fun b o' hs => keep b o' (h.fr b o' hs), fun b o' hs => keep b o' (h.ro b o' hs)⟩
  intro b o' hs
  unfold upd at hs
  split at hs
  · rename_i e; subst e; cases hs
    exact ⟨by simp, n2, n3⟩
  · obtain ⟨h1, h2, h3⟩ := h.own b o' hs
    exact ⟨keep b o' h1, h2, h3⟩

theorem Own.setObj {B : World} {ro φ σ : AH} {w : World} (h : Own B ro φ σ w) {b : Nat} {o : Obj} (o' : Obj) (hs : σ b = some o) {H : Array Obj}
    (hb : H[b]? = some o') (hn : ∀ i, i ≠ b → H[i]? = w.heap[i]?) : Own B ro φ (upd σ b o') { w with heap := H } := by
  obtain ⟨_, h2, h3⟩ := h.own b o hs
  refine ⟨h.os, h.tape, h.output, ?_, ?_, ?_⟩
  · intro i x hx
    unfold upd at hx
    split at hx
    · rename_i e; subst e; cases hx; exact ⟨hb, h2, h3⟩
    · rename_i ne; obtain ⟨g1, g2, g3⟩ := h.own i x hx; exact ⟨by show H[i]? = _; rw [hn i ne]; exact g1, g2, g3⟩
  · intro i x hx
    have : i ≠ b := by intro e; subst e; rw [h2] at hx; cases hx
    show H[i]? = _; rw [hn i this]; exact h.fr i x hx
  · intro i x hx
    have : i ≠ b := by intro e; subst e; rw [h3] at hx; cases hx
    show H[i]? = _; rw [hn i this]; exact h.ro i x hx

theorem Own.drawn {B : World} {ro φ σ : AH} {w : World} (h : Own B ro φ σ w) (n : Nat) : Own B ro φ σ { w with drawn := n } :=
  ⟨h.os, h.tape, h.output, h.own, h.fr, h.ro⟩

/-! ### 2. The weakest precondition of an operation's meaning -/
def awp {α : Type} (P : Program) (ro : AH) : Sem α → (α → AH → Prop) → AH → Prop
  | .pure a, Q, σ => Q a σ
  | .load _ a k, Q, σ => ∃ v, acell ro σ a = some v ∧ awp P ro (k v) Q σ
  | .store _ a v k, Q, σ => storable v = true ∧ a.spot = none ∧ ∃ c e fz, σ a.block = some (.cells c e fz) ∧ a.off < c.size ∧ ¬ (fz.1 ≤ a.off ∧ a.off < fz.2) ∧
      awp P ro k Q (upd σ a.block (.cells (c.setIfInBounds a.off v) e fz))
  | .new o k, Q, σ => ∀ b, ro b = none → σ b = none → awp P ro (k b) Q (upd σ b o)
  | .shape r k, Q, σ => ∃ o, rd ro σ r = some o ∧ awp P ro (k (shapeOf o)) Q σ
  | .freeze a n k, Q, σ => n ≠ 0 ∧ ∃ o, σ a.block = some o ∧ awp P ro k Q (upd σ a.block (freezeObj a.off n o))
  | .frozen a k, Q, σ => ∃ o, rd ro σ a.block = some o ∧ awp P ro (k (frozenOf a.off o)) Q σ
  | .getObj r k, Q, σ => ∃ o, rd ro σ r = some o ∧ isCells o = false ∧ awp P ro (k o) Q σ
  | .setObj r o k, Q, σ => ∃ o', σ r = some o' ∧ isCells o' = false ∧ awp P ro k Q (upd σ r o)
  | .choose q k, Q, σ => if q.forced then awp P ro (k 0) Q σ else ∀ n, awp P ro (k (q.cut n)) Q σ
  | .sys _ _, _, _ => False
  | .program k, Q, σ => awp P ro (k P) Q σ
  | .mark _ k, Q, σ => awp P ro k Q σ
  | .halt _, _, _ => False

theorem awp_sound {α : Type} {P : Program} {B : World} {ro φ : AH} (s : Sem α) : ∀ {Q : α → AH → Prop} {σ : AH} {w : World}, awp P ro s Q σ → Own B ro φ σ w →
    ∃ a w' σ', s.run P w = .ok a w' ∧ Q a σ' ∧ Own B ro φ σ' w' := by
  induction s with
  | pure a => intro Q σ w h ho; exact ⟨a, w, σ, rfl, h, ho⟩
  | load m a k ih =>
    intro Q σ w h ho
    obtain ⟨v, hc, h⟩ := h
    obtain ⟨x, w', σ', h1, h2, h3⟩ := ih v h ho
    exact ⟨x, w', σ', by simp only [Sem.run, ho.cell hc]; exact h1, h2, h3⟩
  | store m a v k ih =>
    intro Q σ w h ho
    obtain ⟨hv, hsp, c, e, fz, hs, hoff, hfz, h⟩ := h
    have hb := (ho.own _ _ hs).1
    have hcell : ∃ x, w.cell? a = some x := by
      rw [cell?_eq, hb]; simp [cellOf, hsp, hoff]
    obtain ⟨x, hx⟩ := hcell
    have hfr : w.frozen? a = false := by
      unfold World.frozen?; rw [hb]; obtain ⟨f1, f2⟩ := fz
      simp only [Bool.and_eq_false_iff, decide_eq_false_iff_not] at *
      simp only [not_and] at hfz
      by_cases h1 : f1 ≤ a.off
      · exact .inr (hfz h1)
      · exact .inl h1
    have hlt := ho.lt hs
    have ho' : Own B ro φ (upd σ a.block (.cells (c.setIfInBounds a.off v) e fz)) (w.setCell a v) := by
      unfold World.setCell
      refine ho.setObj _ hs ?_ ?_
      · rw [Array.getElem?_modify, if_pos rfl, hb]; simp [hsp]
      · intro i hi; rw [Array.getElem?_modify, if_neg (by omega)]
    obtain ⟨y, w', σ', h1, h2, h3⟩ := ih h ho'
    refine ⟨y, w', σ', ?_, h2, h3⟩
    cases v <;> simp only [storable] at hv <;> first | (simp only [Sem.run, hx, hfr]; exact h1) | cases hv
  | new o k ih =>
    intro Q σ w h ho
    obtain ⟨y, w', σ', h1, h2, h3⟩ := ih w.heap.size (h _ ho.to_new.2.2 ho.to_new.1) (ho.newObj o)
    exact ⟨y, w', σ', h1, h2, h3⟩
  | shape r k ih =>
    intro Q σ w h ho
    obtain ⟨o, hr, h⟩ := h
    obtain ⟨y, w', σ', h1, h2, h3⟩ := ih _ h ho
    refine ⟨y, w', σ', ?_, h2, h3⟩
    have : w.shape? r = shapeOf o := by unfold World.shape?; rw [ho.rd hr]; cases o <;> rfl
    simp only [Sem.run, this]; exact h1
  | freeze a n k ih =>
    intro Q σ w h ho
    obtain ⟨hn, o, hs, h⟩ := h
    have hb := (ho.own _ _ hs).1
    have ho' : Own B ro φ (upd σ a.block (freezeObj a.off n o)) (w.freeze a n) := by
      unfold World.freeze; rw [if_neg hn]
      refine ho.setObj _ hs ?_ ?_
      · rw [Array.getElem?_modify, if_pos rfl, hb]; simp only [Option.map_some]; cases o <;> rfl
      · intro i hi; rw [Array.getElem?_modify, if_neg (by omega)]
    obtain ⟨y, w', σ', h1, h2, h3⟩ := ih h ho'
    exact ⟨y, w', σ', h1, h2, h3⟩
  | frozen a k ih =>
    intro Q σ w h ho
    obtain ⟨o, hr, h⟩ := h
    obtain ⟨y, w', σ', h1, h2, h3⟩ := ih _ h ho
    refine ⟨y, w', σ', ?_, h2, h3⟩
    have : w.frozen? a = frozenOf a.off o := by unfold World.frozen?; rw [ho.rd hr]; cases o <;> rfl
    simp only [Sem.run, this]; exact h1
  | getObj r k ih =>
    intro Q σ w h ho
    obtain ⟨o, hr, hi, h⟩ := h
    obtain ⟨y, w', σ', h1, h2, h3⟩ := ih _ h ho
    refine ⟨y, w', σ', ?_, h2, h3⟩
    have hb := ho.rd hr
    cases o <;> first | (simp only [Sem.run, hb]; exact h1) | cases hi
  | setObj r o k ih =>
    intro Q σ w h ho
    obtain ⟨o', hs, hi, h⟩ := h
    have hb := (ho.own _ _ hs).1
    have hlt := ho.lt hs
    have ho' : Own B ro φ (upd σ r o) { w with heap := w.heap.setIfInBounds r o } := by
      refine ho.setObj _ hs ?_ ?_
      · simp [hlt]
      · intro i hi; rw [Array.getElem?_setIfInBounds, if_neg (by omega)]
    obtain ⟨y, w', σ', h1, h2, h3⟩ := ih h ho'
    refine ⟨y, w', σ', ?_, h2, h3⟩
    cases o' <;> first | (simp only [Sem.run, hb]; exact h1) | cases hi
  | choose q k ih =>
    intro Q σ w h ho
    simp only [awp] at h
    by_cases hq : q.forced = true
    · rw [if_pos hq] at h
      obtain ⟨y, w', σ', h1, h2, h3⟩ := ih _ h ho
      exact ⟨y, w', σ', by simp only [Sem.run, hq, if_true]; exact h1, h2, h3⟩
    · rw [if_neg hq] at h
      obtain ⟨y, w', σ', h1, h2, h3⟩ := ih _ (h (w.tape w.drawn q)) (ho.drawn (w.drawn + 1))
      exact ⟨y, w', σ', by simp only [Sem.run]; rw [if_neg hq]; exact h1, h2, h3⟩
  | sys c k ih => intro Q σ w h; exact h.elim
  | program k ih =>
    intro Q σ w h ho
    obtain ⟨y, w', σ', h1, h2, h3⟩ := ih _ h ho
    exact ⟨y, w', σ', h1, h2, h3⟩
  | mark m k ih =>
    intro Q σ w h ho
    obtain ⟨y, w', σ', h1, h2, h3⟩ := ih h ho
    exact ⟨y, w', σ', h1, h2, h3⟩
  | halt e => intro Q σ w h; exact h.elim

theorem awp_mono {α : Type} {P : Program} {ro : AH} (s : Sem α) : ∀ {Q Q' : α → AH → Prop} {σ : AH}, awp P ro s Q σ → (∀ a σ, Q a σ → Q' a σ) → awp P ro s Q' σ := by
  induction s with
  | pure a => intro Q Q' σ h hq; exact hq _ _ h
  | load m a k ih => intro Q Q' σ h hq; obtain ⟨v, hc, h⟩ := h; exact ⟨v, hc, ih v h hq⟩
  | store m a v k ih => intro Q Q' σ h hq; obtain ⟨hv, hsp, c, e, fz, hs, hoff, hfz, h⟩ := h; exact ⟨hv, hsp, c, e, fz, hs, hoff, hfz, ih h hq⟩
  | new o k ih => intro Q Q' σ h hq b hb hs; exact ih b (h b hb hs) hq
  | shape r k ih => intro Q Q' σ h hq; obtain ⟨o, hr, h⟩ := h; exact ⟨o, hr, ih _ h hq⟩
  | freeze a n k ih => intro Q Q' σ h hq; obtain ⟨hn, o, hr, h⟩ := h; exact ⟨hn, o, hr, ih h hq⟩
  | frozen a k ih => intro Q Q' σ h hq; obtain ⟨o, hr, h⟩ := h; exact ⟨o, hr, ih _ h hq⟩
  | getObj r k ih => intro Q Q' σ h hq; obtain ⟨o, hr, hi, h⟩ := h; exact ⟨o, hr, hi, ih _ h hq⟩
  | setObj r o k ih => intro Q Q' σ h hq; obtain ⟨o', hr, hi, h⟩ := h; exact ⟨o', hr, hi, ih h hq⟩
  | choose q k ih =>
    intro Q Q' σ h hq
    simp only [awp] at h ⊢
    split
    · rename_i e; rw [if_pos e] at h; exact ih _ h hq
    · rename_i e; rw [if_neg e] at h; intro n; exact ih _ (h n) hq
  | sys c k ih => intro Q Q' σ h; exact h.elim
  | program k ih => intro Q Q' σ h hq; exact ih _ h hq
  | mark m k ih => intro Q Q' σ h hq; exact ih h hq
  | halt e => intro Q Q' σ h; exact h.elim

theorem awp_bind {α β : Type} {P : Program} {ro : AH} (s : Sem α) (f : α → Sem β) : ∀ {Q : β → AH → Prop} {σ : AH}, awp P ro (s >>= f) Q σ ↔ awp P ro s (fun a σ => awp P ro (f a) Q σ) σ := by
  show ∀ {Q : β → AH → Prop} {σ : AH}, awp P ro (s.bind f) Q σ ↔ _
  induction s with
  | pure a => intro Q σ; rfl
  | load m a k ih => intro Q σ; simp only [Sem.bind, awp, ih]
  | store m a v k ih => intro Q σ; simp only [Sem.bind, awp, ih]
  | new o k ih => intro Q σ; simp only [Sem.bind, awp, ih]
  | shape r k ih => intro Q σ; simp only [Sem.bind, awp, ih]
  | freeze a n k ih => intro Q σ; simp only [Sem.bind, awp, ih]
  | frozen a k ih => intro Q σ; simp only [Sem.bind, awp, ih]
  | getObj r k ih => intro Q σ; simp only [Sem.bind, awp, ih]
  | setObj r o k ih => intro Q σ; simp only [Sem.bind, awp, ih]
  | choose q k ih => intro Q σ; simp only [Sem.bind, awp, ih]
  | sys c k ih => intro Q σ; simp only [Sem.bind, awp]
  | program k ih => intro Q σ; simp only [Sem.bind, awp, ih]
  | mark m k ih => intro Q σ; simp only [Sem.bind, awp, ih]
  | halt e => intro Q σ; simp only [Sem.bind, awp]
end Go.Proofs.YtomdigihapdhnaaGreatDoor.SL

/- The base, second part: frames, operations, code, calls. Generic over any program. -/
namespace Go.Proofs.YtomdigihapdhnaaGreatDoor.SL
open Go

/-! ### 3. Frames -/
abbrev Fr := List (Nat × Value)
def look : Fr → Nat → Option Value
  | [], _ => none
  | (j, v) :: r, i => bif Nat.beq i j then some v else look r i
structure Fits (N : Nat) (fr : Fr) (a : Act) : Prop where
  size : a.tmps.size = N
  defers : a.defers = []
  has : ∀ i v, look fr i = some v → a.tmps[i]? = some v
def evalF (fr : Fr) : Operand → Option Value
  | .tmp t => look fr t
  | .const v => some v
  | .global g => some (.pointer (some ⟨g, 0, none⟩))
  | .func f => some (.func (.func f) #[] #[])
def putF (d : Option Tmp) (v : Value) (fr : Fr) : Fr :=
  match d with
  | some d => (d, v) :: fr
  | none => fr
def dstOk (N : Nat) : Option Tmp → Bool
  | some d => d < N
  | none => true
def Agrees (ρ : Operand → Value) (fr : Fr) : Prop := ∀ x v, evalF fr x = some v → ρ x = v

theorem Fits.agrees {N : Nat} {fr : Fr} {a : Act} (h : Fits N fr a) : Agrees a.eval fr := by
  intro x v hx
  cases x with
  | tmp t => have := h.has t v hx; simp [Act.eval, Array.getD_eq_getD_getElem?, this]
  | const c => simpa [evalF, Act.eval] using hx
  | global g => simpa [evalF, Act.eval] using hx
  | func f => simpa [evalF, Act.eval] using hx
theorem Fits.put {N : Nat} {fr : Fr} {a : Act} (h : Fits N fr a) {d : Option Tmp} (hd : dstOk N d = true) (v : Value) : Fits N (putF d v fr) (a.put d v) := by
  cases d with
  | none => exact h
  | some d =>
    have hd' : d < a.tmps.size := by simpa [dstOk, h.size] using hd
    refine ⟨by simp [Act.put, h.size], by simp [Act.put, h.defers], ?_⟩
    intro i u hi
    simp only [putF, look] at hi
    simp only [Act.put]
    cases hb : Nat.beq i d with
    | true =>
      rw [hb] at hi
      have := Nat.eq_of_beq_eq_true hb
      subst this
      simp at hi; subst hi
      simp [hd']
    | false =>
      rw [hb] at hi
      have hne : i ≠ d := by intro e; subst e; simp at hb
      have := h.has i u hi
      rw [Array.getElem?_setIfInBounds, if_neg (by omega)]; exact this
def FrLe (fr fr' : Fr) : Prop := ∀ i v, look fr i = some v → look fr' i = some v
theorem Fits.weaken {N : Nat} {fr fr' : Fr} {a : Act} (h : Fits N fr' a) (hl : FrLe fr fr') : Fits N fr a := ⟨h.size, h.defers, fun i v e => h.has i v (hl i v e)⟩
theorem FrLe.nil (fr : Fr) : FrLe [] fr := fun _ _ h => by simp [look] at h
theorem FrLe.cons {fr fr' : Fr} {i : Nat} {v : Value} (h : look fr' i = some v) (hl : FrLe fr fr') : FrLe ((i, v) :: fr) fr' := by
  intro j u hj
  simp only [look] at hj
  cases hb : Nat.beq j i with
  | true => rw [hb] at hj; have := Nat.eq_of_beq_eq_true hb; subst this; simp at hj; subst hj; exact h
  | false => rw [hb] at hj; exact hl j u hj
theorem FrLe.refl (fr : Fr) : FrLe fr fr := fun _ _ h => h
def HLe (σ σ' : AH) : Prop := ∀ b o, σ b = some o → σ' b = some o
theorem HLe.refl (σ : AH) : HLe σ σ := fun _ _ h => h

/-! ### 4. Calls -/
def ACalls (P : Program) (B : World) (ro : AH) (f : FuncId) (args : Array Value) (σ : AH) (Q : Value → AH → Prop) : Prop :=
  ∀ φ w, Own B ro φ σ w → Calls P f args w fun e w' => ∃ v σ', e = .returned v ∧ Q v σ' ∧ Own B ro φ σ' w'
theorem ACalls.mono {P : Program} {B : World} {ro : AH} {f : FuncId} {args : Array Value} {σ : AH} {Q Q' : Value → AH → Prop} (h : ACalls P B ro f args σ Q) (hq : ∀ v σ, Q v σ → Q' v σ) : ACalls P B ro f args σ Q' :=
  fun φ w ho => (h φ w ho).mono fun _ _ ⟨v, σ', e, q, o⟩ => ⟨v, σ', e, hq _ _ q, o⟩
/-- What the call leaves may be let go. -/
theorem ACalls.drop {P : Program} {B : World} {ro : AH} {f : FuncId} {args : Array Value} {σ : AH} {Q Q' : Value → AH → Prop} (h : ACalls P B ro f args σ Q) (hq : ∀ v σ, Q v σ → ∃ σ', HLe σ' σ ∧ Q' v σ') : ACalls P B ro f args σ Q' :=
  fun φ w ho => (h φ w ho).mono fun _ _ ⟨v, _, e, q, o⟩ => let ⟨σ'', hl, q'⟩ := hq _ _ q; ⟨v, σ'', e, q', o.drop hl⟩
theorem ACalls.weaken {P : Program} {B : World} {ro : AH} {f : FuncId} {args : Array Value} {σ σ' : AH} {Q : Value → AH → Prop} (h : ACalls P B ro f args σ Q) (hl : HLe σ σ') : ACalls P B ro f args σ' Q :=
  fun φ w ho => h φ w (ho.drop hl)

/-! the frame rule -/
def Disj (σ ψ : AH) : Prop := ∀ b o, σ b = some o → ψ b = none
def join (σ ψ : AH) : AH := fun b => match σ b with | some o => some o | none => ψ b
theorem join_some {σ ψ : AH} {b : Nat} {o : Obj} (h : join σ ψ b = some o) : σ b = some o ∨ (σ b = none ∧ ψ b = some o) := by
  unfold join at h
  cases e : σ b with
  | some x => rw [e] at h; exact .inl h
  | none => rw [e] at h; exact .inr ⟨rfl, h⟩
theorem join_none {σ ψ : AH} {b : Nat} (h : join σ ψ b = none) : σ b = none ∧ ψ b = none := by
  unfold join at h
  cases e : σ b with
  | some x => rw [e] at h; cases h
  | none => rw [e] at h; exact ⟨rfl, h⟩
theorem join_left {σ ψ : AH} {b : Nat} {o : Obj} (h : σ b = some o) : join σ ψ b = some o := by simp [join, h]
theorem join_right {σ ψ : AH} {b : Nat} {o : Obj} (hd : Disj σ ψ) (h : ψ b = some o) : join σ ψ b = some o := by
  unfold join
  cases e : σ b with
  | some x => have := hd b x e; rw [this] at h; cases h
  | none => exact h
theorem Disj.symm {σ ψ : AH} (hd : Disj σ ψ) : Disj ψ σ := by
  intro b o hs
  cases e : σ b with
  | none => rfl
  | some x => have := hd b x e; rw [this] at hs; cases hs
theorem Own.frame_in {B : World} {ro φ σ ψ : AH} {w : World} (h : Own B ro φ (join σ ψ) w) (hd : Disj σ ψ) : Own B ro (join φ ψ) σ w := by
  refine ⟨h.os, h.tape, h.output, ?_, ?_, h.ro⟩
  · intro b o hs
    have := h.own b o (join_left hs)
    exact ⟨this.1, by simp [join, this.2.1, hd b o hs], this.2.2⟩
  · intro b o hs
    rcases join_some hs with h1 | ⟨h1, h2⟩
    · exact h.fr b _ h1
    · exact (h.own b o (join_right hd h2)).1
theorem Own.frame_out {B : World} {ro φ σ ψ : AH} {w : World} (h : Own B ro (join φ ψ) σ w) (hd : Disj φ ψ) (hr : Disj ψ ro) : Own B ro φ (join σ ψ) w ∧ Disj σ ψ := by
  have hd2 : Disj σ ψ := fun b o hs => (join_none (h.own b o hs).2.1).2
  refine ⟨⟨h.os, h.tape, h.output, ?_, fun b o hs => h.fr b o (join_left hs), h.ro⟩, hd2⟩
  intro b o hs
  rcases join_some hs with h1 | ⟨h1, h2⟩
  · have := h.own b _ h1
    exact ⟨this.1, (join_none this.2.1).1, this.2.2⟩
  · exact ⟨h.fr b o (join_right hd h2), hd.symm b o h2, hr b o h2⟩
theorem Own.frame_disj {B : World} {ro φ σ ψ : AH} {w : World} (ho : Own B ro φ (join σ ψ) w) (hd : Disj σ ψ) : Disj φ ψ ∧ Disj ψ ro :=
  ⟨Disj.symm fun b o hs => (ho.own b o (join_right hd hs)).2.1, fun b o hs => (ho.own b o (join_right hd hs)).2.2⟩
theorem ACalls.frame {P : Program} {B : World} {ro : AH} {f : FuncId} {args : Array Value} {σ ψ : AH} {Q : Value → AH → Prop} (h : ACalls P B ro f args σ Q) (hd : Disj σ ψ) :
    ACalls P B ro f args (join σ ψ) fun v σ' => ∃ τ, σ' = join τ ψ ∧ Disj τ ψ ∧ Q v τ := by
  intro φ w ho
  obtain ⟨hfp, hpr⟩ := ho.frame_disj hd
  refine (h _ w (ho.frame_in hd)).mono ?_
  rintro e w' ⟨v, σ', he, hq, ho'⟩
  obtain ⟨h1, h2⟩ := ho'.frame_out hfp hpr
  exact ⟨v, _, he, ⟨σ', rfl, h2, hq⟩, h1⟩

/-! what is owned may be lent to be read -/
theorem Own.lend {B : World} {ro φ σ ψ : AH} {w : World} (h : Own B ro φ (join ψ σ) w) (hd : Disj ψ σ) : Own B (join ro ψ) φ σ w := by
  refine ⟨h.os, h.tape, h.output, ?_, h.fr, ?_⟩
  · intro b o hs
    have := h.own b o (join_right hd hs)
    exact ⟨this.1, this.2.1, by simp [join, this.2.2, hd.symm b o hs]⟩
  · intro b o hs
    rcases join_some hs with h1 | ⟨_, h2⟩
    · exact h.ro b o h1
    · exact (h.own b o (join_left h2)).1
theorem Own.unlend {B : World} {ro φ σ ψ : AH} {w : World} (h : Own B (join ro ψ) φ σ w) (hp : ∀ b o, ψ b = some o → φ b = none ∧ ro b = none) : Own B ro φ (join ψ σ) w ∧ Disj ψ σ := by
  have hd : Disj ψ σ := Disj.symm fun b o hs => (join_none (h.own b o hs).2.2).2
  refine ⟨⟨h.os, h.tape, h.output, ?_, h.fr, fun b o hs => h.ro b o (join_left hs)⟩, hd⟩
  intro b o hs
  rcases join_some hs with h1 | ⟨_, h2⟩
  · have := hp b o h1
    exact ⟨h.ro b o (by simp [join, this.2, h1]), this⟩
  · have := h.own b o h2
    exact ⟨this.1, this.2.1, (join_none this.2.2).1⟩
theorem ACalls.lend {P : Program} {B : World} {ro : AH} {f : FuncId} {args : Array Value} {σ ψ : AH} {Q : Value → AH → Prop} (h : ACalls P B (join ro ψ) f args σ Q) (hd : Disj ψ σ) :
    ACalls P B ro f args (join ψ σ) fun v σ' => ∃ τ, σ' = join ψ τ ∧ Disj ψ τ ∧ Q v τ := by
  intro φ w ho
  have hp : ∀ b o, ψ b = some o → φ b = none ∧ ro b = none := fun b o hs => (ho.own b o (join_left hs)).2
  refine (h φ w (ho.lend hd)).mono ?_
  rintro e w' ⟨v, σ', he, hq, ho'⟩
  obtain ⟨h1, h2⟩ := ho'.unlend hp
  exact ⟨v, _, he, ⟨σ', rfl, h2, hq⟩, h1⟩

/-! ### 5. Operations of a region -/
def nextQ (P : Program) (B : World) (ro : AH) (dst : Option Tmp) (fr : Fr) (K : Fr → AH → Prop) : Next → AH → Prop
  | .value v, σ => K (putF dst v fr) σ
  | .skip, σ => K (putF dst undef fr) σ
  | .enter f args, σ => ACalls P B ro f args σ fun v σ' => K (putF dst v fr) σ'
  | _, _ => False
def AExec (P : Program) (B : World) (ro : AH) (o : Oper) (K : Fr → AH → Prop) (fr : Fr) (σ : AH) : Prop :=
  ∀ ρ, Agrees ρ fr → awp P ro (execOp ρ o) (nextQ P B ro o.dst fr K) σ
def AStep (P : Program) (B : World) (ro : AH) (N : Nat) (ops : Array Oper) (o : Oper) (K : Fr → AH → Prop) (fr : Fr) (σ : AH) : Prop :=
  dstOk N o.dst = true ∧ match o.guard with
    | none => AExec P B ro o K fr σ
    | some (j, want) => ∃ t v, (ops[j]?).bind (·.dst) = some t ∧ look fr t = some v ∧ ((v = .bool want ∧ AExec P B ro o K fr σ) ∨ (v ≠ .bool want ∧ K (putF o.dst undef fr) σ))
def AOps (P : Program) (B : World) (ro : AH) (N : Nat) (ops : Array Oper) (K : Fr → AH → Prop) : List Nat → Fr → AH → Prop
  | [], fr, σ => K fr σ
  | i :: rest, fr, σ => match ops[i]? with
    | none => AOps P B ro N ops K rest fr σ
    | some o => AStep P B ro N ops o (AOps P B ro N ops K rest) fr σ

def lift (B : World) (ro : AH) (N : Nat) (φ : AH) (Q : Exit → Fr → AH → Prop) (e : Exit) (a : Act) (w : World) : Prop := ∃ fr σ, Q e fr σ ∧ Own B ro φ σ w ∧ Fits N fr a

theorem AExec.sound {P : Program} {B : World} {ro : AH} {N : Nat} {o : Oper} {K : Fr → AH → Prop} {fr : Fr} {σ φ : AH} {a : Act} {w : World} {next : Act → World → Prop} {Q : Exit → Act → World → Prop}
    (h : AExec P B ro o K fr σ) (hd : dstOk N o.dst = true) (ho : Own B ro φ σ w) (hf : Fits N fr a)
    (hk : ∀ fr σ a w, K fr σ → Own B ro φ σ w → Fits N fr a → next a w) : o.wp P a w next Q := by
  obtain ⟨x, w', σ', hr, hq, ho'⟩ := awp_sound _ (h _ hf.agrees) ho
  unfold Oper.wp
  rw [hr]
  cases x with
  | value v => exact hk _ _ _ _ hq ho' (hf.put hd v)
  | skip => exact hk _ _ _ _ hq ho' (hf.put hd undef)
  | enter f args =>
    show Calls P f args w' _
    refine (hq φ w' ho').mono ?_
    rintro e w2 ⟨v, σ2, rfl, hq2, ho2⟩
    exact hk _ _ _ _ hq2 ho2 (hf.put hd v)
  | _ => exact hq.elim

theorem yielded_eq {N : Nat} {fr : Fr} {a : Act} (hf : Fits N fr a) {ops : Array Oper} {j t : Nat} {v : Value} (ht : (ops[j]?).bind (·.dst) = some t) (hl : look fr t = some v) :
    yielded ops a.tmps j = match v with | .bool b => some b | _ => none := by
  unfold yielded
  rw [ht]
  simp only [Option.bind_some, hf.has t v hl]
  cases v <;> rfl

theorem AOps.sound {P : Program} {B : World} {ro : AH} {N : Nat} {ops : Array Oper} {Q : Exit → Fr → AH → Prop} {φ : AH} (l : List Nat) : ∀ {fr : Fr} {σ : AH} {a : Act} {w : World},
    AOps P B ro N ops (Q .normal) l fr σ → Own B ro φ σ w → Fits N fr a → wpOps P ops (lift B ro N φ Q) l a w := by
  induction l with
  | nil => intro fr σ a w h ho hf; exact ⟨fr, σ, h, ho, hf⟩
  | cons i rest ih =>
    intro fr σ a w h ho hf
    simp only [AOps] at h
    simp only [wpOps]
    cases hi : ops[i]? with
    | none => rw [hi] at h; exact ih h ho hf
    | some o =>
      rw [hi] at h
      obtain ⟨hd, h⟩ := h
      dsimp only
      cases hg : o.guard with
      | none =>
        rw [hg] at h
        have hw : Region.wanted o (yielded ops a.tmps) = true := by simp [Region.wanted, hg]
        rw [if_pos hw]
        exact .inl (AExec.sound h hd ho hf fun fr σ a w hk ho hf => ih hk ho hf)
      | some g =>
        obtain ⟨j, want⟩ := g
        rw [hg] at h
        obtain ⟨t, v, ht, hl, h⟩ := h
        have hy := yielded_eq hf ht hl
        rcases h with ⟨rfl, h⟩ | ⟨hv, h⟩
        · have hw : Region.wanted o (yielded ops a.tmps) = true := by simp [Region.wanted, hg, hy]
          rw [if_pos hw]
          exact .inl (AExec.sound h hd ho hf fun fr σ a w hk ho hf => ih hk ho hf)
        · have hw : ¬ Region.wanted o (yielded ops a.tmps) = true := by
            simp only [Region.wanted, hg, hy]
            cases v <;> simp
            rename_i b; intro e; subst e; exact hv rfl
          rw [if_neg hw]
          exact ih h ho (hf.put hd undef)

/-! ### 6. Code -/
def AW (P : Program) (B : World) (ro : AH) (N : Nat) (c : Code) (Q : Exit → Fr → AH → Prop) (fr : Fr) (σ : AH) : Prop :=
  ∀ φ w a, Own B ro φ σ w → Fits N fr a → c.wp P (lift B ro N φ Q) a w
def thenQ (next : Fr → AH → Prop) (Q : Exit → Fr → AH → Prop) : Exit → Fr → AH → Prop
  | .normal, fr, σ => next fr σ
  | e, fr, σ => Q e fr σ
def blockQ (id : Nat) (Q : Exit → Fr → AH → Prop) : Exit → Fr → AH → Prop
  | .exit id', fr, σ => if id' = id then Q .normal fr σ else Q (.exit id') fr σ
  | e, fr, σ => Q e fr σ
section
variable {P : Program} {B : World} {ro : AH} {N : Nat} {Q : Exit → Fr → AH → Prop} {fr : Fr} {σ : AH}
theorem AW.weaken {c : Code} {fr' : Fr} {σ' : AH} (h : AW P B ro N c Q fr' σ') (hf : FrLe fr' fr) (hl : HLe σ' σ) : AW P B ro N c Q fr σ :=
  fun φ w a ho ha => h φ w a (ho.drop hl) (ha.weaken hf)
theorem AW.skip (h : Q .normal fr σ) : AW P B ro N .skip Q fr σ := fun _ _ _ ho hf => wp_skip ⟨fr, σ, h, ho, hf⟩
theorem AW.ret (h : Q .ret fr σ) : AW P B ro N .ret Q fr σ := fun _ _ _ ho hf => wp_ret ⟨fr, σ, h, ho, hf⟩
theorem AW.exit {id : Nat} (h : Q (.exit id) fr σ) : AW P B ro N (.exit id) Q fr σ := fun _ _ _ ho hf => wp_exit ⟨fr, σ, h, ho, hf⟩
theorem AW.seq {x y : Code} (h : AW P B ro N x (thenQ (AW P B ro N y Q) Q) fr σ) : AW P B ro N (.seq x y) Q fr σ := by
  intro φ w a ho hf
  refine wp_seq (wp_mono (h φ w a ho hf) ?_)
  rintro e a' w' ⟨fr', σ', hq, ho', hf'⟩
  cases e with
  | normal => exact hq φ w' a' ho' hf'
  | _ => exact ⟨fr', σ', hq, ho', hf'⟩
theorem AW.cond {c : Operand} {x y : Code} {b : Bool} (hc : evalF fr c = some (.bool b)) (ht : b = true → AW P B ro N x Q fr σ) (hn : b = false → AW P B ro N y Q fr σ) : AW P B ro N (.cond c x y) Q fr σ :=
  fun φ w a ho hf => wp_cond_split (hf.agrees _ _ hc) (fun e => ht e φ w a ho hf) (fun e => hn e φ w a ho hf)
theorem AW.block {id : Nat} {c : Code} (h : AW P B ro N c (blockQ id Q) fr σ) : AW P B ro N (.block id c) Q fr σ := by
  intro φ w a ho hf
  refine wp_block (wp_mono (h φ w a ho hf) ?_)
  rintro e a' w' ⟨fr', σ', hq, ho', hf'⟩
  cases e with
  | exit id' =>
    simp only [blockQ] at hq
    simp only [Exit.inBlock]
    split
    · rename_i e; rw [if_pos e] at hq; exact ⟨fr', σ', hq, ho', hf'⟩
    · rename_i e; rw [if_neg e] at hq; exact ⟨fr', σ', hq, ho', hf'⟩
  | _ => exact ⟨fr', σ', hq, ho', hf'⟩
theorem AW.region {id : Nat} {ops : Array Oper} (h : AOps P B ro N ops (Q .normal) (List.range ops.size) fr σ) : AW P B ro N (.region id ops false) Q fr σ :=
  fun _ _ _ ho hf => wp_region (AOps.sound _ h ho hf)
end

/-! a loop: at its head behind the first round -/
def headWp (P : Program) (c : Code) (Q : Exit → Act → World → Prop) (a : Act) (w : World) : Prop :=
  ∀ (b : Frame) (k : List Item) (cs : List Frame), ∃ e a' w', Q e a' w' ∧ Arrives P (lone (b.at a (.inLoop c :: k)) cs w) b k cs e a' w'
theorem rounds_from {P : Program} {c : Code} {Q : Exit → Act → World → Prop} {a : Act} {w : World} (h : c.wp P (Exit.then (headWp P c Q) Q) a w) (b : Frame) (k : List Item) (cs : List Frame) :
    ∃ e a' w', Q e a' w' ∧ Arrives P (lone (b.at a (.code c :: .inLoop c :: k)) cs w) b k cs e a' w' := by
  obtain ⟨e, a₁, w₁, hq, harr⟩ := h b (.inLoop c :: k) cs
  cases e with
  | normal =>
    obtain ⟨e₂, a₂, w₂, hq₂, harr₂⟩ := hq b k cs
    exact ⟨e₂, a₂, w₂, hq₂, .of_steps harr harr₂⟩
  | exit id => exact ⟨_, a₁, w₁, hq, .pass (x := .inLoop c) rfl (fun _ _ => .inl (by simp)) harr⟩
  | goto l => exact ⟨_, a₁, w₁, hq, .pass (x := .inLoop c) rfl (fun _ _ => .inl (by simp)) harr⟩
  | ret => exact ⟨_, a₁, w₁, hq, .pass (x := .inLoop c) rfl (fun _ _ => .inl (by simp)) harr⟩
  | panic ch => exact ⟨_, a₁, w₁, hq, .pass (x := .inLoop c) rfl (fun _ _ => .inl (by simp)) harr⟩
  | outgrown => exact ⟨_, a₁, w₁, hq, .pass (x := .inLoop c) rfl (fun _ _ => .inl (by simp)) harr⟩
theorem headWp_of {P : Program} {c : Code} {Q : Exit → Act → World → Prop} {a : Act} {w : World} (h : c.wp P (Exit.then (headWp P c Q) Q) a w) : headWp P c Q a w := by
  intro b k cs
  obtain ⟨e, a', w', hq, harr⟩ := rounds_from h b k cs
  exact ⟨e, a', w', hq, .of_steps (.one step_inLoop) harr⟩
theorem loopWp_of {P : Program} {c : Code} {Q : Exit → Act → World → Prop} {a : Act} {w : World} (h : c.wp P (Exit.then (headWp P c Q) Q) a w) : (Code.loop c).wp P Q a w := by
  intro b k cs
  obtain ⟨e, a', w', hq, harr⟩ := rounds_from h b k cs
  exact ⟨e, a', w', hq, .of_steps (.one step_loop) harr⟩
def AHead (P : Program) (B : World) (ro : AH) (N : Nat) (c : Code) (Q : Exit → Fr → AH → Prop) (fr : Fr) (σ : AH) : Prop :=
  ∀ φ w a, Own B ro φ σ w → Fits N fr a → headWp P c (lift B ro N φ Q) a w
/-- A round, and all that follow it. -/
def ARound (P : Program) (B : World) (ro : AH) (N : Nat) (c : Code) (Q : Exit → Fr → AH → Prop) (fr : Fr) (σ : AH) : Prop := AW P B ro N c (thenQ (AHead P B ro N c Q) Q) fr σ
section
variable {P : Program} {B : World} {ro : AH} {N : Nat} {Q : Exit → Fr → AH → Prop} {fr : Fr} {σ : AH}
theorem ARound.wp {c : Code} (h : ARound P B ro N c Q fr σ) {φ : AH} {w : World} {a : Act} (ho : Own B ro φ σ w) (hf : Fits N fr a) : c.wp P (Exit.then (headWp P c (lift B ro N φ Q)) (lift B ro N φ Q)) a w := by
  refine wp_mono (h φ w a ho hf) ?_
  rintro e a' w' ⟨fr', σ', hq, ho', hf'⟩
  cases e with
  | normal => exact hq φ w' a' ho' hf'
  | _ => exact ⟨fr', σ', hq, ho', hf'⟩
theorem ARound.head {c : Code} {fr' : Fr} (h : ARound P B ro N c Q fr' σ) (hl : FrLe fr' fr) : AHead P B ro N c Q fr σ :=
  fun _ _ _ ho hf => headWp_of (h.wp ho (hf.weaken hl))
theorem ARound.loop {c : Code} {fr' : Fr} (h : ARound P B ro N c Q fr' σ) (hl : FrLe fr' fr) : AW P B ro N (.loop c) Q fr σ :=
  fun _ _ _ ho hf => loopWp_of (h.wp ho (hf.weaken hl))
end

/-! ### 7. A function -/
def aread {α : Type} (P : Program) (ro : AH) : Sem α → AH → Option α
  | .pure a, _ => some a
  | .load _ a k, σ => match acell ro σ a with
    | some v => aread P ro (k v) σ
    | none => none
  | .program k, σ => aread P ro (k P) σ
  | .mark _ k, σ => aread P ro k σ
  | _, _ => none
theorem aread_sound {α : Type} {P : Program} {B : World} {ro : AH} {φ : AH} (s : Sem α) : ∀ {σ : AH} {w : World} {a : α}, aread P ro s σ = some a → Own B ro φ σ w → s.run P w = .ok a w := by
  induction s with
  | pure a => intro σ w x h ho; cases h; rfl
  | load m a k ih =>
    intro σ w x h ho
    simp only [aread] at h
    cases hc : acell ro σ a with
    | none => rw [hc] at h; cases h
    | some v => rw [hc] at h; simp only [Sem.run, ho.cell hc]; exact ih v h ho
  | program k ih => intro σ w x h ho; exact ih _ h ho
  | mark m k ih => intro σ w x h ho; exact ih h ho
  | _ => intro σ w x h; cases h
def bodyQ (P : Program) (ro : AH) (fn : Func) (R : Value → AH → Prop) : Exit → Fr → AH → Prop
  | .normal, fr, σ | .ret, fr, σ => ∃ v, (∀ tmps : Array Value, (∀ i u, look fr i = some u → tmps[i]? = some u) → aread P ro (results fn tmps) σ = some v) ∧ R v σ
  | _, _, _ => False
def initFr : List Value → Nat → Fr
  | [], _ => []
  | v :: r, i => (i, v) :: initFr r (i + 1)
theorem look_initFr (l : List Value) : ∀ (n i : Nat) (v : Value), look (initFr l n) i = some v → n ≤ i ∧ l[i - n]? = some v := by
  induction l with
  | nil => intro n i v h; simp [initFr, look] at h
  | cons x r ih =>
    intro n i v h
    simp only [initFr, look] at h
    cases hb : Nat.beq i n with
    | true => rw [hb] at h; have := Nat.eq_of_beq_eq_true hb; subst this; simpa using h
    | false =>
      rw [hb] at h
      obtain ⟨h1, h2⟩ := ih (n + 1) i v h
      have : i - n = (i - (n + 1)) + 1 := by omega
      exact ⟨by omega, by rw [this]; simpa using h2⟩
theorem ACalls.of_body {P : Program} {B : World} {ro : AH} {f : FuncId} {fn : Func} {c : Code} {args : List Value} {σ : AH} {Q : Value → AH → Prop} (hf : P.funcs[f]? = some fn) (hb : fn.body = some c)
    (hn : args.length ≤ fn.ntmps) (h : AW P B ro fn.ntmps c (bodyQ P ro fn Q) (initFr args 0) σ) : ACalls P B ro f args.toArray σ Q := by
  intro φ w ho
  refine calls_of_wp hf hb ?_
  have hfits : Fits fn.ntmps (initFr args 0) { tmps := args.toArray ++ Array.replicate (fn.ntmps - args.toArray.size) undef, defers := [] } := by
    refine ⟨by simp; omega, rfl, ?_⟩
    intro i v hi
    obtain ⟨_, h2⟩ := look_initFr args 0 i v hi
    simp only [Nat.sub_zero] at h2
    have hlt : i < args.length := by
      rcases Nat.lt_or_ge i args.length with h' | h'
      · exact h'
      · rw [List.getElem?_eq_none h'] at h2; cases h2
    simp [Array.getElem?_append, hlt]
    simpa [List.getElem?_eq_getElem hlt] using h2
  refine wp_mono (h φ w _ ho hfits) ?_
  rintro e a' w' ⟨fr', σ', hq, ho', hf'⟩
  cases e with
  | normal =>
    obtain ⟨v, hr, hR⟩ := hq
    exact ⟨hf'.defers, v, aread_sound _ (hr _ hf'.has) ho', v, σ', rfl, hR, ho'⟩
  | ret =>
    obtain ⟨v, hr, hR⟩ := hq
    exact ⟨hf'.defers, v, aread_sound _ (hr _ hf'.has) ho', v, σ', rfl, hR, ho'⟩
  | _ => exact hq.elim
end Go.Proofs.YtomdigihapdhnaaGreatDoor.SL

/- The base, third part: a region that draws its order: proved in one order, true in every order that its edges allow. Generic over any program. -/
namespace Go.Proofs.YtomdigihapdhnaaGreatDoor.SL
open Go

/-! ### 8. More on the weakest precondition: what is beside; that there is an outcome -/
theorem rd_join {ro σ ψ : AH} {b : Nat} {o : Obj} (h : rd ro σ b = some o) : rd ro (join σ ψ) b = some o := by
  unfold rd at h ⊢
  split
  · rename_i x e; rw [e] at h; exact h
  · rename_i e; rw [e] at h; exact join_left h
theorem acell_join {ro σ ψ : AH} {a : Addr} {v : Value} (h : acell ro σ a = some v) : acell ro (join σ ψ) a = some v := by
  unfold acell at h ⊢
  cases hb : rd ro σ a.block with
  | none => rw [hb] at h; simp [cellOf] at h
  | some o => rw [rd_join hb, ← hb]; exact h
theorem upd_join {σ ψ : AH} (b : Nat) (o : Obj) : upd (join σ ψ) b o = join (upd σ b o) ψ := by
  funext i
  by_cases h : i = b <;> simp [upd, join, h]
theorem Disj.upd {σ ψ : AH} {b : Nat} (hd : Disj σ ψ) (h : ψ b = none) (o : Obj) : Disj (SL.upd σ b o) ψ := by
  intro i x hx
  unfold SL.upd at hx
  split at hx
  · rename_i e; subst e; exact h
  · exact hd i x hx
theorem awp_frame {α : Type} {P : Program} {ro ψ : AH} (s : Sem α) : ∀ {Q : α → AH → Prop} {σ : AH}, awp P ro s Q σ → Disj σ ψ →
    awp P ro s (fun a σ' => ∃ τ, σ' = join τ ψ ∧ Disj τ ψ ∧ Q a τ) (join σ ψ) := by
  induction s with
  | pure a => intro Q σ h hd; exact ⟨σ, rfl, hd, h⟩
  | load m a k ih => intro Q σ h hd; obtain ⟨v, hc, h⟩ := h; exact ⟨v, acell_join hc, ih v h hd⟩
  | store m a v k ih =>
    intro Q σ h hd
    obtain ⟨hv, hsp, c, e, fz, hs, hoff, hfz, h⟩ := h
    refine ⟨hv, hsp, c, e, fz, join_left hs, hoff, hfz, ?_⟩
    rw [upd_join]; exact ih h (hd.upd (hd _ _ hs) _)
  | new o k ih =>
    intro Q σ h hd b hb hs
    obtain ⟨h1, h2⟩ := join_none hs
    rw [upd_join]; exact ih b (h b hb h1) (hd.upd h2 _)
  | shape r k ih => intro Q σ h hd; obtain ⟨o, hr, h⟩ := h; exact ⟨o, rd_join hr, ih _ h hd⟩
  | freeze a n k ih =>
    intro Q σ h hd
    obtain ⟨hn, o, hs, h⟩ := h
    refine ⟨hn, o, join_left hs, ?_⟩
    rw [upd_join]; exact ih h (hd.upd (hd _ _ hs) _)
  | frozen a k ih => intro Q σ h hd; obtain ⟨o, hr, h⟩ := h; exact ⟨o, rd_join hr, ih _ h hd⟩
  | getObj r k ih => intro Q σ h hd; obtain ⟨o, hr, hi, h⟩ := h; exact ⟨o, rd_join hr, hi, ih _ h hd⟩
  | setObj r o k ih =>
    intro Q σ h hd
    obtain ⟨o', hs, hi, h⟩ := h
    refine ⟨o', join_left hs, hi, ?_⟩
    rw [upd_join]; exact ih h (hd.upd (hd _ _ hs) _)
  | choose q k ih =>
    intro Q σ h hd
    simp only [awp] at h ⊢
    split
    · rename_i e; rw [if_pos e] at h; exact ih _ h hd
    · rename_i e; rw [if_neg e] at h; intro n; exact ih _ (h n) hd
  | sys c k ih => intro Q σ h; exact h.elim
  | program k ih => intro Q σ h hd; exact ih _ h hd
  | mark m k ih => intro Q σ h hd; exact ih h hd
  | halt e => intro Q σ h; exact h.elim

/-- The heap lies in a world. -/
def Live (B : World) (ro σ : AH) : Prop := ∃ φ w, Own B ro φ σ w
theorem padTo (H : Array Obj) (b : Nat) (o : Obj) : ∃ H' : Array Obj, H'[b]? = some o ∧ ∀ i, i ≠ b → i < H.size → H'[i]? = H[i]? := by
  by_cases h : b < H.size
  · exact ⟨H.setIfInBounds b o, by simp [h], fun i hi _ => by rw [Array.getElem?_setIfInBounds, if_neg (by omega)]⟩
  · refine ⟨(H ++ Array.replicate (b - H.size) o).push o, ?_, ?_⟩
    · have : (H ++ Array.replicate (b - H.size) o).size = b := by simp; omega
      rw [Array.getElem?_push, if_pos this.symm]
    · intro i hi hlt
      have : (H ++ Array.replicate (b - H.size) o).size = b := by simp; omega
      rw [Array.getElem?_push, if_neg (by omega), Array.getElem?_append, if_pos hlt]
theorem Live.upd {B : World} {ro σ : AH} (h : Live B ro σ) {b : Nat} (hr : ro b = none) (o : Obj) : Live B ro (SL.upd σ b o) := by
  obtain ⟨φ, w, h⟩ := h
  obtain ⟨H', h1, h2⟩ := padTo w.heap b o
  refine ⟨fun _ => none, { w with heap := H' }, h.os, h.tape, h.output, ?_, fun _ _ e => (by cases e), ?_⟩
  · intro i x hx
    unfold SL.upd at hx
    split at hx
    · rename_i e; subst e; cases hx; exact ⟨h1, rfl, hr⟩
    · rename_i ne
      obtain ⟨g1, _, g3⟩ := h.own i x hx
      exact ⟨by show H'[i]? = _; rw [h2 i ne (lt_of_block g1)]; exact g1, rfl, g3⟩
  · intro i x hx
    have g := h.ro i x hx
    have : i ≠ b := by intro e; subst e; rw [hr] at hx; cases hx
    show H'[i]? = _; rw [h2 i this (lt_of_block g)]; exact g
theorem Live.ro_of {B : World} {ro σ : AH} (h : Live B ro σ) {b : Nat} {o : Obj} (hs : σ b = some o) : ro b = none := by
  obtain ⟨φ, w, h⟩ := h; exact (h.own b o hs).2.2
theorem awp_live {α : Type} {P : Program} {B : World} {ro : AH} (s : Sem α) : ∀ {Q : α → AH → Prop} {σ : AH}, awp P ro s Q σ → Live B ro σ → awp P ro s (fun a σ' => Q a σ' ∧ Live B ro σ') σ := by
  induction s with
  | pure a => intro Q σ h hl; exact ⟨h, hl⟩
  | load m a k ih => intro Q σ h hl; obtain ⟨v, hc, h⟩ := h; exact ⟨v, hc, ih v h hl⟩
  | store m a v k ih => intro Q σ h hl; obtain ⟨hv, hsp, c, e, fz, hs, hoff, hfz, h⟩ := h; exact ⟨hv, hsp, c, e, fz, hs, hoff, hfz, ih h (hl.upd (hl.ro_of hs) _)⟩
  | new o k ih => intro Q σ h hl b hb hs; exact ih b (h b hb hs) (hl.upd hb _)
  | shape r k ih => intro Q σ h hl; obtain ⟨o, hr, h⟩ := h; exact ⟨o, hr, ih _ h hl⟩
  | freeze a n k ih => intro Q σ h hl; obtain ⟨hn, o, hr, h⟩ := h; exact ⟨hn, o, hr, ih h (hl.upd (hl.ro_of hr) _)⟩
  | frozen a k ih => intro Q σ h hl; obtain ⟨o, hr, h⟩ := h; exact ⟨o, hr, ih _ h hl⟩
  | getObj r k ih => intro Q σ h hl; obtain ⟨o, hr, hi, h⟩ := h; exact ⟨o, hr, hi, ih _ h hl⟩
  | setObj r o k ih => intro Q σ h hl; obtain ⟨o', hr, hi, h⟩ := h; exact ⟨o', hr, hi, ih h (hl.upd (hl.ro_of hr) _)⟩
  | choose q k ih =>
    intro Q σ h hl
    simp only [awp] at h ⊢
    split
    · rename_i e; rw [if_pos e] at h; exact ih _ h hl
    · rename_i e; rw [if_neg e] at h; intro n; exact ih _ (h n) hl
  | sys c k ih => intro Q σ h; exact h.elim
  | program k ih => intro Q σ h hl; exact ih _ h hl
  | mark m k ih => intro Q σ h hl; exact ih h hl
  | halt e => intro Q σ h; exact h.elim

theorem ACalls.live {P : Program} {B : World} {ro : AH} {f : FuncId} {args : Array Value} {σ : AH} {Q : Value → AH → Prop} (h : ACalls P B ro f args σ Q) : ACalls P B ro f args σ fun v σ' => Q v σ' ∧ Live B ro σ' :=
  fun φ w ho => (h φ w ho).mono fun _ _ ⟨v, σ', e, q, o⟩ => ⟨v, σ', e, ⟨q, φ, _, o⟩, o⟩
theorem ACalls.nonempty {P : Program} {B : World} {ro : AH} {f : FuncId} {args : Array Value} {σ : AH} {Q : Value → AH → Prop} (h : ACalls P B ro f args σ Q) (hl : Live B ro σ) : ∃ v σ', Q v σ' := by
  obtain ⟨φ, w, ho⟩ := hl
  obtain ⟨_, _, _, ⟨v, σ', _, q, _⟩, _⟩ := h φ w ho []
  exact ⟨v, σ', q⟩

/-! ### 9. One operation, by its kind -/
def FrEq (fr fr' : Fr) : Prop := ∀ i, look fr i = look fr' i
def Closed (K : Fr → AH → Prop) : Prop := ∀ fr fr' σ, FrEq fr fr' → K fr σ → K fr' σ
theorem FrEq.symm {fr fr' : Fr} (h : FrEq fr fr') : FrEq fr' fr := fun i => (h i).symm
theorem FrEq.refl (fr : Fr) : FrEq fr fr := fun _ => rfl
theorem look_put {d : Tmp} {v : Value} {fr : Fr} {i : Nat} : look (putF (some d) v fr) i = if i = d then some v else look fr i := by
  simp only [putF, look]
  cases hb : Nat.beq i d with
  | true => have := Nat.eq_of_beq_eq_true hb; subst this; simp
  | false =>
    have hne : i ≠ d := by intro e; subst e; simp at hb
    simp [hne]
theorem FrEq.put {fr fr' : Fr} (h : FrEq fr fr') (d : Option Tmp) (v : Value) : FrEq (putF d v fr) (putF d v fr') := by
  cases d with
  | none => exact h
  | some d => intro i; simp only [look_put, h i]
theorem FrEq.comm {x y : Option Tmp} (h : ∀ d, x = some d → y ≠ some d) (v u : Value) (fr : Fr) : FrEq (putF x v (putF y u fr)) (putF y u (putF x v fr)) := by
  cases x with
  | none => exact FrEq.refl _
  | some d =>
    cases y with
    | none => exact FrEq.refl _
    | some e =>
      have hne : e ≠ d := fun q => h d rfl (by rw [q])
      intro i
      simp only [look_put]
      by_cases h1 : i = d
      · subst h1; rw [if_pos rfl, if_neg (fun q => hne q.symm), if_pos rfl]
      · rw [if_neg h1, if_neg h1]
theorem evalF_eq {fr fr' : Fr} (h : FrEq fr fr') (x : Operand) : evalF fr x = evalF fr' x := by
  cases x <;> simp [evalF]
  exact h _
theorem Agrees.eq {ρ : Operand → Value} {fr fr' : Fr} (h : Agrees ρ fr) (he : FrEq fr fr') : Agrees ρ fr' := fun x v hx => h x v (by rw [evalF_eq he]; exact hx)
def ofFr (fr : Fr) : Operand → Value := fun x => (evalF fr x).getD undef
theorem ofFr_agrees (fr : Fr) : Agrees (ofFr fr) fr := fun x v h => by simp [ofFr, h]

def ReadEv (P : Program) (ro τ : AH) (o : Oper) (fr : Fr) (u : Value) : Prop := ∀ ρ, Agrees ρ fr → aread P ro (execOp ρ o) τ = some (.value u)
/-- what the operation gives, read in the heap τ (or left out by its guard) -/
def RVal (P : Program) (ro τ : AH) (ops : Array Oper) (o : Oper) (fr : Fr) (u : Value) : Prop :=
  match o.guard with
  | none => ReadEv P ro τ o fr u
  | some (j, want) => ∃ t v, (ops[j]?).bind (·.dst) = some t ∧ look fr t = some v ∧ ((v = .bool want ∧ ReadEv P ro τ o fr u) ∨ (v ≠ .bool want ∧ u = undef))
abbrev none' : AH := fun _ => none
def PureEv (P : Program) (ro : AH) (o : Oper) (fr : Fr) (u : Value) : Prop := ∀ ρ, Agrees ρ fr → aread P ro (execOp ρ o) (fun _ => none) = some (.value u)
theorem PureEv.read {P : Program} {ro : AH} {o : Oper} {fr : Fr} {u : Value} (h : PureEv P ro o fr u) : ReadEv P ro none' o fr u := h
def newOf (P : Program) : Sem Next → Option (Obj × (Nat → Sem Next))
  | .new o k => some (o, k)
  | .program k => newOf P (k P)
  | .mark _ k => newOf P k
  | _ => none
def NewEv (P : Program) (ro : AH) (o : Oper) (fr : Fr) (ob : Obj) (mk : Nat → Value) : Prop := ∀ ρ, Agrees ρ fr → ∃ k, newOf P (execOp ρ o) = some (ob, k) ∧ ∀ b, aread P ro (k b) (fun _ => none) = some (.value (mk b))
/-- one object that is made, of those that may be chosen; none where the guard says no -/
abbrev Fam := Option (Nat → Obj × (Nat → Value))
def NQ (ro : AH) (F : Fam) (σ : AH) (A : Value → AH → Prop) : Prop := match F with
  | none => A undef σ
  | some G => ∀ n b, ro b = none → σ b = none → A ((G n).2 b) (upd σ b (G n).1)
def FamEv (P : Program) (ro : AH) (o : Oper) (fr : Fr) (G : Nat → Obj × (Nat → Value)) : Prop := ∀ ρ, Agrees ρ fr → ∀ (Q : Next → AH → Prop) (σ : AH), awp P ro (execOp ρ o) Q σ ↔ ∀ n b, ro b = none → σ b = none → Q (.value ((G n).2 b)) (upd σ b (G n).1)
def NVal (P : Program) (ro : AH) (ops : Array Oper) (o : Oper) (fr : Fr) (F : Fam) : Prop :=
  match o.guard with
  | none => ∃ G, F = some G ∧ FamEv P ro o fr G
  | some (j, want) => ∃ t v, (ops[j]?).bind (·.dst) = some t ∧ look fr t = some v ∧ ((v = .bool want ∧ ∃ G, F = some G ∧ FamEv P ro o fr G) ∨ (v ≠ .bool want ∧ F = none))

section
variable {P : Program} {B : World} {ro : AH} {N : Nat} {ops : Array Oper}

theorem rd_none {ro σ : AH} {b : Nat} {o : Obj} (h : rd ro (fun _ => none) b = some o) : rd ro σ b = some o := by
  unfold rd at h ⊢
  split
  · rename_i x e; rw [e] at h; exact h
  · rename_i e; rw [e] at h; cases h
theorem acell_none {ro σ : AH} {a : Addr} {v : Value} (h : acell ro (fun _ => none) a = some v) : acell ro σ a = some v := by
  unfold acell at h ⊢
  cases hb : rd ro (fun _ => none) a.block with
  | none => rw [hb] at h; simp [cellOf] at h
  | some o => rw [rd_none hb, ← hb]; exact h
theorem awp_of_aread {α : Type} (s : Sem α) : ∀ {a : α} {Q : α → AH → Prop} {σ : AH}, aread P ro s (fun _ => none) = some a → (awp P ro s Q σ ↔ Q a σ) := by
  induction s with
  | pure x => intro a Q σ h; cases h; exact Iff.rfl
  | load m x k ih =>
    intro a Q σ h
    simp only [aread] at h
    cases hc : acell ro (fun _ => none) x with
    | none => rw [hc] at h; cases h
    | some v =>
      rw [hc] at h
      constructor
      · rintro ⟨v', hc', h'⟩
        rw [acell_none hc] at hc'; cases hc'
        exact (ih v h).1 h'
      · intro hq; exact ⟨v, acell_none hc, (ih v h).2 hq⟩
  | program k ih => intro a Q σ h; exact ih _ h
  | mark m k ih => intro a Q σ h; exact ih h
  | _ => intro a Q σ h; cases h
theorem aread_mono {α : Type} (s : Sem α) : ∀ {a : α} {σ σ' : AH}, HLe σ σ' → aread P ro s σ = some a → aread P ro s σ' = some a := by
  induction s with
  | pure x => intro a σ σ' _ h; exact h
  | load m x k ih =>
    intro a σ σ' hl h
    simp only [aread] at h ⊢
    cases hc : acell ro σ x with
    | none => rw [hc] at h; cases h
    | some v =>
      rw [hc] at h
      have : acell ro σ' x = some v := by
        unfold acell at hc ⊢
        cases hb : rd ro σ x.block with
        | none => rw [hb] at hc; simp [cellOf] at hc
        | some o =>
          have h2 : rd ro σ' x.block = some o := by
            unfold rd at hb ⊢
            split
            · rename_i y e; rw [e] at hb; exact hb
            · rename_i e; rw [e] at hb; exact hl _ _ hb
          rw [h2, ← hb]; exact hc
      rw [this]; exact ih v hl h
  | program k ih => intro a σ σ' hl h; exact ih _ hl h
  | mark m k ih => intro a σ σ' hl h; exact ih hl h
  | _ => intro a σ σ' hl h; cases h
theorem awp_at_aread {α : Type} (s : Sem α) : ∀ {a : α} {Q : α → AH → Prop} {σ : AH}, aread P ro s σ = some a → Q a σ → awp P ro s Q σ := by
  induction s with
  | pure x => intro a Q σ h hq; cases h; exact hq
  | load m x k ih =>
    intro a Q σ h hq
    simp only [aread] at h
    cases hc : acell ro σ x with
    | none => rw [hc] at h; cases h
    | some v => rw [hc] at h; exact ⟨v, hc, ih v h hq⟩
  | program k ih => intro a Q σ h hq; exact ih _ h hq
  | mark m k ih => intro a Q σ h hq; exact ih h hq
  | _ => intro a Q σ h hq; cases h
theorem awp_of_newOf (s : Sem Next) : ∀ {ob : Obj} {k : Nat → Sem Next} {Q : Next → AH → Prop} {σ : AH}, newOf P s = some (ob, k) → (awp P ro s Q σ ↔ ∀ b, ro b = none → σ b = none → awp P ro (k b) Q (upd σ b ob)) := by
  induction s with
  | new o k ih => intro ob k' Q σ h; simp only [newOf, Option.some.injEq, Prod.mk.injEq] at h; obtain ⟨rfl, rfl⟩ := h; exact Iff.rfl
  | program k ih => intro ob k' Q σ h; exact ih _ h
  | mark m k ih => intro ob k' Q σ h; exact ih h
  | _ => intro ob k' Q σ h; cases h

def D1 (P : Program) (B : World) (ro : AH) (N : Nat) (ops : Array Oper) (cl : Nat → Nat) (i : Nat) (K : Fr → AH → Prop) (fr : Fr) (σ : AH) : Prop :=
  match ops[i]? with
  | none => False
  | some o => match cl i with
    | 0 => dstOk N o.dst = true ∧ ∃ u, RVal P ro none' ops o fr u ∧ K (putF o.dst u fr) σ
    | 3 => dstOk N o.dst = true ∧ ∃ u, RVal P ro σ ops o fr u ∧ K (putF o.dst u fr) σ
    | 1 => dstOk N o.dst = true ∧ ∃ F, NVal P ro ops o fr F ∧ NQ ro F σ fun v σ' => K (putF o.dst v fr) σ'
    | _ => AStep P B ro N ops o K fr σ
def DOps (P : Program) (B : World) (ro : AH) (N : Nat) (ops : Array Oper) (cl : Nat → Nat) (K : Fr → AH → Prop) : List Nat → Fr → AH → Prop
  | [], fr, σ => K fr σ
  | i :: rest, fr, σ => D1 P B ro N ops cl i (DOps P B ro N ops cl K rest) fr σ

theorem nextQ_mono {dst : Option Tmp} {fr : Fr} {K K' : Fr → AH → Prop} (h : ∀ fr σ, K fr σ → K' fr σ) {x : Next} {σ : AH} (hq : nextQ P B ro dst fr K x σ) : nextQ P B ro dst fr K' x σ := by
  cases x <;> first | exact h _ _ hq | exact ACalls.mono hq fun _ _ => h _ _ | exact hq
theorem AExec.mono {o : Oper} {K K' : Fr → AH → Prop} {fr : Fr} {σ : AH} (h : ∀ fr σ, K fr σ → K' fr σ) (hx : AExec P B ro o K fr σ) : AExec P B ro o K' fr σ :=
  fun ρ hρ => awp_mono _ (hx ρ hρ) fun _ _ => nextQ_mono h
theorem AStep.mono {o : Oper} {K K' : Fr → AH → Prop} {fr : Fr} {σ : AH} (h : ∀ fr σ, K fr σ → K' fr σ) (hx : AStep P B ro N ops o K fr σ) : AStep P B ro N ops o K' fr σ := by
  obtain ⟨hd, hx⟩ := hx
  refine ⟨hd, ?_⟩
  split at hx
  · exact hx.mono h
  · obtain ⟨t, v, h1, h2, h3⟩ := hx
    exact ⟨t, v, h1, h2, h3.imp (fun ⟨a, b⟩ => ⟨a, b.mono h⟩) (fun ⟨a, b⟩ => ⟨a, h _ _ b⟩)⟩
theorem AExec.live {o : Oper} {K : Fr → AH → Prop} {fr : Fr} {σ : AH} (hx : AExec P B ro o K fr σ) (hl : Live B ro σ) : AExec P B ro o (fun fr σ => K fr σ ∧ Live B ro σ) fr σ := by
  intro ρ hρ
  refine awp_mono _ (awp_live _ (hx ρ hρ) hl) ?_
  rintro x σ' ⟨h1, h2⟩
  cases x <;> first | exact ⟨h1, h2⟩ | exact (ACalls.live h1).mono fun _ _ h => h | exact h1
theorem AStep.live {o : Oper} {K : Fr → AH → Prop} {fr : Fr} {σ : AH} (hx : AStep P B ro N ops o K fr σ) (hl : Live B ro σ) : AStep P B ro N ops o (fun fr σ => K fr σ ∧ Live B ro σ) fr σ := by
  obtain ⟨hd, hx⟩ := hx
  refine ⟨hd, ?_⟩
  split at hx
  · exact hx.live hl
  · obtain ⟨t, v, h1, h2, h3⟩ := hx
    exact ⟨t, v, h1, h2, h3.imp (fun ⟨a, b⟩ => ⟨a, b.live hl⟩) (fun ⟨a, b⟩ => ⟨a, b, hl⟩)⟩
theorem AStep.nonempty {o : Oper} {K : Fr → AH → Prop} {fr : Fr} {σ : AH} (hx : AStep P B ro N ops o K fr σ) (hl : Live B ro σ) : ∃ v σ', K (putF o.dst v fr) σ' := by
  have go : ∀ (hx : AExec P B ro o K fr σ), ∃ v σ', K (putF o.dst v fr) σ' := by
    intro hx
    obtain ⟨φ, w, ho⟩ := hl
    obtain ⟨x, w', σ', _, hq, ho'⟩ := awp_sound _ (hx _ (ofFr_agrees fr)) ho
    cases x with
    | value v => exact ⟨v, σ', hq⟩
    | skip => exact ⟨_, σ', hq⟩
    | enter f args => obtain ⟨v, σ2, h⟩ := ACalls.nonempty hq ⟨φ, w', ho'⟩; exact ⟨v, σ2, h⟩
    | _ => exact hq.elim
  obtain ⟨_, hx⟩ := hx
  split at hx
  · exact go hx
  · obtain ⟨t, v, h1, h2, h3⟩ := hx
    rcases h3 with ⟨_, b⟩ | ⟨_, b⟩
    · exact go b
    · exact ⟨_, σ, b⟩
theorem AExec.frame {o : Oper} {K : Fr → AH → Prop} {fr : Fr} {σ ψ : AH} (hx : AExec P B ro o K fr σ) (hd : Disj σ ψ) : AExec P B ro o (fun fr σ' => ∃ τ, σ' = join τ ψ ∧ Disj τ ψ ∧ K fr τ) fr (join σ ψ) := by
  intro ρ hρ
  refine awp_mono _ (awp_frame _ (hx ρ hρ) hd) ?_
  rintro x σ' ⟨τ, rfl, h1, h2⟩
  cases x <;> first | exact ⟨τ, rfl, h1, h2⟩ | exact ACalls.frame h2 h1 | exact h2
theorem AStep.frame {o : Oper} {K : Fr → AH → Prop} {fr : Fr} {σ ψ : AH} (hx : AStep P B ro N ops o K fr σ) (hd : Disj σ ψ) : AStep P B ro N ops o (fun fr σ' => ∃ τ, σ' = join τ ψ ∧ Disj τ ψ ∧ K fr τ) fr (join σ ψ) := by
  obtain ⟨h0, hx⟩ := hx
  refine ⟨h0, ?_⟩
  split at hx
  · exact hx.frame hd
  · obtain ⟨t, v, h1, h2, h3⟩ := hx
    exact ⟨t, v, h1, h2, h3.imp (fun ⟨a, b⟩ => ⟨a, b.frame hd⟩) (fun ⟨a, b⟩ => ⟨a, σ, rfl, hd, b⟩)⟩

theorem RVal.uniq {τ : AH} {o : Oper} {fr : Fr} {u u' : Value} (h : RVal P ro τ ops o fr u) (h' : RVal P ro τ ops o fr u') : u = u' := by
  have pe : ∀ {u u'}, ReadEv P ro τ o fr u → ReadEv P ro τ o fr u' → u = u' := by
    intro u u' a b
    have := (a _ (ofFr_agrees fr)).symm.trans (b _ (ofFr_agrees fr))
    simpa using this
  unfold RVal at h h'
  split at h
  · rename_i hg; rw [hg] at h'; exact pe h h'
  · rename_i j want hg
    rw [hg] at h'
    obtain ⟨t, v, h1, h2, h3⟩ := h
    obtain ⟨t', v', h1', h2', h3'⟩ := h'
    rw [h1] at h1'; cases h1'
    rw [h2] at h2'; cases h2'
    rcases h3 with ⟨a, b⟩ | ⟨a, b⟩ <;> rcases h3' with ⟨a', b'⟩ | ⟨a', b'⟩
    · exact pe b b'
    · exact absurd a a'
    · exact absurd a' a
    · rw [b, b']
theorem RVal.mono {τ τ' : AH} {o : Oper} {fr : Fr} {u : Value} (hl : HLe τ τ') (h : RVal P ro τ ops o fr u) : RVal P ro τ' ops o fr u := by
  have pe : ReadEv P ro τ o fr u → ReadEv P ro τ' o fr u := fun a ρ hρ => aread_mono _ hl (a ρ hρ)
  unfold RVal at h ⊢
  split at h
  · exact pe h
  · obtain ⟨t, v, h1, h2, h3⟩ := h
    exact ⟨t, v, h1, h2, h3.imp (fun ⟨a, b⟩ => ⟨a, pe b⟩) id⟩

/-- Two operations that share no slot. -/
def noSel (o : Oper) : Bool := match o.op with | .select .. => false | _ => true
theorem noSel_spec {o : Oper} (h : noSel o = true) : ∀ cs b, o.op ≠ .select cs b := by
  intro cs b e; simp [noSel, e] at h
def setρ (ρ : Operand → Value) (fr : Fr) (d : Nat) : Operand → Value
  | .tmp t => if t = d then (look fr d).getD (ρ (.tmp d)) else ρ (.tmp t)
  | x => ρ x
theorem execOp_set {ρ : Operand → Value} {o : Oper} (hs : noSel o = true) {d : Nat} {fr : Fr} (hd : d ∉ o.looksAt ops) : execOp (setρ ρ fr d) o = execOp ρ o := by
  refine execOp_congr o (noSel_spec hs) fun x hx => ?_
  cases x with
  | tmp t =>
    have : t ≠ d := by
      intro e; subst e; apply hd
      unfold Oper.looksAt
      refine List.mem_append.2 (.inl (List.mem_filterMap.2 ⟨.tmp t, by simpa using hx, rfl⟩))
    simp [setρ, this]
  | _ => rfl
theorem setρ_agrees {ρ : Operand → Value} {fr fr' : Fr} {d : Nat} (h : Agrees ρ fr') (he : ∀ i, i ≠ d → look fr i = look fr' i) : Agrees (setρ ρ fr d) fr := by
  intro x v hx
  cases x with
  | tmp t =>
    simp only [evalF] at hx
    simp only [setρ]
    by_cases e : t = d
    · subst e; simp [hx]
    · rw [if_neg e]; exact h (.tmp t) v (by simp only [evalF]; rw [← he t e]; exact hx)
  | _ => exact h _ v hx
theorem put_off {d : Nat} {v : Value} {fr : Fr} : ∀ i, i ≠ d → look (putF (some d) v fr) i = look fr i := by
  intro i hi; rw [look_put, if_neg hi]
theorem guard_off {o : Oper} {d j t : Nat} {want : Bool} (hg : o.guard = some (j, want)) (ht : (ops[j]?).bind (·.dst) = some t) (hd : d ∉ o.looksAt ops) : t ≠ d := by
  intro e; subst e; apply hd
  unfold Oper.looksAt
  rw [hg]
  exact List.mem_append.2 (.inr (by simp [ht]))
/-- What does not look at a slot is not turned by it. -/
theorem ReadEv.off {τ : AH} {o : Oper} (hs : noSel o = true) {d : Nat} (hd : d ∉ o.looksAt ops) {fr fr' : Fr} (he : ∀ i, i ≠ d → look fr i = look fr' i) {u : Value} (h : ReadEv P ro τ o fr u) : ReadEv P ro τ o fr' u := by
  intro ρ hρ
  rw [← execOp_set (ρ := ρ) (fr := fr) hs hd]
  exact h _ (setρ_agrees hρ he)
theorem RVal.off {τ : AH} {o : Oper} (hs : noSel o = true) {d : Nat} (hd : d ∉ o.looksAt ops) {fr fr' : Fr} (he : ∀ i, i ≠ d → look fr i = look fr' i) {u : Value} (h : RVal P ro τ ops o fr u) : RVal P ro τ ops o fr' u := by
  unfold RVal at h ⊢
  split at h
  · exact h.off hs hd he
  · rename_i j want hg
    obtain ⟨t, v, h1, h2, h3⟩ := h
    exact ⟨t, v, h1, by rw [← he t (guard_off hg h1 hd)]; exact h2, h3.imp (fun ⟨a, b⟩ => ⟨a, b.off hs hd he⟩) id⟩
theorem NewEv.off {o : Oper} (hs : noSel o = true) {d : Nat} (hd : d ∉ o.looksAt ops) {fr fr' : Fr} (he : ∀ i, i ≠ d → look fr i = look fr' i) {ob : Obj} {mk : Nat → Value} (h : NewEv P ro o fr ob mk) : NewEv P ro o fr' ob mk := by
  intro ρ hρ
  rw [← execOp_set (ρ := ρ) (fr := fr) hs hd]
  exact h _ (setρ_agrees hρ he)
theorem FamEv.off {o : Oper} (hs : noSel o = true) {d : Nat} (hd : d ∉ o.looksAt ops) {fr fr' : Fr} (he : ∀ i, i ≠ d → look fr i = look fr' i) {G : Nat → Obj × (Nat → Value)} (h : FamEv P ro o fr G) : FamEv P ro o fr' G := by
  intro ρ hρ
  rw [← execOp_set (ρ := ρ) (fr := fr) hs hd]
  exact h _ (setρ_agrees hρ he)
theorem NVal.off {o : Oper} (hs : noSel o = true) {d : Nat} (hd : d ∉ o.looksAt ops) {fr fr' : Fr} (he : ∀ i, i ≠ d → look fr i = look fr' i) {F : Fam} (h : NVal P ro ops o fr F) : NVal P ro ops o fr' F := by
  unfold NVal at h ⊢
  split at h
  · obtain ⟨G, rfl, h⟩ := h
    exact ⟨G, rfl, h.off hs hd he⟩
  · rename_i j want hg
    obtain ⟨t, v, h1, h2, h3⟩ := h
    exact ⟨t, v, h1, by rw [← he t (guard_off hg h1 hd)]; exact h2, h3.imp (fun ⟨a, G, e, b⟩ => ⟨a, G, e, b.off hs hd he⟩) id⟩
theorem AStep.off {o : Oper} (hs : noSel o = true) {d : Nat} (hd : d ∉ o.looksAt ops) {fr fr' : Fr} (he : ∀ i, i ≠ d → look fr i = look fr' i) {K K' : Fr → AH → Prop} {σ : AH}
    (hk : ∀ v σ, K (putF o.dst v fr) σ → K' (putF o.dst v fr') σ) (h : AStep P B ro N ops o K fr σ) : AStep P B ro N ops o K' fr' σ := by
  have go : AExec P B ro o K fr σ → AExec P B ro o K' fr' σ := by
    intro h ρ hρ
    rw [← execOp_set (ρ := ρ) (fr := fr) hs hd]
    refine awp_mono _ (h _ (setρ_agrees hρ he)) ?_
    intro x σ' hx
    cases x <;> first | exact hk _ _ hx | exact ACalls.mono hx fun v σ h => hk _ _ h | exact hx
  obtain ⟨h0, h⟩ := h
  refine ⟨h0, ?_⟩
  split at h
  · exact go h
  · rename_i j want hg
    obtain ⟨t, v, h1, h2, h3⟩ := h
    exact ⟨t, v, h1, by rw [← he t (guard_off hg h1 hd)]; exact h2, h3.imp (fun ⟨a, b⟩ => ⟨a, go b⟩) (fun ⟨a, b⟩ => ⟨a, hk _ _ b⟩)⟩
/-! the same for no slot at all: only the spelling of the frame turns -/
theorem ReadEv.eq {τ : AH} {o : Oper} {fr fr' : Fr} (he : FrEq fr fr') {u : Value} (h : ReadEv P ro τ o fr u) : ReadEv P ro τ o fr' u := fun ρ hρ => h ρ (hρ.eq he.symm)
theorem RVal.eq {τ : AH} {o : Oper} {fr fr' : Fr} (he : FrEq fr fr') {u : Value} (h : RVal P ro τ ops o fr u) : RVal P ro τ ops o fr' u := by
  unfold RVal at h ⊢
  split at h
  · exact h.eq he
  · obtain ⟨t, v, h1, h2, h3⟩ := h
    exact ⟨t, v, h1, by rw [← he t]; exact h2, h3.imp (fun ⟨a, b⟩ => ⟨a, b.eq he⟩) id⟩
theorem NewEv.eq {o : Oper} {fr fr' : Fr} (he : FrEq fr fr') {ob : Obj} {mk : Nat → Value} (h : NewEv P ro o fr ob mk) : NewEv P ro o fr' ob mk := fun ρ hρ => h ρ (hρ.eq he.symm)
theorem NVal.eq {o : Oper} {fr fr' : Fr} (he : FrEq fr fr') {F : Fam} (h : NVal P ro ops o fr F) : NVal P ro ops o fr' F := by
  unfold NVal at h ⊢
  split at h
  · obtain ⟨G, rfl, h⟩ := h
    exact ⟨G, rfl, fun ρ hρ => h ρ (hρ.eq he.symm)⟩
  · obtain ⟨t, v, h1, h2, h3⟩ := h
    exact ⟨t, v, h1, by rw [← he t]; exact h2, h3.imp (fun ⟨a, G, e, b⟩ => ⟨a, G, e, fun ρ hρ => b ρ (hρ.eq he.symm)⟩) id⟩
theorem NQ.map {F : Fam} {σ : AH} {A A' : Value → AH → Prop} (h : ∀ v σ, A v σ → A' v σ) (k : NQ ro F σ A) : NQ ro F σ A' := by
  cases F with
  | none => exact h _ _ k
  | some G => exact fun n b hb hs => h _ _ (k n b hb hs)
theorem AStep.eq {o : Oper} {fr fr' : Fr} (he : FrEq fr fr') {K K' : Fr → AH → Prop} {σ : AH} (hk : ∀ v σ, K (putF o.dst v fr) σ → K' (putF o.dst v fr') σ) (h : AStep P B ro N ops o K fr σ) : AStep P B ro N ops o K' fr' σ := by
  have go : AExec P B ro o K fr σ → AExec P B ro o K' fr' σ := by
    intro h ρ hρ
    refine awp_mono _ (h ρ (hρ.eq he.symm)) ?_
    intro x σ' hx
    cases x <;> first | exact hk _ _ hx | exact ACalls.mono hx fun v σ h => hk _ _ h | exact hx
  obtain ⟨h0, h⟩ := h
  refine ⟨h0, ?_⟩
  split at h
  · exact go h
  · obtain ⟨t, v, h1, h2, h3⟩ := h
    exact ⟨t, v, h1, by rw [← he t]; exact h2, h3.imp (fun ⟨a, b⟩ => ⟨a, go b⟩) (fun ⟨a, b⟩ => ⟨a, hk _ _ b⟩)⟩

theorem D1.closed {cl : Nat → Nat} {i : Nat} {K : Fr → AH → Prop} (hK : Closed K) : Closed (D1 P B ro N ops cl i K) := by
  intro fr fr' σ he h
  unfold D1 at h ⊢
  split at h
  · exact h
  · rename_i o ho
    split at h
    · obtain ⟨h0, u, h1, h2⟩ := h
      exact ⟨h0, u, h1.eq he, hK _ _ _ (he.put _ _) h2⟩
    · obtain ⟨h0, u, h1, h2⟩ := h
      exact ⟨h0, u, h1.eq he, hK _ _ _ (he.put _ _) h2⟩
    · obtain ⟨h0, F, h1, h2⟩ := h
      exact ⟨h0, F, h1.eq he, h2.map fun v σ hk => hK _ _ _ (he.put _ _) hk⟩
    · exact h.eq he fun v σ hk => hK _ _ _ (he.put _ _) hk
theorem DOps.closed {cl : Nat → Nat} {K : Fr → AH → Prop} (hK : Closed K) (l : List Nat) : Closed (DOps P B ro N ops cl K l) := by
  induction l with
  | nil => exact hK
  | cons i rest ih => exact D1.closed ih
theorem D1.mono {cl : Nat → Nat} {i : Nat} {K K' : Fr → AH → Prop} {fr : Fr} {σ : AH} (hl : Live B ro σ) (h : ∀ fr σ, Live B ro σ → K fr σ → K' fr σ) (hx : D1 P B ro N ops cl i K fr σ) : D1 P B ro N ops cl i K' fr σ := by
  unfold D1 at hx ⊢
  split at hx
  · exact hx
  · split at hx
    · obtain ⟨h0, u, h1, h2⟩ := hx
      exact ⟨h0, u, h1, h _ _ hl h2⟩
    · obtain ⟨h0, u, h1, h2⟩ := hx
      exact ⟨h0, u, h1, h _ _ hl h2⟩
    · obtain ⟨h0, F, h1, h2⟩ := hx
      refine ⟨h0, F, h1, ?_⟩
      cases F with
      | none => exact h _ _ hl h2
      | some G => exact fun n b hb hs => h _ _ (hl.upd hb _) (h2 n b hb hs)
    · exact (hx.live hl).mono fun fr σ ⟨a, b⟩ => h fr σ b a
end
end Go.Proofs.YtomdigihapdhnaaGreatDoor.SL

/- The base, fourth part: the swap of two operations, and the rule for a region that draws its order. Generic over any program. -/
namespace Go.Proofs.YtomdigihapdhnaaGreatDoor.SL
open Go
section
variable {P : Program} {B : World} {ro : AH} {N : Nat} {ops : Array Oper}

def single (b : Nat) (o : Obj) : AH := fun i => if i = b then some o else none
theorem upd_single {σ : AH} {b : Nat} (h : σ b = none) (o : Obj) : upd σ b o = join σ (single b o) := by
  funext i
  unfold upd join single
  by_cases e : i = b
  · subst e; rw [if_pos rfl, h]; simp
  · rw [if_neg e, if_neg e]; cases σ i <;> rfl
theorem Disj.single {σ : AH} {b : Nat} (h : σ b = none) (o : Obj) : Disj σ (single b o) := by
  intro i x hx
  unfold SL.single
  by_cases e : i = b
  · subst e; rw [h] at hx; cases hx
  · rw [if_neg e]
theorem upd_comm {σ : AH} {b c : Nat} (h : b ≠ c) (o p : Obj) : upd (upd σ b o) c p = upd (upd σ c p) b o := by
  funext i
  unfold upd
  by_cases e : i = c
  · subst e; rw [if_pos rfl, if_neg (fun q => h q.symm), if_pos rfl]
  · rw [if_neg e, if_neg e]
theorem upd_none {σ : AH} {b c : Nat} {o : Obj} (h : upd σ b o c = none) : c ≠ b ∧ σ c = none := by
  unfold upd at h
  split at h
  · cases h
  · rename_i e; exact ⟨e, h⟩
theorem upd_other {σ : AH} {b c : Nat} {o : Obj} (h : c ≠ b) (hs : σ c = none) : upd σ b o c = none := by unfold upd; rw [if_neg h]; exact hs

def swapOk (ops : Array Oper) (cl : Nat → Nat) (x i : Nat) : Bool :=
  match ops[x]?, ops[i]? with
  | some ox, some oi => ox.apart ops oi && noSel ox && noSel oi && (cl x == 0 || cl i == 0 || cl i == 1 || (cl x == 3 && cl i == 3))
  | _, _ => false

theorem put_swap {ox oi : Oper} (ha : ox.apart ops oi = true) (v u : Value) (fr : Fr) : FrEq (putF oi.dst u (putF ox.dst v fr)) (putF ox.dst v (putF oi.dst u fr)) :=
  (FrEq.comm (Oper.apart_spec ha).2.1 v u fr).symm

/-- Looking past a slot that is not looked at: the frame with it and the frame without. -/
theorem RVal.past {τ : AH} {o : Oper} (hs : noSel o = true) {d : Option Tmp} (hd : ∀ t, d = some t → t ∉ o.looksAt ops) {v : Value} {fr : Fr} {u : Value} (h : RVal P ro τ ops o (putF d v fr) u) : RVal P ro τ ops o fr u := by
  cases d with
  | none => exact h
  | some t => exact h.off hs (hd t rfl) (put_off)
theorem RVal.under {τ : AH} {o : Oper} (hs : noSel o = true) {d : Option Tmp} (hd : ∀ t, d = some t → t ∉ o.looksAt ops) {v : Value} {fr : Fr} {u : Value} (h : RVal P ro τ ops o fr u) : RVal P ro τ ops o (putF d v fr) u := by
  cases d with
  | none => exact h
  | some t => exact h.off hs (hd t rfl) (fun i hi => (put_off i hi).symm)
theorem NVal.past {o : Oper} (hs : noSel o = true) {d : Option Tmp} (hd : ∀ t, d = some t → t ∉ o.looksAt ops) {v : Value} {fr : Fr} {F : Fam} (h : NVal P ro ops o (putF d v fr) F) : NVal P ro ops o fr F := by
  cases d with
  | none => exact h
  | some t => exact h.off hs (hd t rfl) (put_off)
theorem NVal.under {o : Oper} (hs : noSel o = true) {d : Option Tmp} (hd : ∀ t, d = some t → t ∉ o.looksAt ops) {v : Value} {fr : Fr} {F : Fam} (h : NVal P ro ops o fr F) : NVal P ro ops o (putF d v fr) F := by
  cases d with
  | none => exact h
  | some t => exact h.off hs (hd t rfl) (fun i hi => (put_off i hi).symm)
theorem NVal.trans {o : Oper} {fr : Fr} {F F' : Fam} (h : NVal P ro ops o fr F) (h' : NVal P ro ops o fr F') {σ : AH} {A : Value → AH → Prop} (k : NQ ro F σ A) : NQ ro F' σ A := by
  have fam : ∀ G G', FamEv P ro o fr G → FamEv P ro o fr G' → NQ ro (some G) σ A → NQ ro (some G') σ A := by
    intro G G' g g' k n b hb hs
    have h1 := (g _ (ofFr_agrees fr) (fun x σ' => ∃ v, x = .value v ∧ A v σ') σ).2 fun n b hb hs => ⟨_, rfl, k n b hb hs⟩
    obtain ⟨v, e, ha⟩ := (g' _ (ofFr_agrees fr) _ σ).1 h1 n b hb hs
    cases e
    exact ha
  unfold NVal at h h'
  split at h
  · rename_i hg
    rw [hg] at h'
    obtain ⟨G, rfl, h⟩ := h
    obtain ⟨G', rfl, h'⟩ := h'
    exact fam G G' h h' k
  · rename_i j want hg
    rw [hg] at h'
    obtain ⟨t, v, h1, h2, h3⟩ := h
    obtain ⟨t', v', h1', h2', h3'⟩ := h'
    rw [h1] at h1'; cases h1'
    rw [h2] at h2'; cases h2'
    rcases h3 with ⟨a, G, rfl, b⟩ | ⟨a, rfl⟩ <;> rcases h3' with ⟨a', G', rfl, b'⟩ | ⟨a', rfl⟩
    · exact fam G G' b b' k
    · exact absurd a a'
    · exact absurd a' a
    · exact k
theorem NewEv.past {o : Oper} (hs : noSel o = true) {d : Option Tmp} (hd : ∀ t, d = some t → t ∉ o.looksAt ops) {v : Value} {fr : Fr} {ob : Obj} {mk : Nat → Value} (h : NewEv P ro o (putF d v fr) ob mk) : NewEv P ro o fr ob mk := by
  cases d with
  | none => exact h
  | some t => exact h.off hs (hd t rfl) (put_off)
theorem NewEv.under {o : Oper} (hs : noSel o = true) {d : Option Tmp} (hd : ∀ t, d = some t → t ∉ o.looksAt ops) {v : Value} {fr : Fr} {ob : Obj} {mk : Nat → Value} (h : NewEv P ro o fr ob mk) : NewEv P ro o (putF d v fr) ob mk := by
  cases d with
  | none => exact h
  | some t => exact h.off hs (hd t rfl) (fun i hi => (put_off i hi).symm)
theorem AStep.past {o : Oper} (hs : noSel o = true) {d : Option Tmp} (hd : ∀ t, d = some t → t ∉ o.looksAt ops) {w : Value} {fr : Fr} {K K' : Fr → AH → Prop} {σ : AH}
    (hk : ∀ v σ, K (putF o.dst v (putF d w fr)) σ → K' (putF o.dst v fr) σ) (h : AStep P B ro N ops o K (putF d w fr) σ) : AStep P B ro N ops o K' fr σ := by
  cases d with
  | none => exact h.eq (FrEq.refl _) hk
  | some t => exact h.off hs (hd t rfl) (put_off) hk
theorem AStep.under {o : Oper} (hs : noSel o = true) {d : Option Tmp} (hd : ∀ t, d = some t → t ∉ o.looksAt ops) {w : Value} {fr : Fr} {K K' : Fr → AH → Prop} {σ : AH}
    (hk : ∀ v σ, K (putF o.dst v fr) σ → K' (putF o.dst v (putF d w fr)) σ) (h : AStep P B ro N ops o K fr σ) : AStep P B ro N ops o K' (putF d w fr) σ := by
  cases d with
  | none => exact h.eq (FrEq.refl _) hk
  | some t => exact h.off hs (hd t rfl) (fun i hi => (put_off i hi).symm) hk
theorem NewEv.uniq {o : Oper} {fr : Fr} {ob ob' : Obj} {mk mk' : Nat → Value} (h : NewEv P ro o fr ob mk) (h' : NewEv P ro o fr ob' mk') : ob = ob' ∧ mk = mk' := by
  obtain ⟨k, h1, h2⟩ := h _ (ofFr_agrees fr)
  obtain ⟨k', h1', h2'⟩ := h' _ (ofFr_agrees fr)
  rw [h1] at h1'
  simp only [Option.some.injEq, Prod.mk.injEq] at h1'
  obtain ⟨rfl, rfl⟩ := h1'
  refine ⟨rfl, funext fun b => ?_⟩
  have := (h2 b).symm.trans (h2' b)
  simpa using this

theorem Live.fresh {σ : AH} (h : Live B ro σ) : ∃ b, ro b = none ∧ σ b = none := by
  obtain ⟨φ, w, h⟩ := h; exact ⟨_, h.to_new.2.2, h.to_new.1⟩

/-! the kinds, one by one -/
def isVal (cl : Nat → Nat) (i : Nat) : Prop := cl i = 0 ∨ cl i = 3
def srcOf (cl : Nat → Nat) (i : Nat) (σ : AH) : AH := if cl i = 0 then none' else σ
theorem D1_val {cl : Nat → Nat} {i : Nat} {o : Oper} {K : Fr → AH → Prop} {fr : Fr} {σ : AH} (ho : ops[i]? = some o) (hc : isVal cl i) :
    D1 P B ro N ops cl i K fr σ ↔ dstOk N o.dst = true ∧ ∃ u, RVal P ro (srcOf cl i σ) ops o fr u ∧ K (putF o.dst u fr) σ := by
  unfold D1 srcOf; rw [ho]; dsimp only
  rcases hc with hc | hc <;> rw [hc] <;> simp
theorem D1_new {cl : Nat → Nat} {i : Nat} {o : Oper} {K : Fr → AH → Prop} {fr : Fr} {σ : AH} (ho : ops[i]? = some o) (hc : cl i = 1) :
    D1 P B ro N ops cl i K fr σ ↔ dstOk N o.dst = true ∧ ∃ F, NVal P ro ops o fr F ∧ NQ ro F σ fun v σ' => K (putF o.dst v fr) σ' := by
  unfold D1; rw [ho]; dsimp only; rw [hc]; exact Iff.rfl
theorem D1_gen {cl : Nat → Nat} {i : Nat} {o : Oper} {K : Fr → AH → Prop} {fr : Fr} {σ : AH} (ho : ops[i]? = some o) (h0 : cl i ≠ 0) (h1 : cl i ≠ 1) (h3 : cl i ≠ 3) :
    D1 P B ro N ops cl i K fr σ ↔ AStep P B ro N ops o K fr σ := by
  unfold D1; rw [ho]; dsimp only
  split
  · rename_i e; exact absurd e h0
  · rename_i e; exact absurd e h3
  · rename_i e; exact absurd e h1
  · exact Iff.rfl
theorem srcOf_mono {cl : Nat → Nat} {i : Nat} {σ σ' : AH} (h : HLe σ σ') : HLe (srcOf cl i σ) (srcOf cl i σ') := by
  unfold srcOf; split
  · exact HLe.refl _
  · exact h
theorem HLe.upd' {σ : AH} {b : Nat} (hb : σ b = none) (o : Obj) : HLe σ (upd σ b o) := by
  intro i x hx
  unfold upd
  rw [if_neg (by intro e; subst e; rw [hb] at hx; cases hx)]; exact hx

theorem NQ.mono {F : Fam} {σ : AH} {A A' : Value → AH → Prop} (k : NQ ro F σ A) (h : ∀ v σ', HLe σ σ' → A v σ' → A' v σ') : NQ ro F σ A' := by
  cases F with
  | none => exact h _ _ (HLe.refl _) k
  | some G => exact fun n b hb hs => h _ _ (HLe.upd' hs _) (k n b hb hs)
theorem NQ.nonempty {F : Fam} {σ : AH} {A : Value → AH → Prop} (hl : Live B ro σ) (k : NQ ro F σ A) : ∃ v σ', A v σ' := by
  cases F with
  | none => exact ⟨_, _, k⟩
  | some G =>
    obtain ⟨b, hb, hs⟩ := hl.fresh
    exact ⟨_, _, k 0 b hb hs⟩
theorem NQ.comm {F F' : Fam} {σ : AH} {A : Value → Value → AH → Prop} (k : NQ ro F σ fun v σ1 => NQ ro F' σ1 fun u σ2 => A v u σ2) : NQ ro F' σ fun u σ1 => NQ ro F σ1 fun v σ2 => A v u σ2 := by
  cases F with
  | none => cases F' with
    | none => exact k
    | some G' => exact fun n b hb hs => k n b hb hs
  | some G => cases F' with
    | none => exact fun n b hb hs => k n b hb hs
    | some G' =>
      intro n b hb hs m c hc hsc
      obtain ⟨hcb, hsc'⟩ := upd_none hsc
      have := k m c hc hsc' n b hb (upd_other (fun q => hcb q.symm) hs)
      rw [upd_comm (fun q => hcb q.symm)]
      exact this
theorem swap {cl : Nat → Nat} {x i : Nat} (hsw : swapOk ops cl x i = true) {K : Fr → AH → Prop} (hK : Closed K) {fr : Fr} {σ : AH} (hl : Live B ro σ)
    (h : D1 P B ro N ops cl x (D1 P B ro N ops cl i K) fr σ) : D1 P B ro N ops cl i (D1 P B ro N ops cl x K) fr σ := by
  unfold swapOk at hsw
  split at hsw
  case h_2 => cases hsw
  rename_i ox oi hx hi
  simp only [Bool.and_eq_true, Bool.or_eq_true, beq_iff_eq] at hsw
  obtain ⟨⟨⟨ha, hsx⟩, hsi⟩, hcl⟩ := hsw
  obtain ⟨hxi, hne, hix⟩ := Oper.apart_spec ha
  have flip : ∀ v u fr σ, K (putF oi.dst u (putF ox.dst v fr)) σ → K (putF ox.dst v (putF oi.dst u fr)) σ := fun v u fr σ hk => hK _ _ _ (put_swap ha v u fr) hk
  by_cases vx : isVal cl x
  · -- x gives a value and turns nothing
    obtain ⟨h0, u, h1, h2⟩ := (D1_val hx vx).1 h
    by_cases vi : isVal cl i
    · obtain ⟨k0, u', k1, k2⟩ := (D1_val hi vi).1 h2
      exact (D1_val hi vi).2 ⟨k0, u', k1.past hsi hxi, (D1_val hx vx).2 ⟨h0, u, h1.under hsx hix, flip _ _ _ _ k2⟩⟩
    · by_cases c1 : cl i = 1
      · obtain ⟨k0, F, k1, k2⟩ := (D1_new hi c1).1 h2
        exact (D1_new hi c1).2 ⟨k0, F, k1.past hsi hxi, k2.mono fun v σ' hle hk => (D1_val hx vx).2 ⟨h0, u, (h1.under hsx hix).mono (srcOf_mono hle), flip _ _ _ _ hk⟩⟩
      · have e0 : cl i ≠ 0 := fun e => vi (.inl e)
        have e3 : cl i ≠ 3 := fun e => vi (.inr e)
        have cx : cl x = 0 := by
          rcases hcl with ((h | h) | h) | h
          · exact h
          · exact absurd h e0
          · exact absurd h c1
          · exact absurd h.2 e3
        refine (D1_gen hi e0 c1 e3).2 ?_
        refine AStep.past hsi hxi (fun v σ' hk => ?_) ((D1_gen hi e0 c1 e3).1 h2)
        refine (D1_val hx vx).2 ⟨h0, u, ?_, flip _ _ _ _ hk⟩
        have : srcOf cl x σ' = srcOf cl x σ := by simp [srcOf, cx]
        rw [this]; exact h1.under hsx hix
  · have x0 : cl x ≠ 0 := fun e => vx (.inl e)
    have x3 : cl x ≠ 3 := fun e => vx (.inr e)
    by_cases c0 : cl i = 0
    · -- i only computes
      have vi : isVal cl i := .inl c0
      have src : ∀ σ, srcOf cl i σ = none' := fun σ => by simp [srcOf, c0]
      by_cases cx : cl x = 1
      · obtain ⟨h0, F, h1, h2⟩ := (D1_new hx cx).1 h
        obtain ⟨v0, s0, e0⟩ := h2.nonempty hl
        obtain ⟨k0, u', k1, _⟩ := (D1_val hi vi).1 e0
        rw [src] at k1
        have k1' := k1.past hsi hxi
        refine (D1_val hi vi).2 ⟨k0, u', by rw [src]; exact k1', (D1_new hx cx).2 ⟨h0, F, h1.under hsx hix, h2.mono fun v σ' _ e1 => ?_⟩⟩
        obtain ⟨_, u2, m1, m2⟩ := (D1_val hi vi).1 e1
        rw [src] at m1
        obtain rfl := (m1.past hsi hxi).uniq k1'
        exact flip _ _ _ _ m2
      · have hg := (D1_gen hx x0 cx x3).1 h
        obtain ⟨v, σ', e0⟩ := hg.nonempty hl
        obtain ⟨k0, u', k1, _⟩ := (D1_val hi vi).1 e0
        rw [src] at k1
        have k1' := k1.past hsi hxi
        refine (D1_val hi vi).2 ⟨k0, u', by rw [src]; exact k1', (D1_gen hx x0 cx x3).2 ?_⟩
        refine hg.under hsx hix fun v σ' e1 => ?_
        obtain ⟨_, u2, m1, m2⟩ := (D1_val hi vi).1 e1
        rw [src] at m1
        obtain rfl := (m1.past hsi hxi).uniq k1'
        exact flip _ _ _ _ m2
    · have c1 : cl i = 1 := by
        rcases hcl with ((h | h) | h) | h
        · exact absurd h x0
        · exact absurd h c0
        · exact h
        · exact absurd h.1 x3
      by_cases cx : cl x = 1
      · obtain ⟨h0, F, h1, h2⟩ := (D1_new hx cx).1 h
        obtain ⟨v0, s0, e0⟩ := h2.nonempty hl
        obtain ⟨k0, F', k1, _⟩ := (D1_new hi c1).1 e0
        have k1' := k1.past hsi hxi
        have h3 : NQ ro F σ fun v σ1 => NQ ro F' σ1 fun u σ2 => K (putF ox.dst v (putF oi.dst u fr)) σ2 := h2.mono fun v σ1 _ e1 => by
          obtain ⟨_, F2, m1, m2⟩ := (D1_new hi c1).1 e1
          exact ((m1.past hsi hxi).trans k1' m2).map fun u σ2 hk => flip _ _ _ _ hk
        exact (D1_new hi c1).2 ⟨k0, F', k1', (NQ.comm h3).map fun u σ1 hk => (D1_new hx cx).2 ⟨h0, F, h1.under hsx hix, hk⟩⟩
      · have hg := (D1_gen hx x0 cx x3).1 h
        obtain ⟨v, σ', e0⟩ := hg.nonempty hl
        obtain ⟨k0, F', k1, _⟩ := (D1_new hi c1).1 e0
        have k1' := k1.past hsi hxi
        refine (D1_new hi c1).2 ⟨k0, F', k1', ?_⟩
        cases F' with
        | none =>
          refine (D1_gen hx x0 cx x3).2 (hg.under hsx hix fun v σ2 e1 => ?_)
          obtain ⟨_, F2, m1, m2⟩ := (D1_new hi c1).1 e1
          exact flip _ _ _ _ ((m1.past hsi hxi).trans k1' m2)
        | some G =>
          intro n b hb hs
          refine (D1_gen hx x0 cx x3).2 ?_
          rw [upd_single hs]
          refine (hg.frame (Disj.single hs (G n).1)).under hsx hix fun v σ2 e1 => ?_
          obtain ⟨τ, rfl, hdj, e1⟩ := e1
          obtain ⟨_, F2, m1, m2⟩ := (D1_new hi c1).1 e1
          have m3 := (m1.past hsi hxi).trans k1' m2
          have hτ : τ b = none := by
            cases e : τ b with
            | none => rfl
            | some y => have := hdj b y e; simp [single] at this
          rw [← upd_single hτ]
          exact flip _ _ _ _ (m3 n b hb hτ)

theorem extract {cl : Nat → Nat} {K : Fr → AH → Prop} (hK : Closed K) {i : Nat} (post : List Nat) : ∀ (pre : List Nat) {fr : Fr} {σ : AH}, (∀ x ∈ pre, swapOk ops cl x i = true) → Live B ro σ →
    DOps P B ro N ops cl K (pre ++ i :: post) fr σ → DOps P B ro N ops cl K (i :: (pre ++ post)) fr σ := by
  intro pre
  induction pre with
  | nil => intro fr σ _ _ h; exact h
  | cons x pre ih =>
    intro fr σ hs hl h
    have h2 : D1 P B ro N ops cl x (DOps P B ro N ops cl K (i :: (pre ++ post))) fr σ := D1.mono hl (fun fr σ hl h => ih (fun y hy => hs y (List.mem_cons_of_mem _ hy)) hl h) h
    exact swap (hs x (List.mem_cons_self ..)) (DOps.closed hK _) hl h2

/-! the edges -/
def bound (o : Oper) : List Nat := (o.after.toList.filter fun e => Region.binds .any e).map (·.on)
def edgesOf (ops : Array Oper) (i : Nat) : List Nat := match ops[i]? with | some o => bound o | none => []
/-- 'anc': pairs that are ordered through others: each is held by an edge. -/
def ancOk (ops : Array Oper) (anc : List (Nat × Nat)) : Bool := anc.all fun p => (edgesOf ops p.2).any fun e => e == p.1 || anc.contains (p.1, e)
def chk (ops : Array Oper) (cl : Nat → Nat) (anc : List (Nat × Nat)) : List Nat → Bool
  | [] => true
  | x :: rest => (edgesOf ops x).all (fun e => e < x && !(x :: rest).contains e) && !rest.contains x && decide (x < ops.size) &&
      rest.all (fun i => swapOk ops cl x i || (edgesOf ops i).contains x || anc.contains (x, i)) && chk ops cl anc rest
def full (n : Nat) (l : List Nat) : Bool := (List.range n).all fun i => l.contains i

theorem ready_iff {listed : Array Bool} {i : Nat} : i ∈ Region.ready .any ops listed ↔ i < ops.size ∧ listed.getD i true = false ∧ ∃ o, ops[i]? = some o ∧ ∀ e ∈ bound o, listed.getD e false = true := by
  unfold Region.ready bound
  simp only [List.mem_filter, List.mem_range, Bool.and_eq_true, Bool.not_eq_true', List.mem_map, forall_exists_index, and_imp]
  constructor
  · rintro ⟨h1, h2, h3⟩
    cases ho : ops[i]? with
    | none => rw [ho] at h3; simp at h3
    | some o =>
      rw [ho] at h3
      simp only [Option.map_some, Option.getD_some, Array.all_eq_true', Bool.or_eq_true, Bool.not_eq_true'] at h3
      refine ⟨h1, h2, o, rfl, ?_⟩
      rintro x e he hb rfl
      rcases h3 e (by simpa using he) with h | h
      · rw [hb] at h; cases h
      · exact h
  · rintro ⟨h1, h2, o, ho, h3⟩
    refine ⟨h1, h2, ?_⟩
    rw [ho]
    simp only [Option.map_some, Option.getD_some, Array.all_eq_true', Bool.or_eq_true, Bool.not_eq_true']
    intro e he
    cases hb : Region.binds .any e with
    | false => exact .inl rfl
    | true => exact .inr (h3 e.on e (by simpa using he) hb rfl)

theorem anc_listed {anc : List (Nat × Nat)} (ha : ancOk ops anc = true) (hlt : ∀ i, ∀ e ∈ edgesOf ops i, e < i) {L : Nat → Prop} (hc : ∀ i, L i → ∀ e ∈ edgesOf ops i, L e) (x : Nat) :
    ∀ i, (∀ e ∈ edgesOf ops i, L e) → (x, i) ∈ anc → L x := by
  intro i
  induction i using Nat.strongRecOn with
  | _ i ih =>
    intro hi hm
    have := List.all_eq_true.1 ha _ hm
    obtain ⟨e, he, h⟩ := List.any_eq_true.1 this
    simp only [Bool.or_eq_true, beq_iff_eq, List.contains_iff_mem] at h
    have hle := hi e he
    rcases h with h | h
    · rw [← h]; exact hle
    · exact ih e (hlt i e he) (hc e hle) h

theorem chk_lt {cl : Nat → Nat} {anc : List (Nat × Nat)} {l : List Nat} (h : chk ops cl anc l = true) : ∀ i ∈ l, i < ops.size ∧ ∀ e ∈ edgesOf ops i, e < i := by
  induction l with
  | nil => intro i hi; cases hi
  | cons x rest ih =>
    simp only [chk, Bool.and_eq_true, decide_eq_true_eq] at h
    obtain ⟨⟨⟨⟨h1, h2⟩, h3⟩, h4⟩, h5⟩ := h
    intro i hi
    rcases List.mem_cons.1 hi with rfl | hi
    · refine ⟨h3, fun e he => ?_⟩
      have := List.all_eq_true.1 h1 e he
      simp only [Bool.and_eq_true, decide_eq_true_eq] at this
      exact this.1
    · exact ih h5 i hi

theorem drawn_sound {cl : Nat → Nat} {anc : List (Nat × Nat)} (ha : ancOk ops anc = true) (hlt : ∀ i, ∀ e ∈ edgesOf ops i, e < i) {Q : Exit → Fr → AH → Prop} (hK : Closed (Q .normal)) {φ : AH} :
    ∀ (n : Nat) (l : List Nat) (listed : Array Bool) {fr : Fr} {σ : AH} {a : Act} {w : World}, l.length = n → listed.size = ops.size → chk ops cl anc l = true →
      (∀ i, i < ops.size → (listed.getD i true = false ↔ i ∈ l)) → (∀ i, i < ops.size → i ∉ l → ∀ e ∈ edgesOf ops i, e ∉ l) →
      DOps P B ro N ops cl (Q .normal) l fr σ → Own B ro φ σ w → Fits N fr a → wpAny P .any ops (lift B ro N φ Q) n listed a w := by
  intro n
  induction n with
  | zero =>
    intro l listed fr σ a w hn hsz hc hli hcl h ho hf
    obtain rfl : l = [] := List.length_eq_zero_iff.1 hn
    refine ⟨?_, fr, σ, h, ho, hf⟩
    cases hr : Region.ready .any ops listed with
    | nil => rfl
    | cons i r =>
      have hm : i ∈ Region.ready .any ops listed := by rw [hr]; exact List.mem_cons_self ..
      obtain ⟨h1, h2, _⟩ := ready_iff.1 hm
      exact absurd ((hli i h1).1 h2) (by simp)
  | succ n ih =>
    intro l listed fr σ a w hn hsz hc hli hcl h ho hf
    have hlist : ∀ e, e < ops.size → e ∉ l → listed.getD e false = true := by
      intro e he hne
      have h1 : ¬ listed.getD e true = false := fun q => hne ((hli e he).1 q)
      have hlt' : e < listed.size := by omega
      simp only [Array.getD_eq_getD_getElem?, Array.getElem?_eq_getElem hlt', Option.getD_some] at h1 ⊢
      simpa using h1
    refine ⟨?_, ?_⟩
    · intro hr
      exfalso
      cases l with
      | nil => simp at hn
      | cons x rest =>
        have hx := chk_lt hc x (List.mem_cons_self ..)
        have : x ∈ Region.ready .any ops listed := by
          refine ready_iff.2 ⟨hx.1, (hli x hx.1).2 (List.mem_cons_self ..), ops[x], by simp [hx.1], ?_⟩
          intro e he
          have he' : e ∈ edgesOf ops x := by simp [edgesOf, hx.1]; exact he
          simp only [chk, Bool.and_eq_true] at hc
          have h1 := List.all_eq_true.1 hc.1.1.1.1 e he'
          simp only [Bool.and_eq_true, decide_eq_true_eq, Bool.not_eq_true', List.contains_iff_mem, ← Bool.not_eq_true] at h1
          exact hlist e (by have := h1.1; omega) h1.2
        rw [hr] at this; cases this
    · intro i hi
      obtain ⟨h1, h2, o, hoi, h3⟩ := ready_iff.1 hi
      have hil := (hli i h1).1 h2
      obtain ⟨pre, post, rfl⟩ := List.append_of_mem hil
      have hedge : ∀ e ∈ edgesOf ops i, e ∉ pre ++ i :: post := by
        intro e he hm
        have he2 : e ∈ bound o := by simpa [edgesOf, hoi] using he
        have h4 := h3 e he2
        have hlt' := (chk_lt hc e hm).1
        have := (hli e hlt').2 hm
        have hs : e < listed.size := by omega
        simp only [Array.getD_eq_getD_getElem?, Array.getElem?_eq_getElem hs, Option.getD_some] at this h4
        rw [this] at h4; cases h4
      -- all that stand ahead of i may be passed
      have hpass : ∀ x ∈ pre, swapOk ops cl x i = true := by
        have gen : ∀ (p : List Nat), chk ops cl anc (p ++ i :: post) = true → ∀ x ∈ p, swapOk ops cl x i = true ∨ x ∈ edgesOf ops i ∨ (x, i) ∈ anc := by
          intro p
          induction p with
          | nil => intro _ x hx; cases hx
          | cons y p ihp =>
            intro hc x hx
            simp only [List.cons_append, chk, Bool.and_eq_true] at hc
            rcases List.mem_cons.1 hx with rfl | hx
            · have := List.all_eq_true.1 hc.1.2 i (by simp)
              simp only [Bool.or_eq_true, List.contains_iff_mem] at this
              rcases this with (h | h) | h
              · exact .inl h
              · exact .inr (.inl h)
              · exact .inr (.inr h)
            · exact ihp hc.2 x hx
        intro x hx
        have hxm : x ∈ pre ++ i :: post := List.mem_append_left _ hx
        rcases gen pre hc x hx with h | h | h
        · exact h
        · exact absurd hxm (hedge x h)
        · have hcl' : ∀ j, (j < ops.size → j ∉ pre ++ i :: post) → ∀ e ∈ edgesOf ops j, (e < ops.size → e ∉ pre ++ i :: post) := by
            intro j hj e he hes
            by_cases hjs : j < ops.size
            · exact hcl j hjs (hj hjs) e he
            · simp [edgesOf, Array.getElem?_eq_none (Nat.le_of_not_lt hjs)] at he
          exact absurd hxm (anc_listed (L := fun j => j < ops.size → j ∉ pre ++ i :: post) ha hlt hcl' x i (fun e he _ => hedge e he) h (chk_lt hc x hxm).1)
      have hd := extract (P := P) (B := B) (N := N) hK post pre hpass ⟨φ, w, ho⟩ h
      -- the list that is left
      have hnd : i ∉ pre ++ post := by
        have : (pre ++ i :: post).Nodup := by
          have gen : ∀ l : List Nat, chk ops cl anc l = true → l.Nodup := by
            intro l
            induction l with
            | nil => intro _; exact List.nodup_nil
            | cons y r ihr =>
              intro hc
              simp only [chk, Bool.and_eq_true, Bool.not_eq_true'] at hc
              refine List.nodup_cons.2 ⟨?_, ihr hc.2⟩
              have := hc.1.1.1.2
              intro hm; rw [List.contains_iff_mem.2 hm] at this; cases this
          exact gen _ hc
        have := (List.perm_middle (a := i) (l₁ := pre) (l₂ := post)).nodup_iff.1 this
        exact (List.nodup_cons.1 this).1
      have hc' : chk ops cl anc (pre ++ post) = true := by
        have gen : ∀ (p : List Nat), chk ops cl anc (p ++ i :: post) = true → chk ops cl anc (p ++ post) = true := by
          intro p
          induction p with
          | nil => intro hc; simp only [List.nil_append, chk, Bool.and_eq_true] at hc; exact hc.2
          | cons y p ihp =>
            intro hc
            simp only [List.cons_append, chk, Bool.and_eq_true] at hc ⊢
            obtain ⟨⟨⟨⟨c1, c2⟩, c3⟩, c4⟩, c5⟩ := hc
            refine ⟨⟨⟨⟨?_, ?_⟩, c3⟩, ?_⟩, ihp c5⟩
            · refine List.all_eq_true.2 fun e he => ?_
              have := List.all_eq_true.1 c1 e he
              simp only [Bool.and_eq_true, Bool.not_eq_true', ← Bool.not_eq_true, List.contains_iff_mem] at this ⊢
              refine ⟨this.1, fun hm => this.2 ?_⟩
              simp only [List.mem_cons, List.mem_append] at hm ⊢
              rcases hm with h | h | h
              · exact .inl h
              · exact .inr (.inl h)
              · exact .inr (.inr (.inr h))
            · simp only [Bool.not_eq_true', ← Bool.not_eq_true, List.contains_iff_mem] at c2 ⊢
              intro hm; apply c2
              simp only [List.mem_append, List.mem_cons] at hm ⊢
              exact hm.imp id .inr
            · refine List.all_eq_true.2 fun j hj => List.all_eq_true.1 c4 j ?_
              simp only [List.mem_append, List.mem_cons] at hj ⊢
              exact hj.imp id .inr
        exact gen pre hc
      have hmem : ∀ j, j ∈ pre ++ post ↔ j ∈ pre ++ i :: post ∧ j ≠ i := by
        intro j
        simp only [List.mem_append, List.mem_cons]
        constructor
        · intro (hh : j ∈ pre ∨ j ∈ post)
          refine ⟨hh.imp id .inr, fun e => ?_⟩
          subst e; exact hnd (List.mem_append.2 hh)
        · rintro ⟨h | h | h, hne⟩
          · exact .inl h
          · exact absurd h hne
          · exact .inr h
      have hlen : (pre ++ post).length = n := by simp at hn ⊢; omega
      have hset : ∀ j, j < ops.size → ((listed.setIfInBounds i true).getD j true = false ↔ j ∈ pre ++ post) := by
        intro j hj
        rw [hmem]
        by_cases e : j = i
        · subst e
          have : j < listed.size := by omega
          simp [Array.getD_eq_getD_getElem?, this]
        · rw [Region_getD_set e]
          constructor
          · intro h; exact ⟨(hli j hj).1 h, e⟩
          · intro h; exact (hli j hj).2 h.1
      have hcl2 : ∀ j, j < ops.size → j ∉ pre ++ post → ∀ e ∈ edgesOf ops j, e ∉ pre ++ post := by
        intro j hj hjn e he hm
        have hm' := ((hmem e).1 hm).1
        by_cases e' : j = i
        · subst e'; exact hedge e he hm'
        · exact hcl j hj (fun hh => hjn ((hmem j).2 ⟨hh, e'⟩)) e he hm'
      have kont : ∀ fr σ a w, DOps P B ro N ops cl (Q .normal) (pre ++ post) fr σ → Own B ro φ σ w → Fits N fr a → wpAny P .any ops (lift B ro N φ Q) n (listed.setIfInBounds i true) a w :=
        fun fr σ a w hk ho hf => ih (pre ++ post) _ hlen (by simpa using hsz) hc' hset hcl2 hk ho hf
      exact D1.sound hoi hd ho hf kont
where
  Region_getD_set {listed : Array Bool} {i j : Nat} (h : j ≠ i) : (listed.setIfInBounds i true).getD j true = listed.getD j true := by
    simp only [Array.getD_eq_getD_getElem?]
    rw [Array.getElem?_setIfInBounds, if_neg (fun q => h q.symm)]
  D1.sound {cl : Nat → Nat} {i : Nat} {o : Oper} (hoi : ops[i]? = some o) {K : Fr → AH → Prop} {fr : Fr} {σ φ : AH} {a : Act} {w : World} {Q' : Exit → Act → World → Prop} {next : Act → World → Prop}
      (h : D1 P B ro N ops cl i K fr σ) (ho : Own B ro φ σ w) (hf : Fits N fr a) (hk : ∀ fr σ a w, K fr σ → Own B ro φ σ w → Fits N fr a → next a w) : wpOp P ops Q' i next a w := by
    have step : AStep P B ro N ops o K fr σ → wpOp P ops Q' i next a w := by
      rintro ⟨hd, h⟩
      unfold wpOp
      rw [hoi]
      dsimp only
      cases hg : o.guard with
      | none =>
        rw [hg] at h
        rw [if_pos (by simp [Region.wanted, hg])]
        exact .inl (AExec.sound h hd ho hf hk)
      | some g =>
        obtain ⟨j, want⟩ := g
        rw [hg] at h
        obtain ⟨t, v, ht, hl, h⟩ := h
        have hy := yielded_eq hf ht hl
        rcases h with ⟨rfl, h⟩ | ⟨hv, h⟩
        · rw [if_pos (by simp [Region.wanted, hg, hy])]
          exact .inl (AExec.sound h hd ho hf hk)
        · rw [if_neg (by
            simp only [Region.wanted, hg, hy]
            cases v <;> simp
            rename_i b; intro e; subst e; exact hv rfl)]
          exact hk _ _ _ _ h ho (hf.put hd undef)
    have val : ∀ τ, HLe τ σ → dstOk N o.dst = true → ∀ u, RVal P ro τ ops o fr u → K (putF o.dst u fr) σ → wpOp P ops Q' i next a w := by
      intro τ hle h0 u h1 h2
      refine step ⟨h0, ?_⟩
      have pe : ReadEv P ro τ o fr u → AExec P B ro o K fr σ := fun he ρ hρ => awp_at_aread _ (aread_mono _ hle (he ρ hρ)) h2
      unfold RVal at h1
      split at h1
      · rename_i hg; try rw [hg]
        exact pe h1
      · rename_i hg
        try rw [hg]
        obtain ⟨t, v, g1, g2, g3⟩ := h1
        refine ⟨t, v, g1, g2, g3.imp (fun ⟨a, b⟩ => ⟨a, pe b⟩) ?_⟩
        rintro ⟨a, rfl⟩; exact ⟨a, h2⟩
    unfold D1 at h
    rw [hoi] at h
    dsimp only at h
    split at h
    · obtain ⟨h0, u, h1, h2⟩ := h
      exact val none' (fun _ _ e => by cases e) h0 u h1 h2
    · obtain ⟨h0, u, h1, h2⟩ := h
      exact val σ (HLe.refl _) h0 u h1 h2
    · obtain ⟨h0, F, h1, h2⟩ := h
      refine step ⟨h0, ?_⟩
      unfold NVal at h1
      split at h1
      · rename_i hg; try rw [hg]
        obtain ⟨G, rfl, h1⟩ := h1
        exact fun ρ hρ => (h1 ρ hρ _ σ).2 h2
      · rename_i hg
        try rw [hg]
        obtain ⟨t, v, g1, g2, g3⟩ := h1
        refine ⟨t, v, g1, g2, ?_⟩
        rcases g3 with ⟨a, G, rfl, b⟩ | ⟨a, rfl⟩
        · exact .inl ⟨a, fun ρ hρ => (b ρ hρ _ σ).2 h2⟩
        · exact .inr ⟨a, h2⟩
    · exact step h

/-- A region that draws its order, proved in the order 'l': 'cl' tells the kind of each operation (0: it reads what is lent, or nothing; 1: it makes memory; 2: any other). 'ψ' is lent while the region runs. -/
theorem AW.drawn {id : Nat} {Q : Exit → Fr → AH → Prop} {fr : Fr} {ψ σ : AH} (cl : Nat → Nat) (anc : List (Nat × Nat)) (l : List Nat) (hm : P.follows .mixedOrders = true) (hd : Disj ψ σ)
    (hc : (chk ops cl anc l && ancOk ops anc && full ops.size l && (l.length == ops.size)) = true)
    (h : DOps P B (join ro ψ) N ops cl (fun fr σ => ∃ fr', FrEq fr' fr ∧ (Disj ψ σ → Q .normal fr' (join ψ σ))) l fr σ) : AW P B ro N (.region id ops true) Q fr (join ψ σ) := by
  simp only [Bool.and_eq_true, beq_iff_eq] at hc
  obtain ⟨⟨⟨c1, c2⟩, c3⟩, c4⟩ := hc
  intro φ w a ho hf
  refine wp_region_any hm ?_
  have hp : ∀ b o, ψ b = some o → φ b = none ∧ ro b = none := fun b o hs => (ho.own b o (join_left hs)).2
  have hall : ∀ i, i < ops.size → i ∈ l := fun i hi => List.contains_iff_mem.1 (List.all_eq_true.1 c3 i (List.mem_range.2 hi))
  have hlt : ∀ i, ∀ e ∈ edgesOf ops i, e < i := by
    intro i e he
    by_cases hi : i < ops.size
    · exact (chk_lt c1 i (hall i hi)).2 e he
    · simp [edgesOf, Array.getElem?_eq_none (Nat.le_of_not_lt hi)] at he
  have hw : Own B (join ro ψ) φ σ { w with drawn := w.drawn + 1 } := (ho.lend hd).drawn _
  have := drawn_sound (P := P) (B := B) (ro := join ro ψ) (N := N) (ops := ops) (cl := cl) (anc := anc) c2 hlt
    (Q := fun e fr σ => e = .normal ∧ ∃ fr', FrEq fr' fr ∧ (Disj ψ σ → Q .normal fr' (join ψ σ)))
    (fun fr fr' σ he ⟨h0, fr2, h1, h2⟩ => ⟨h0, fr2, fun i => (h1 i).trans (he i), h2⟩) (φ := φ) ops.size l (Array.replicate ops.size false)
    (w := { w with drawn := w.drawn + 1 }) (a := a) (fr := fr) (σ := σ) c4 (by simp) c1
    (fun i hi => ⟨fun _ => hall i hi, fun _ => by simp [hi]⟩) (fun i hi hn => absurd (hall i hi) hn) ?_ hw hf
  · refine wpAny_post ?_ _ _ this
    rintro e a' w' ⟨fr', σ', ⟨rfl, fr2, he, hq⟩, ho', hf'⟩
    obtain ⟨g1, g2⟩ := ho'.unlend hp
    exact ⟨fr2, _, hq g2, g1, ⟨hf'.size, hf'.defers, fun i v hi => hf'.has i v (by rw [← he i]; exact hi)⟩⟩
  · refine DOps_post ?_ l h
    intro fr σ hk; exact ⟨rfl, hk⟩
where
  LetsOut_post {Q Q' : Exit → Act → World → Prop} (h : ∀ e a w, Q e a w → Q' e a w) : LetsOut Q → LetsOut Q' := fun ⟨a, w, q⟩ => ⟨a, w, h _ _ _ q⟩
  wpOp_post {Q Q' : Exit → Act → World → Prop} (h : ∀ e a w, Q e a w → Q' e a w) {i : Nat} {K K' : Act → World → Prop} (hk : ∀ a w, K a w → K' a w) {a : Act} {w : World} (hx : wpOp P ops Q i K a w) : wpOp P ops Q' i K' a w := by
    unfold wpOp at *
    split
    · exact hk _ _ (by simpa [*] using hx)
    · rename_i o ho'
      simp only [ho'] at hx
      split
      · rename_i hw'; simp only [hw', if_true] at hx
        refine hx.imp ?_ (fun ⟨p, q⟩ => ⟨p, LetsOut_post h q⟩)
        intro hx
        unfold Oper.wp at *
        generalize (execOp a.eval o).run P w = r at *
        cases r with
        | ok n w' =>
          cases n <;> simp only [Oper.upon] at hx ⊢ <;>
            first
              | exact hk _ _ hx
              | exact Calls.mono hx (fun e w'' he => by cases e <;> first | exact hk _ _ he | exact h _ _ _ he | exact LetsOut_post h he)
              | exact Rows.mono hx (fun _ _ he => hk _ _ he)
        | halt x w' => cases x <;> simp only [Oper.upon] at hx ⊢ <;> first | exact h _ _ _ hx | exact hx
      · rename_i hw'; simp only [hw'] at hx; exact hk _ _ hx
  wpAny_post {Q Q' : Exit → Act → World → Prop} (h : ∀ e a w, Q e a w → Q' e a w) : ∀ (n : Nat) (listed : Array Bool) {a : Act} {w : World}, wpAny P .any ops Q n listed a w → wpAny P .any ops Q' n listed a w := by
    intro n
    induction n with
    | zero => intro listed a w hx; exact ⟨hx.1, h _ _ _ hx.2⟩
    | succ n ih => intro listed a w hx; exact ⟨fun e => h _ _ _ (hx.1 e), fun i hi => wpOp_post h (fun a w => ih _) (hx.2 i hi)⟩
  DOps_post {ro : AH} {cl : Nat → Nat} {K K' : Fr → AH → Prop} (h : ∀ fr σ, K fr σ → K' fr σ) : ∀ (l : List Nat) {fr : Fr} {σ : AH}, DOps P B ro N ops cl K l fr σ → DOps P B ro N ops cl K' l fr σ := by
    intro l
    induction l with
    | nil => intro fr σ hx; exact h _ _ hx
    | cons i r ih =>
      intro fr σ hx
      unfold DOps D1 at hx ⊢
      split at hx
      · exact hx
      · split at hx
        · obtain ⟨h0, u, h1, h2⟩ := hx; exact ⟨h0, u, h1, ih h2⟩
        · obtain ⟨h0, u, h1, h2⟩ := hx; exact ⟨h0, u, h1, ih h2⟩
        · obtain ⟨h0, F, h1, h2⟩ := hx; exact ⟨h0, F, h1, h2.map fun v σ hk => ih hk⟩
        · exact hx.mono fun fr σ => ih
end
end Go.Proofs.YtomdigihapdhnaaGreatDoor.SL
