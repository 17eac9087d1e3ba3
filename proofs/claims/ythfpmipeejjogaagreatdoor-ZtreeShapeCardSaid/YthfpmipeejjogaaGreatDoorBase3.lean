/- The base, third part: a region that draws its order: proved in one order, true in every order that its edges allow. Generic over any program. -/
import Derived.Test.YthfpmipeejjogaaGreatDoorBase2
namespace Go.Proofs.YthfpmipeejjogaaGreatDoor.SL
open Go

/-! ### 8. More on the weakest precondition: what is beside; that there is an outcome -/
theorem rd_join {ro σ ψ : AH} {b : Nat} {o : Obj} (h : rd ro σ b = some o) : rd ro (join σ ψ) b = some o := by
  unfold rd at h ⊢
  split
  · rename_i x e; rw [e] at h; exact h
  · rename_i e; rw [e] at h; exact join_left h
theorem acell_join {ro σ ψ : AH} {a : Addr} {v : Value} (h : acell ro σ a = some v) : acell ro (join σ ψ) a = some v := by
  unfold acell at h ⊢
  cases hb : rd ro σ a.block with
  | none => rw [hb] at h; simp [cellOf] at h
  | some o => rw [rd_join hb, ← hb]; exact h
theorem upd_join {σ ψ : AH} (b : Nat) (o : Obj) : upd (join σ ψ) b o = join (upd σ b o) ψ := by
  funext i
  by_cases h : i = b <;> simp [upd, join, h]
theorem Disj.upd {σ ψ : AH} {b : Nat} (hd : Disj σ ψ) (h : ψ b = none) (o : Obj) : Disj (SL.upd σ b o) ψ := by
  intro i x hx
  unfold SL.upd at hx
  split at hx
  · rename_i e; subst e; exact h
  · exact hd i x hx
theorem awp_frame {α : Type} {P : Program} {ro ψ : AH} (s : Sem α) : ∀ {Q : α → AH → Prop} {σ : AH}, awp P ro s Q σ → Disj σ ψ →
    awp P ro s (fun a σ' => ∃ τ, σ' = join τ ψ ∧ Disj τ ψ ∧ Q a τ) (join σ ψ) := by
  induction s with
  | pure a => intro Q σ h hd; exact ⟨σ, rfl, hd, h⟩
  | load m a k ih => intro Q σ h hd; obtain ⟨v, hc, h⟩ := h; exact ⟨v, acell_join hc, ih v h hd⟩
  | store m a v k ih =>
    intro Q σ h hd
    obtain ⟨hv, hsp, c, e, fz, hs, hoff, hfz, h⟩ := h
    refine ⟨hv, hsp, c, e, fz, join_left hs, hoff, hfz, ?_⟩
    rw [upd_join]; exact ih h (hd.upd (hd _ _ hs) _)
  | new o k ih =>
    intro Q σ h hd b hb hs
    obtain ⟨h1, h2⟩ := join_none hs
    rw [upd_join]; exact ih b (h b hb h1) (hd.upd h2 _)
  | shape r k ih => intro Q σ h hd; obtain ⟨o, hr, h⟩ := h; exact ⟨o, rd_join hr, ih _ h hd⟩
  | freeze a n k ih =>
    intro Q σ h hd
    obtain ⟨hn, o, hs, h⟩ := h
    refine ⟨hn, o, join_left hs, ?_⟩
    rw [upd_join]; exact ih h (hd.upd (hd _ _ hs) _)
  | frozen a k ih => intro Q σ h hd; obtain ⟨o, hr, h⟩ := h; exact ⟨o, rd_join hr, ih _ h hd⟩
  | getObj r k ih => intro Q σ h hd; obtain ⟨o, hr, hi, h⟩ := h; exact ⟨o, rd_join hr, hi, ih _ h hd⟩
  | setObj r o k ih =>
    intro Q σ h hd
    obtain ⟨o', hs, hi, h⟩ := h
    refine ⟨o', join_left hs, hi, ?_⟩
    rw [upd_join]; exact ih h (hd.upd (hd _ _ hs) _)
  | choose q k ih =>
    intro Q σ h hd
    simp only [awp] at h ⊢
    split
    · rename_i e; rw [if_pos e] at h; exact ih _ h hd
    · rename_i e; rw [if_neg e] at h; intro n; exact ih _ (h n) hd
  | sys c k ih => intro Q σ h; exact h.elim
  | program k ih => intro Q σ h hd; exact ih _ h hd
  | mark m k ih => intro Q σ h hd; exact ih h hd
  | halt e => intro Q σ h; exact h.elim

/-- The heap lies in a world. -/
def Live (B : World) (ro σ : AH) : Prop := ∃ φ w, Own B ro φ σ w
theorem padTo (H : Array Obj) (b : Nat) (o : Obj) : ∃ H' : Array Obj, H'[b]? = some o ∧ ∀ i, i ≠ b → i < H.size → H'[i]? = H[i]? := by
  by_cases h : b < H.size
  · exact ⟨H.setIfInBounds b o, by simp [h], fun i hi _ => by rw [Array.getElem?_setIfInBounds, if_neg (by omega)]⟩
  · refine ⟨(H ++ Array.replicate (b - H.size) o).push o, ?_, ?_⟩
    · have : (H ++ Array.replicate (b - H.size) o).size = b := by simp; omega
      rw [Array.getElem?_push, if_pos this.symm]
    · intro i hi hlt
      have : (H ++ Array.replicate (b - H.size) o).size = b := by simp; omega
      rw [Array.getElem?_push, if_neg (by omega), Array.getElem?_append, if_pos hlt]
theorem Live.upd {B : World} {ro σ : AH} (h : Live B ro σ) {b : Nat} (hr : ro b = none) (o : Obj) : Live B ro (SL.upd σ b o) := by
  obtain ⟨φ, w, h⟩ := h
  obtain ⟨H', h1, h2⟩ := padTo w.heap b o
  refine ⟨fun _ => none, { w with heap := H' }, h.os, h.tape, h.output, ?_, fun _ _ e => (by cases e), ?_⟩
  · intro i x hx
    unfold SL.upd at hx
    split at hx
    · rename_i e; subst e; cases hx; exact ⟨h1, rfl, hr⟩
    · rename_i ne
      obtain ⟨g1, _, g3⟩ := h.own i x hx
      exact ⟨by show H'[i]? = _; rw [h2 i ne (lt_of_block g1)]; exact g1, rfl, g3⟩
  · intro i x hx
    have g := h.ro i x hx
    have : i ≠ b := by intro e; subst e; rw [hr] at hx; cases hx
    show H'[i]? = _; rw [h2 i this (lt_of_block g)]; exact g
theorem Live.ro_of {B : World} {ro σ : AH} (h : Live B ro σ) {b : Nat} {o : Obj} (hs : σ b = some o) : ro b = none := by
  obtain ⟨φ, w, h⟩ := h; exact (h.own b o hs).2.2
theorem awp_live {α : Type} {P : Program} {B : World} {ro : AH} (s : Sem α) : ∀ {Q : α → AH → Prop} {σ : AH}, awp P ro s Q σ → Live B ro σ → awp P ro s (fun a σ' => Q a σ' ∧ Live B ro σ') σ := by
  induction s with
  | pure a => intro Q σ h hl; exact ⟨h, hl⟩
  | load m a k ih => intro Q σ h hl; obtain ⟨v, hc, h⟩ := h; exact ⟨v, hc, ih v h hl⟩
  | store m a v k ih => intro Q σ h hl; obtain ⟨hv, hsp, c, e, fz, hs, hoff, hfz, h⟩ := h; exact ⟨hv, hsp, c, e, fz, hs, hoff, hfz, ih h (hl.upd (hl.ro_of hs) _)⟩
  | new o k ih => intro Q σ h hl b hb hs; exact ih b (h b hb hs) (hl.upd hb _)
  | shape r k ih => intro Q σ h hl; obtain ⟨o, hr, h⟩ := h; exact ⟨o, hr, ih _ h hl⟩
  | freeze a n k ih => intro Q σ h hl; obtain ⟨hn, o, hr, h⟩ := h; exact ⟨hn, o, hr, ih h (hl.upd (hl.ro_of hr) _)⟩
  | frozen a k ih => intro Q σ h hl; obtain ⟨o, hr, h⟩ := h; exact ⟨o, hr, ih _ h hl⟩
  | getObj r k ih => intro Q σ h hl; obtain ⟨o, hr, hi, h⟩ := h; exact ⟨o, hr, hi, ih _ h hl⟩
  | setObj r o k ih => intro Q σ h hl; obtain ⟨o', hr, hi, h⟩ := h; exact ⟨o', hr, hi, ih h (hl.upd (hl.ro_of hr) _)⟩
  | choose q k ih =>
    intro Q σ h hl
    simp only [awp] at h ⊢
    split
    · rename_i e; rw [if_pos e] at h; exact ih _ h hl
    · rename_i e; rw [if_neg e] at h; intro n; exact ih _ (h n) hl
  | sys c k ih => intro Q σ h; exact h.elim
  | program k ih => intro Q σ h hl; exact ih _ h hl
  | mark m k ih => intro Q σ h hl; exact ih h hl
  | halt e => intro Q σ h; exact h.elim

theorem ACalls.live {P : Program} {B : World} {ro : AH} {f : FuncId} {args : Array Value} {σ : AH} {Q : Value → AH → Prop} (h : ACalls P B ro f args σ Q) : ACalls P B ro f args σ fun v σ' => Q v σ' ∧ Live B ro σ' :=
  fun φ w ho => (h φ w ho).mono fun _ _ ⟨v, σ', e, q, o⟩ => ⟨v, σ', e, ⟨q, φ, _, o⟩, o⟩
theorem ACalls.nonempty {P : Program} {B : World} {ro : AH} {f : FuncId} {args : Array Value} {σ : AH} {Q : Value → AH → Prop} (h : ACalls P B ro f args σ Q) (hl : Live B ro σ) : ∃ v σ', Q v σ' := by
  obtain ⟨φ, w, ho⟩ := hl
  obtain ⟨_, _, _, ⟨v, σ', _, q, _⟩, _⟩ := h φ w ho []
  exact ⟨v, σ', q⟩

/-! ### 9. One operation, by its kind -/
def FrEq (fr fr' : Fr) : Prop := ∀ i, look fr i = look fr' i
def Closed (K : Fr → AH → Prop) : Prop := ∀ fr fr' σ, FrEq fr fr' → K fr σ → K fr' σ
theorem FrEq.symm {fr fr' : Fr} (h : FrEq fr fr') : FrEq fr' fr := fun i => (h i).symm
theorem FrEq.refl (fr : Fr) : FrEq fr fr := fun _ => rfl
theorem look_put {d : Tmp} {v : Value} {fr : Fr} {i : Nat} : look (putF (some d) v fr) i = if i = d then some v else look fr i := by
  simp only [putF, look]
  cases hb : Nat.beq i d with
  | true => have := Nat.eq_of_beq_eq_true hb; subst this; simp
  | false =>
    have hne : i ≠ d := by intro e; subst e; simp at hb
    simp [hne]
theorem FrEq.put {fr fr' : Fr} (h : FrEq fr fr') (d : Option Tmp) (v : Value) : FrEq (putF d v fr) (putF d v fr') := by
  cases d with
  | none => exact h
  | some d => intro i; simp only [look_put, h i]
theorem FrEq.comm {x y : Option Tmp} (h : ∀ d, x = some d → y ≠ some d) (v u : Value) (fr : Fr) : FrEq (putF x v (putF y u fr)) (putF y u (putF x v fr)) := by
  cases x with
  | none => exact FrEq.refl _
  | some d =>
    cases y with
    | none => exact FrEq.refl _
    | some e =>
      have hne : e ≠ d := fun q => h d rfl (by rw [q])
      intro i
      simp only [look_put]
      by_cases h1 : i = d
      · subst h1; rw [if_pos rfl, if_neg (fun q => hne q.symm), if_pos rfl]
      · rw [if_neg h1, if_neg h1]
theorem evalF_eq {fr fr' : Fr} (h : FrEq fr fr') (x : Operand) : evalF fr x = evalF fr' x := by
  cases x <;> simp [evalF]
  exact h _
theorem Agrees.eq {ρ : Operand → Value} {fr fr' : Fr} (h : Agrees ρ fr) (he : FrEq fr fr') : Agrees ρ fr' := fun x v hx => h x v (by rw [evalF_eq he]; exact hx)
def ofFr (fr : Fr) : Operand → Value := fun x => (evalF fr x).getD undef
theorem ofFr_agrees (fr : Fr) : Agrees (ofFr fr) fr := fun x v h => by simp [ofFr, h]

def ReadEv (P : Program) (ro τ : AH) (o : Oper) (fr : Fr) (u : Value) : Prop := ∀ ρ, Agrees ρ fr → aread P ro (execOp ρ o) τ = some (.value u)
/-- what the operation gives, read in the heap τ (or left out by its guard) -/
def RVal (P : Program) (ro τ : AH) (ops : Array Oper) (o : Oper) (fr : Fr) (u : Value) : Prop :=
  match o.guard with
  | none => ReadEv P ro τ o fr u
  | some (j, want) => ∃ t v, (ops[j]?).bind (·.dst) = some t ∧ look fr t = some v ∧ ((v = .bool want ∧ ReadEv P ro τ o fr u) ∨ (v ≠ .bool want ∧ u = undef))
abbrev none' : AH := fun _ => none
def PureEv (P : Program) (ro : AH) (o : Oper) (fr : Fr) (u : Value) : Prop := ∀ ρ, Agrees ρ fr → aread P ro (execOp ρ o) (fun _ => none) = some (.value u)
theorem PureEv.read {P : Program} {ro : AH} {o : Oper} {fr : Fr} {u : Value} (h : PureEv P ro o fr u) : ReadEv P ro none' o fr u := h
def newOf (P : Program) : Sem Next → Option (Obj × (Nat → Sem Next))
  | .new o k => some (o, k)
  | .program k => newOf P (k P)
  | .mark _ k => newOf P k
  | _ => none
def NewEv (P : Program) (ro : AH) (o : Oper) (fr : Fr) (ob : Obj) (mk : Nat → Value) : Prop := ∀ ρ, Agrees ρ fr → ∃ k, newOf P (execOp ρ o) = some (ob, k) ∧ ∀ b, aread P ro (k b) (fun _ => none) = some (.value (mk b))

section
variable {P : Program} {B : World} {ro : AH} {N : Nat} {ops : Array Oper}

theorem rd_none {ro σ : AH} {b : Nat} {o : Obj} (h : rd ro (fun _ => none) b = some o) : rd ro σ b = some o := by
  unfold rd at h ⊢
  split
  · rename_i x e; rw [e] at h; exact h
  · rename_i e; rw [e] at h; cases h
theorem acell_none {ro σ : AH} {a : Addr} {v : Value} (h : acell ro (fun _ => none) a = some v) : acell ro σ a = some v := by
  unfold acell at h ⊢
  cases hb : rd ro (fun _ => none) a.block with
  | none => rw [hb] at h; simp [cellOf] at h
  | some o => rw [rd_none hb, ← hb]; exact h
theorem awp_of_aread {α : Type} (s : Sem α) : ∀ {a : α} {Q : α → AH → Prop} {σ : AH}, aread P ro s (fun _ => none) = some a → (awp P ro s Q σ ↔ Q a σ) := by
  induction s with
  | pure x => intro a Q σ h; cases h; exact Iff.rfl
  | load m x k ih =>
    intro a Q σ h
    simp only [aread] at h
    cases hc : acell ro (fun _ => none) x with
    | none => rw [hc] at h; cases h
    | some v =>
      rw [hc] at h
      constructor
      · rintro ⟨v', hc', h'⟩
        rw [acell_none hc] at hc'; cases hc'
        exact (ih v h).1 h'
      · intro hq; exact ⟨v, acell_none hc, (ih v h).2 hq⟩
  | program k ih => intro a Q σ h; exact ih _ h
  | mark m k ih => intro a Q σ h; exact ih h
  | _ => intro a Q σ h; cases h
theorem aread_mono {α : Type} (s : Sem α) : ∀ {a : α} {σ σ' : AH}, HLe σ σ' → aread P ro s σ = some a → aread P ro s σ' = some a := by
  induction s with
  | pure x => intro a σ σ' _ h; exact h
  | load m x k ih =>
    intro a σ σ' hl h
    simp only [aread] at h ⊢
    cases hc : acell ro σ x with
    | none => rw [hc] at h; cases h
    | some v =>
      rw [hc] at h
      have : acell ro σ' x = some v := by
        unfold acell at hc ⊢
        cases hb : rd ro σ x.block with
        | none => rw [hb] at hc; simp [cellOf] at hc
        | some o =>
          have h2 : rd ro σ' x.block = some o := by
            unfold rd at hb ⊢
            split
            · rename_i y e; rw [e] at hb; exact hb
            · rename_i e; rw [e] at hb; exact hl _ _ hb
          rw [h2, ← hb]; exact hc
      rw [this]; exact ih v hl h
  | program k ih => intro a σ σ' hl h; exact ih _ hl h
  | mark m k ih => intro a σ σ' hl h; exact ih hl h
  | _ => intro a σ σ' hl h; cases h
theorem awp_at_aread {α : Type} (s : Sem α) : ∀ {a : α} {Q : α → AH → Prop} {σ : AH}, aread P ro s σ = some a → Q a σ → awp P ro s Q σ := by
  induction s with
  | pure x => intro a Q σ h hq; cases h; exact hq
  | load m x k ih =>
    intro a Q σ h hq
    simp only [aread] at h
    cases hc : acell ro σ x with
    | none => rw [hc] at h; cases h
    | some v => rw [hc] at h; exact ⟨v, hc, ih v h hq⟩
  | program k ih => intro a Q σ h hq; exact ih _ h hq
  | mark m k ih => intro a Q σ h hq; exact ih h hq
  | _ => intro a Q σ h hq; cases h
theorem awp_of_newOf (s : Sem Next) : ∀ {ob : Obj} {k : Nat → Sem Next} {Q : Next → AH → Prop} {σ : AH}, newOf P s = some (ob, k) → (awp P ro s Q σ ↔ ∀ b, ro b = none → σ b = none → awp P ro (k b) Q (upd σ b ob)) := by
  induction s with
  | new o k ih => intro ob k' Q σ h; simp only [newOf, Option.some.injEq, Prod.mk.injEq] at h; obtain ⟨rfl, rfl⟩ := h; exact Iff.rfl
  | program k ih => intro ob k' Q σ h; exact ih _ h
  | mark m k ih => intro ob k' Q σ h; exact ih h
  | _ => intro ob k' Q σ h; cases h

def D1 (P : Program) (B : World) (ro : AH) (N : Nat) (ops : Array Oper) (cl : Nat → Nat) (i : Nat) (K : Fr → AH → Prop) (fr : Fr) (σ : AH) : Prop :=
  match ops[i]? with
  | none => False
  | some o => match cl i with
    | 0 => dstOk N o.dst = true ∧ ∃ u, RVal P ro none' ops o fr u ∧ K (putF o.dst u fr) σ
    | 3 => dstOk N o.dst = true ∧ ∃ u, RVal P ro σ ops o fr u ∧ K (putF o.dst u fr) σ
    | 1 => dstOk N o.dst = true ∧ o.guard = none ∧ ∃ ob mk, NewEv P ro o fr ob mk ∧ ∀ b, ro b = none → σ b = none → K (putF o.dst (mk b) fr) (upd σ b ob)
    | _ => AStep P B ro N ops o K fr σ
def DOps (P : Program) (B : World) (ro : AH) (N : Nat) (ops : Array Oper) (cl : Nat → Nat) (K : Fr → AH → Prop) : List Nat → Fr → AH → Prop
  | [], fr, σ => K fr σ
  | i :: rest, fr, σ => D1 P B ro N ops cl i (DOps P B ro N ops cl K rest) fr σ

theorem nextQ_mono {dst : Option Tmp} {fr : Fr} {K K' : Fr → AH → Prop} (h : ∀ fr σ, K fr σ → K' fr σ) {x : Next} {σ : AH} (hq : nextQ P B ro dst fr K x σ) : nextQ P B ro dst fr K' x σ := by
  cases x <;> first | exact h _ _ hq | exact ACalls.mono hq fun _ _ => h _ _ | exact hq
theorem AExec.mono {o : Oper} {K K' : Fr → AH → Prop} {fr : Fr} {σ : AH} (h : ∀ fr σ, K fr σ → K' fr σ) (hx : AExec P B ro o K fr σ) : AExec P B ro o K' fr σ :=
  fun ρ hρ => awp_mono _ (hx ρ hρ) fun _ _ => nextQ_mono h
theorem AStep.mono {o : Oper} {K K' : Fr → AH → Prop} {fr : Fr} {σ : AH} (h : ∀ fr σ, K fr σ → K' fr σ) (hx : AStep P B ro N ops o K fr σ) : AStep P B ro N ops o K' fr σ := by
  obtain ⟨hd, hx⟩ := hx
  refine ⟨hd, ?_⟩
  split at hx
  · exact hx.mono h
  · obtain ⟨t, v, h1, h2, h3⟩ := hx
    exact ⟨t, v, h1, h2, h3.imp (fun ⟨a, b⟩ => ⟨a, b.mono h⟩) (fun ⟨a, b⟩ => ⟨a, h _ _ b⟩)⟩
theorem AExec.live {o : Oper} {K : Fr → AH → Prop} {fr : Fr} {σ : AH} (hx : AExec P B ro o K fr σ) (hl : Live B ro σ) : AExec P B ro o (fun fr σ => K fr σ ∧ Live B ro σ) fr σ := by
  intro ρ hρ
  refine awp_mono _ (awp_live _ (hx ρ hρ) hl) ?_
  rintro x σ' ⟨h1, h2⟩
  cases x <;> first | exact ⟨h1, h2⟩ | exact (ACalls.live h1).mono fun _ _ h => h | exact h1
theorem AStep.live {o : Oper} {K : Fr → AH → Prop} {fr : Fr} {σ : AH} (hx : AStep P B ro N ops o K fr σ) (hl : Live B ro σ) : AStep P B ro N ops o (fun fr σ => K fr σ ∧ Live B ro σ) fr σ := by
  obtain ⟨hd, hx⟩ := hx
  refine ⟨hd, ?_⟩
  split at hx
  · exact hx.live hl
  · obtain ⟨t, v, h1, h2, h3⟩ := hx
    exact ⟨t, v, h1, h2, h3.imp (fun ⟨a, b⟩ => ⟨a, b.live hl⟩) (fun ⟨a, b⟩ => ⟨a, b, hl⟩)⟩
theorem AStep.nonempty {o : Oper} {K : Fr → AH → Prop} {fr : Fr} {σ : AH} (hx : AStep P B ro N ops o K fr σ) (hl : Live B ro σ) : ∃ v σ', K (putF o.dst v fr) σ' := by
  have go : ∀ (hx : AExec P B ro o K fr σ), ∃ v σ', K (putF o.dst v fr) σ' := by
    intro hx
    obtain ⟨φ, w, ho⟩ := hl
    obtain ⟨x, w', σ', _, hq, ho'⟩ := awp_sound _ (hx _ (ofFr_agrees fr)) ho
    cases x with
    | value v => exact ⟨v, σ', hq⟩
    | skip => exact ⟨_, σ', hq⟩
    | enter f args => obtain ⟨v, σ2, h⟩ := ACalls.nonempty hq ⟨φ, w', ho'⟩; exact ⟨v, σ2, h⟩
    | _ => exact hq.elim
  obtain ⟨_, hx⟩ := hx
  split at hx
  · exact go hx
  · obtain ⟨t, v, h1, h2, h3⟩ := hx
    rcases h3 with ⟨_, b⟩ | ⟨_, b⟩
    · exact go b
    · exact ⟨_, σ, b⟩
theorem AExec.frame {o : Oper} {K : Fr → AH → Prop} {fr : Fr} {σ ψ : AH} (hx : AExec P B ro o K fr σ) (hd : Disj σ ψ) : AExec P B ro o (fun fr σ' => ∃ τ, σ' = join τ ψ ∧ Disj τ ψ ∧ K fr τ) fr (join σ ψ) := by
  intro ρ hρ
  refine awp_mono _ (awp_frame _ (hx ρ hρ) hd) ?_
  rintro x σ' ⟨τ, rfl, h1, h2⟩
  cases x <;> first | exact ⟨τ, rfl, h1, h2⟩ | exact ACalls.frame h2 h1 | exact h2
theorem AStep.frame {o : Oper} {K : Fr → AH → Prop} {fr : Fr} {σ ψ : AH} (hx : AStep P B ro N ops o K fr σ) (hd : Disj σ ψ) : AStep P B ro N ops o (fun fr σ' => ∃ τ, σ' = join τ ψ ∧ Disj τ ψ ∧ K fr τ) fr (join σ ψ) := by
  obtain ⟨h0, hx⟩ := hx
  refine ⟨h0, ?_⟩
  split at hx
  · exact hx.frame hd
  · obtain ⟨t, v, h1, h2, h3⟩ := hx
    exact ⟨t, v, h1, h2, h3.imp (fun ⟨a, b⟩ => ⟨a, b.frame hd⟩) (fun ⟨a, b⟩ => ⟨a, σ, rfl, hd, b⟩)⟩

theorem RVal.uniq {τ : AH} {o : Oper} {fr : Fr} {u u' : Value} (h : RVal P ro τ ops o fr u) (h' : RVal P ro τ ops o fr u') : u = u' := by
  have pe : ∀ {u u'}, ReadEv P ro τ o fr u → ReadEv P ro τ o fr u' → u = u' := by
    intro u u' a b
    have := (a _ (ofFr_agrees fr)).symm.trans (b _ (ofFr_agrees fr))
    simpa using this
  unfold RVal at h h'
  split at h
  · rename_i hg; rw [hg] at h'; exact pe h h'
  · rename_i j want hg
    rw [hg] at h'
    obtain ⟨t, v, h1, h2, h3⟩ := h
    obtain ⟨t', v', h1', h2', h3'⟩ := h'
    rw [h1] at h1'; cases h1'
    rw [h2] at h2'; cases h2'
    rcases h3 with ⟨a, b⟩ | ⟨a, b⟩ <;> rcases h3' with ⟨a', b'⟩ | ⟨a', b'⟩
    · exact pe b b'
    · exact absurd a a'
    · exact absurd a' a
    · rw [b, b']
theorem RVal.mono {τ τ' : AH} {o : Oper} {fr : Fr} {u : Value} (hl : HLe τ τ') (h : RVal P ro τ ops o fr u) : RVal P ro τ' ops o fr u := by
  have pe : ReadEv P ro τ o fr u → ReadEv P ro τ' o fr u := fun a ρ hρ => aread_mono _ hl (a ρ hρ)
  unfold RVal at h ⊢
  split at h
  · exact pe h
  · obtain ⟨t, v, h1, h2, h3⟩ := h
    exact ⟨t, v, h1, h2, h3.imp (fun ⟨a, b⟩ => ⟨a, pe b⟩) id⟩

/-- Two operations that share no slot. -/
def noSel (o : Oper) : Bool := match o.op with | .select .. => false | _ => true
theorem noSel_spec {o : Oper} (h : noSel o = true) : ∀ cs b, o.op ≠ .select cs b := by
  intro cs b e; simp [noSel, e] at h
def setρ (ρ : Operand → Value) (fr : Fr) (d : Nat) : Operand → Value
  | .tmp t => if t = d then (look fr d).getD (ρ (.tmp d)) else ρ (.tmp t)
  | x => ρ x
theorem execOp_set {ρ : Operand → Value} {o : Oper} (hs : noSel o = true) {d : Nat} {fr : Fr} (hd : d ∉ o.looksAt ops) : execOp (setρ ρ fr d) o = execOp ρ o := by
  refine execOp_congr o (noSel_spec hs) fun x hx => ?_
  cases x with
  | tmp t =>
    have : t ≠ d := by
      intro e; subst e; apply hd
      unfold Oper.looksAt
      refine List.mem_append.2 (.inl (List.mem_filterMap.2 ⟨.tmp t, by simpa using hx, rfl⟩))
    simp [setρ, this]
  | _ => rfl
theorem setρ_agrees {ρ : Operand → Value} {fr fr' : Fr} {d : Nat} (h : Agrees ρ fr') (he : ∀ i, i ≠ d → look fr i = look fr' i) : Agrees (setρ ρ fr d) fr := by
  intro x v hx
  cases x with
  | tmp t =>
    simp only [evalF] at hx
    simp only [setρ]
    by_cases e : t = d
    · subst e; simp [hx]
    · rw [if_neg e]; exact h (.tmp t) v (by simp only [evalF]; rw [← he t e]; exact hx)
  | _ => exact h _ v hx
theorem put_off {d : Nat} {v : Value} {fr : Fr} : ∀ i, i ≠ d → look (putF (some d) v fr) i = look fr i := by
  intro i hi; rw [look_put, if_neg hi]
theorem guard_off {o : Oper} {d j t : Nat} {want : Bool} (hg : o.guard = some (j, want)) (ht : (ops[j]?).bind (·.dst) = some t) (hd : d ∉ o.looksAt ops) : t ≠ d := by
  intro e; subst e; apply hd
  unfold Oper.looksAt
  rw [hg]
  exact List.mem_append.2 (.inr (by simp [ht]))
/-- What does not look at a slot is not turned by it. -/
theorem ReadEv.off {τ : AH} {o : Oper} (hs : noSel o = true) {d : Nat} (hd : d ∉ o.looksAt ops) {fr fr' : Fr} (he : ∀ i, i ≠ d → look fr i = look fr' i) {u : Value} (h : ReadEv P ro τ o fr u) : ReadEv P ro τ o fr' u := by
  intro ρ hρ
  rw [← execOp_set (ρ := ρ) (fr := fr) hs hd]
  exact h _ (setρ_agrees hρ he)
theorem RVal.off {τ : AH} {o : Oper} (hs : noSel o = true) {d : Nat} (hd : d ∉ o.looksAt ops) {fr fr' : Fr} (he : ∀ i, i ≠ d → look fr i = look fr' i) {u : Value} (h : RVal P ro τ ops o fr u) : RVal P ro τ ops o fr' u := by
  unfold RVal at h ⊢
  split at h
  · exact h.off hs hd he
  · rename_i j want hg
    obtain ⟨t, v, h1, h2, h3⟩ := h
    exact ⟨t, v, h1, by rw [← he t (guard_off hg h1 hd)]; exact h2, h3.imp (fun ⟨a, b⟩ => ⟨a, b.off hs hd he⟩) id⟩
theorem NewEv.off {o : Oper} (hs : noSel o = true) {d : Nat} (hd : d ∉ o.looksAt ops) {fr fr' : Fr} (he : ∀ i, i ≠ d → look fr i = look fr' i) {ob : Obj} {mk : Nat → Value} (h : NewEv P ro o fr ob mk) : NewEv P ro o fr' ob mk := by
  intro ρ hρ
  rw [← execOp_set (ρ := ρ) (fr := fr) hs hd]
  exact h _ (setρ_agrees hρ he)
theorem AStep.off {o : Oper} (hs : noSel o = true) {d : Nat} (hd : d ∉ o.looksAt ops) {fr fr' : Fr} (he : ∀ i, i ≠ d → look fr i = look fr' i) {K K' : Fr → AH → Prop} {σ : AH}
    (hk : ∀ v σ, K (putF o.dst v fr) σ → K' (putF o.dst v fr') σ) (h : AStep P B ro N ops o K fr σ) : AStep P B ro N ops o K' fr' σ := by
  have go : AExec P B ro o K fr σ → AExec P B ro o K' fr' σ := by
    intro h ρ hρ
    rw [← execOp_set (ρ := ρ) (fr := fr) hs hd]
    refine awp_mono _ (h _ (setρ_agrees hρ he)) ?_
    intro x σ' hx
    cases x <;> first | exact hk _ _ hx | exact ACalls.mono hx fun v σ h => hk _ _ h | exact hx
  obtain ⟨h0, h⟩ := h
  refine ⟨h0, ?_⟩
  split at h
  · exact go h
  · rename_i j want hg
    obtain ⟨t, v, h1, h2, h3⟩ := h
    exact ⟨t, v, h1, by rw [← he t (guard_off hg h1 hd)]; exact h2, h3.imp (fun ⟨a, b⟩ => ⟨a, go b⟩) (fun ⟨a, b⟩ => ⟨a, hk _ _ b⟩)⟩
/-! the same for no slot at all: only the spelling of the frame turns -/
theorem ReadEv.eq {τ : AH} {o : Oper} {fr fr' : Fr} (he : FrEq fr fr') {u : Value} (h : ReadEv P ro τ o fr u) : ReadEv P ro τ o fr' u := fun ρ hρ => h ρ (hρ.eq he.symm)
theorem RVal.eq {τ : AH} {o : Oper} {fr fr' : Fr} (he : FrEq fr fr') {u : Value} (h : RVal P ro τ ops o fr u) : RVal P ro τ ops o fr' u := by
  unfold RVal at h ⊢
  split at h
  · exact h.eq he
  · obtain ⟨t, v, h1, h2, h3⟩ := h
    exact ⟨t, v, h1, by rw [← he t]; exact h2, h3.imp (fun ⟨a, b⟩ => ⟨a, b.eq he⟩) id⟩
theorem NewEv.eq {o : Oper} {fr fr' : Fr} (he : FrEq fr fr') {ob : Obj} {mk : Nat → Value} (h : NewEv P ro o fr ob mk) : NewEv P ro o fr' ob mk := fun ρ hρ => h ρ (hρ.eq he.symm)
theorem AStep.eq {o : Oper} {fr fr' : Fr} (he : FrEq fr fr') {K K' : Fr → AH → Prop} {σ : AH} (hk : ∀ v σ, K (putF o.dst v fr) σ → K' (putF o.dst v fr') σ) (h : AStep P B ro N ops o K fr σ) : AStep P B ro N ops o K' fr' σ := by
  have go : AExec P B ro o K fr σ → AExec P B ro o K' fr' σ := by
    intro h ρ hρ
    refine awp_mono _ (h ρ (hρ.eq he.symm)) ?_
    intro x σ' hx
    cases x <;> first | exact hk _ _ hx | exact ACalls.mono hx fun v σ h => hk _ _ h | exact hx
  obtain ⟨h0, h⟩ := h
  refine ⟨h0, ?_⟩
  split at h
  · exact go h
  · obtain ⟨t, v, h1, h2, h3⟩ := h
    exact ⟨t, v, h1, by rw [← he t]; exact h2, h3.imp (fun ⟨a, b⟩ => ⟨a, go b⟩) (fun ⟨a, b⟩ => ⟨a, hk _ _ b⟩)⟩

theorem D1.closed {cl : Nat → Nat} {i : Nat} {K : Fr → AH → Prop} (hK : Closed K) : Closed (D1 P B ro N ops cl i K) := by
  intro fr fr' σ he h
  unfold D1 at h ⊢
  split at h
  · exact h
  · rename_i o ho
    split at h
    · obtain ⟨h0, u, h1, h2⟩ := h
      exact ⟨h0, u, h1.eq he, hK _ _ _ (he.put _ _) h2⟩
    · obtain ⟨h0, u, h1, h2⟩ := h
      exact ⟨h0, u, h1.eq he, hK _ _ _ (he.put _ _) h2⟩
    · obtain ⟨h0, hg, ob, mk, h1, h2⟩ := h
      exact ⟨h0, hg, ob, mk, h1.eq he, fun b hb hs => hK _ _ _ (he.put _ _) (h2 b hb hs)⟩
    · exact h.eq he fun v σ hk => hK _ _ _ (he.put _ _) hk
theorem DOps.closed {cl : Nat → Nat} {K : Fr → AH → Prop} (hK : Closed K) (l : List Nat) : Closed (DOps P B ro N ops cl K l) := by
  induction l with
  | nil => exact hK
  | cons i rest ih => exact D1.closed ih
theorem D1.mono {cl : Nat → Nat} {i : Nat} {K K' : Fr → AH → Prop} {fr : Fr} {σ : AH} (hl : Live B ro σ) (h : ∀ fr σ, Live B ro σ → K fr σ → K' fr σ) (hx : D1 P B ro N ops cl i K fr σ) : D1 P B ro N ops cl i K' fr σ := by
  unfold D1 at hx ⊢
  split at hx
  · exact hx
  · split at hx
    · obtain ⟨h0, u, h1, h2⟩ := hx
      exact ⟨h0, u, h1, h _ _ hl h2⟩
    · obtain ⟨h0, u, h1, h2⟩ := hx
      exact ⟨h0, u, h1, h _ _ hl h2⟩
    · obtain ⟨h0, hg, ob, mk, h1, h2⟩ := hx
      exact ⟨h0, hg, ob, mk, h1, fun b hb hs => h _ _ (hl.upd hb _) (h2 b hb hs)⟩
    · exact (hx.live hl).mono fun fr σ ⟨a, b⟩ => h fr σ b a
end
end Go.Proofs.YthfpmipeejjogaaGreatDoor.SL
