/- The base, second part: frames, operations, code, calls. Generic over any program. -/
import Derived.Test.YthfpmipeejjogaaGreatDoorBase
namespace Go.Proofs.YthfpmipeejjogaaGreatDoor.SL
open Go

/-! ### 3. Frames -/
abbrev Fr := List (Nat × Value)
def look : Fr → Nat → Option Value
  | [], _ => none
  | (j, v) :: r, i => bif Nat.beq i j then some v else look r i
structure Fits (N : Nat) (fr : Fr) (a : Act) : Prop where
  size : a.tmps.size = N
  defers : a.defers = []
  has : ∀ i v, look fr i = some v → a.tmps[i]? = some v
def evalF (fr : Fr) : Operand → Option Value
  | .tmp t => look fr t
  | .const v => some v
  | .global g => some (.pointer (some ⟨g, 0, none⟩))
  | .func f => some (.func (.func f) #[] #[])
def putF (d : Option Tmp) (v : Value) (fr : Fr) : Fr :=
  match d with
  | some d => (d, v) :: fr
  | none => fr
def dstOk (N : Nat) : Option Tmp → Bool
  | some d => d < N
  | none => true
def Agrees (ρ : Operand → Value) (fr : Fr) : Prop := ∀ x v, evalF fr x = some v → ρ x = v

theorem Fits.agrees {N : Nat} {fr : Fr} {a : Act} (h : Fits N fr a) : Agrees a.eval fr := by
  intro x v hx
  cases x with
  | tmp t => have := h.has t v hx; simp [Act.eval, Array.getD_eq_getD_getElem?, this]
  | const c => simpa [evalF, Act.eval] using hx
  | global g => simpa [evalF, Act.eval] using hx
  | func f => simpa [evalF, Act.eval] using hx
theorem Fits.put {N : Nat} {fr : Fr} {a : Act} (h : Fits N fr a) {d : Option Tmp} (hd : dstOk N d = true) (v : Value) : Fits N (putF d v fr) (a.put d v) := by
  cases d with
  | none => exact h
  | some d =>
    have hd' : d < a.tmps.size := by simpa [dstOk, h.size] using hd
    refine ⟨by simp [Act.put, h.size], by simp [Act.put, h.defers], ?_⟩
    intro i u hi
    simp only [putF, look] at hi
    simp only [Act.put]
    cases hb : Nat.beq i d with
    | true =>
      rw [hb] at hi
      have := Nat.eq_of_beq_eq_true hb
      subst this
      simp at hi; subst hi
      simp [hd']
    | false =>
      rw [hb] at hi
      have hne : i ≠ d := by intro e; subst e; simp at hb
      have := h.has i u hi
      rw [Array.getElem?_setIfInBounds, if_neg (by omega)]; exact this
def FrLe (fr fr' : Fr) : Prop := ∀ i v, look fr i = some v → look fr' i = some v
theorem Fits.weaken {N : Nat} {fr fr' : Fr} {a : Act} (h : Fits N fr' a) (hl : FrLe fr fr') : Fits N fr a := ⟨h.size, h.defers, fun i v e => h.has i v (hl i v e)⟩
theorem FrLe.nil (fr : Fr) : FrLe [] fr := fun _ _ h => by simp [look] at h
theorem FrLe.cons {fr fr' : Fr} {i : Nat} {v : Value} (h : look fr' i = some v) (hl : FrLe fr fr') : FrLe ((i, v) :: fr) fr' := by
  intro j u hj
  simp only [look] at hj
  cases hb : Nat.beq j i with
  | true => rw [hb] at hj; have := Nat.eq_of_beq_eq_true hb; subst this; simp at hj; subst hj; exact h
  | false => rw [hb] at hj; exact hl j u hj
theorem FrLe.refl (fr : Fr) : FrLe fr fr := fun _ _ h => h
def HLe (σ σ' : AH) : Prop := ∀ b o, σ b = some o → σ' b = some o
theorem HLe.refl (σ : AH) : HLe σ σ := fun _ _ h => h

/-! ### 4. Calls -/
def ACalls (P : Program) (B : World) (ro : AH) (f : FuncId) (args : Array Value) (σ : AH) (Q : Value → AH → Prop) : Prop :=
  ∀ φ w, Own B ro φ σ w → Calls P f args w fun e w' => ∃ v σ', e = .returned v ∧ Q v σ' ∧ Own B ro φ σ' w'
theorem ACalls.mono {P : Program} {B : World} {ro : AH} {f : FuncId} {args : Array Value} {σ : AH} {Q Q' : Value → AH → Prop} (h : ACalls P B ro f args σ Q) (hq : ∀ v σ, Q v σ → Q' v σ) : ACalls P B ro f args σ Q' :=
  fun φ w ho => (h φ w ho).mono fun _ _ ⟨v, σ', e, q, o⟩ => ⟨v, σ', e, hq _ _ q, o⟩
/-- What the call leaves may be let go. -/
theorem ACalls.drop {P : Program} {B : World} {ro : AH} {f : FuncId} {args : Array Value} {σ : AH} {Q Q' : Value → AH → Prop} (h : ACalls P B ro f args σ Q) (hq : ∀ v σ, Q v σ → ∃ σ', HLe σ' σ ∧ Q' v σ') : ACalls P B ro f args σ Q' :=
  fun φ w ho => (h φ w ho).mono fun _ _ ⟨v, _, e, q, o⟩ => let ⟨σ'', hl, q'⟩ := hq _ _ q; ⟨v, σ'', e, q', o.drop hl⟩
theorem ACalls.weaken {P : Program} {B : World} {ro : AH} {f : FuncId} {args : Array Value} {σ σ' : AH} {Q : Value → AH → Prop} (h : ACalls P B ro f args σ Q) (hl : HLe σ σ') : ACalls P B ro f args σ' Q :=
  fun φ w ho => h φ w (ho.drop hl)

/-! the frame rule -/
def Disj (σ ψ : AH) : Prop := ∀ b o, σ b = some o → ψ b = none
def join (σ ψ : AH) : AH := fun b => match σ b with | some o => some o | none => ψ b
theorem join_some {σ ψ : AH} {b : Nat} {o : Obj} (h : join σ ψ b = some o) : σ b = some o ∨ (σ b = none ∧ ψ b = some o) := by
  unfold join at h
  cases e : σ b with
  | some x => rw [e] at h; exact .inl h
  | none => rw [e] at h; exact .inr ⟨rfl, h⟩
theorem join_none {σ ψ : AH} {b : Nat} (h : join σ ψ b = none) : σ b = none ∧ ψ b = none := by
  unfold join at h
  cases e : σ b with
  | some x => rw [e] at h; cases h
  | none => rw [e] at h; exact ⟨rfl, h⟩
theorem join_left {σ ψ : AH} {b : Nat} {o : Obj} (h : σ b = some o) : join σ ψ b = some o := by simp [join, h]
theorem join_right {σ ψ : AH} {b : Nat} {o : Obj} (hd : Disj σ ψ) (h : ψ b = some o) : join σ ψ b = some o := by
  unfold join
  cases e : σ b with
  | some x => have := hd b x e; rw [this] at h; cases h
  | none => exact h
theorem Disj.symm {σ ψ : AH} (hd : Disj σ ψ) : Disj ψ σ := by
  intro b o hs
  cases e : σ b with
  | none => rfl
  | some x => have := hd b x e; rw [this] at hs; cases hs
theorem Own.frame_in {B : World} {ro φ σ ψ : AH} {w : World} (h : Own B ro φ (join σ ψ) w) (hd : Disj σ ψ) : Own B ro (join φ ψ) σ w := by
  refine ⟨h.os, h.tape, h.output, ?_, ?_, h.ro⟩
  · intro b o hs
    have := h.own b o (join_left hs)
    exact ⟨this.1, by simp [join, this.2.1, hd b o hs], this.2.2⟩
  · intro b o hs
    rcases join_some hs with h1 | ⟨h1, h2⟩
    · exact h.fr b _ h1
    · exact (h.own b o (join_right hd h2)).1
theorem Own.frame_out {B : World} {ro φ σ ψ : AH} {w : World} (h : Own B ro (join φ ψ) σ w) (hd : Disj φ ψ) (hr : Disj ψ ro) : Own B ro φ (join σ ψ) w ∧ Disj σ ψ := by
  have hd2 : Disj σ ψ := fun b o hs => (join_none (h.own b o hs).2.1).2
  refine ⟨⟨h.os, h.tape, h.output, ?_, fun b o hs => h.fr b o (join_left hs), h.ro⟩, hd2⟩
  intro b o hs
  rcases join_some hs with h1 | ⟨h1, h2⟩
  · have := h.own b _ h1
    exact ⟨this.1, (join_none this.2.1).1, this.2.2⟩
  · exact ⟨h.fr b o (join_right hd h2), hd.symm b o h2, hr b o h2⟩
theorem Own.frame_disj {B : World} {ro φ σ ψ : AH} {w : World} (ho : Own B ro φ (join σ ψ) w) (hd : Disj σ ψ) : Disj φ ψ ∧ Disj ψ ro :=
  ⟨Disj.symm fun b o hs => (ho.own b o (join_right hd hs)).2.1, fun b o hs => (ho.own b o (join_right hd hs)).2.2⟩
theorem ACalls.frame {P : Program} {B : World} {ro : AH} {f : FuncId} {args : Array Value} {σ ψ : AH} {Q : Value → AH → Prop} (h : ACalls P B ro f args σ Q) (hd : Disj σ ψ) :
    ACalls P B ro f args (join σ ψ) fun v σ' => ∃ τ, σ' = join τ ψ ∧ Disj τ ψ ∧ Q v τ := by
  intro φ w ho
  obtain ⟨hfp, hpr⟩ := ho.frame_disj hd
  refine (h _ w (ho.frame_in hd)).mono ?_
  rintro e w' ⟨v, σ', he, hq, ho'⟩
  obtain ⟨h1, h2⟩ := ho'.frame_out hfp hpr
  exact ⟨v, _, he, ⟨σ', rfl, h2, hq⟩, h1⟩

/-! what is owned may be lent to be read -/
theorem Own.lend {B : World} {ro φ σ ψ : AH} {w : World} (h : Own B ro φ (join ψ σ) w) (hd : Disj ψ σ) : Own B (join ro ψ) φ σ w := by
  refine ⟨h.os, h.tape, h.output, ?_, h.fr, ?_⟩
  · intro b o hs
    have := h.own b o (join_right hd hs)
    exact ⟨this.1, this.2.1, by simp [join, this.2.2, hd.symm b o hs]⟩
  · intro b o hs
    rcases join_some hs with h1 | ⟨_, h2⟩
    · exact h.ro b o h1
    · exact (h.own b o (join_left h2)).1
theorem Own.unlend {B : World} {ro φ σ ψ : AH} {w : World} (h : Own B (join ro ψ) φ σ w) (hp : ∀ b o, ψ b = some o → φ b = none ∧ ro b = none) : Own B ro φ (join ψ σ) w ∧ Disj ψ σ := by
  have hd : Disj ψ σ := Disj.symm fun b o hs => (join_none (h.own b o hs).2.2).2
  refine ⟨⟨h.os, h.tape, h.output, ?_, h.fr, fun b o hs => h.ro b o (join_left hs)⟩, hd⟩
  intro b o hs
  rcases join_some hs with h1 | ⟨_, h2⟩
  · have := hp b o h1
    exact ⟨h.ro b o (by simp [join, this.2, h1]), this⟩
  · have := h.own b o h2
    exact ⟨this.1, this.2.1, (join_none this.2.2).1⟩
theorem ACalls.lend {P : Program} {B : World} {ro : AH} {f : FuncId} {args : Array Value} {σ ψ : AH} {Q : Value → AH → Prop} (h : ACalls P B (join ro ψ) f args σ Q) (hd : Disj ψ σ) :
    ACalls P B ro f args (join ψ σ) fun v σ' => ∃ τ, σ' = join ψ τ ∧ Disj ψ τ ∧ Q v τ := by
  intro φ w ho
  have hp : ∀ b o, ψ b = some o → φ b = none ∧ ro b = none := fun b o hs => (ho.own b o (join_left hs)).2
  refine (h φ w (ho.lend hd)).mono ?_
  rintro e w' ⟨v, σ', he, hq, ho'⟩
  obtain ⟨h1, h2⟩ := ho'.unlend hp
  exact ⟨v, _, he, ⟨σ', rfl, h2, hq⟩, h1⟩

/-! ### 5. Operations of a region -/
def nextQ (P : Program) (B : World) (ro : AH) (dst : Option Tmp) (fr : Fr) (K : Fr → AH → Prop) : Next → AH → Prop
  | .value v, σ => K (putF dst v fr) σ
  | .skip, σ => K (putF dst undef fr) σ
  | .enter f args, σ => ACalls P B ro f args σ fun v σ' => K (putF dst v fr) σ'
  | _, _ => False
def AExec (P : Program) (B : World) (ro : AH) (o : Oper) (K : Fr → AH → Prop) (fr : Fr) (σ : AH) : Prop :=
  ∀ ρ, Agrees ρ fr → awp P ro (execOp ρ o) (nextQ P B ro o.dst fr K) σ
def AStep (P : Program) (B : World) (ro : AH) (N : Nat) (ops : Array Oper) (o : Oper) (K : Fr → AH → Prop) (fr : Fr) (σ : AH) : Prop :=
  dstOk N o.dst = true ∧ match o.guard with
    | none => AExec P B ro o K fr σ
    | some (j, want) => ∃ t v, (ops[j]?).bind (·.dst) = some t ∧ look fr t = some v ∧ ((v = .bool want ∧ AExec P B ro o K fr σ) ∨ (v ≠ .bool want ∧ K (putF o.dst undef fr) σ))
def AOps (P : Program) (B : World) (ro : AH) (N : Nat) (ops : Array Oper) (K : Fr → AH → Prop) : List Nat → Fr → AH → Prop
  | [], fr, σ => K fr σ
  | i :: rest, fr, σ => match ops[i]? with
    | none => AOps P B ro N ops K rest fr σ
    | some o => AStep P B ro N ops o (AOps P B ro N ops K rest) fr σ

def lift (B : World) (ro : AH) (N : Nat) (φ : AH) (Q : Exit → Fr → AH → Prop) (e : Exit) (a : Act) (w : World) : Prop := ∃ fr σ, Q e fr σ ∧ Own B ro φ σ w ∧ Fits N fr a

theorem AExec.sound {P : Program} {B : World} {ro : AH} {N : Nat} {o : Oper} {K : Fr → AH → Prop} {fr : Fr} {σ φ : AH} {a : Act} {w : World} {next : Act → World → Prop} {Q : Exit → Act → World → Prop}
    (h : AExec P B ro o K fr σ) (hd : dstOk N o.dst = true) (ho : Own B ro φ σ w) (hf : Fits N fr a)
    (hk : ∀ fr σ a w, K fr σ → Own B ro φ σ w → Fits N fr a → next a w) : o.wp P a w next Q := by
  obtain ⟨x, w', σ', hr, hq, ho'⟩ := awp_sound _ (h _ hf.agrees) ho
  unfold Oper.wp
  rw [hr]
  cases x with
  | value v => exact hk _ _ _ _ hq ho' (hf.put hd v)
  | skip => exact hk _ _ _ _ hq ho' (hf.put hd undef)
  | enter f args =>
    show Calls P f args w' _
    refine (hq φ w' ho').mono ?_
    rintro e w2 ⟨v, σ2, rfl, hq2, ho2⟩
    exact hk _ _ _ _ hq2 ho2 (hf.put hd v)
  | _ => exact hq.elim

theorem yielded_eq {N : Nat} {fr : Fr} {a : Act} (hf : Fits N fr a) {ops : Array Oper} {j t : Nat} {v : Value} (ht : (ops[j]?).bind (·.dst) = some t) (hl : look fr t = some v) :
    yielded ops a.tmps j = match v with | .bool b => some b | _ => none := by
  unfold yielded
  rw [ht]
  simp only [Option.bind_some, hf.has t v hl]
  cases v <;> rfl

theorem AOps.sound {P : Program} {B : World} {ro : AH} {N : Nat} {ops : Array Oper} {Q : Exit → Fr → AH → Prop} {φ : AH} (l : List Nat) : ∀ {fr : Fr} {σ : AH} {a : Act} {w : World},
    AOps P B ro N ops (Q .normal) l fr σ → Own B ro φ σ w → Fits N fr a → wpOps P ops (lift B ro N φ Q) l a w := by
  induction l with
  | nil => intro fr σ a w h ho hf; exact ⟨fr, σ, h, ho, hf⟩
  | cons i rest ih =>
    intro fr σ a w h ho hf
    simp only [AOps] at h
    simp only [wpOps]
    cases hi : ops[i]? with
    | none => rw [hi] at h; exact ih h ho hf
    | some o =>
      rw [hi] at h
      obtain ⟨hd, h⟩ := h
      dsimp only
      cases hg : o.guard with
      | none =>
        rw [hg] at h
        have hw : Region.wanted o (yielded ops a.tmps) = true := by simp [Region.wanted, hg]
        rw [if_pos hw]
        exact .inl (AExec.sound h hd ho hf fun fr σ a w hk ho hf => ih hk ho hf)
      | some g =>
        obtain ⟨j, want⟩ := g
        rw [hg] at h
        obtain ⟨t, v, ht, hl, h⟩ := h
        have hy := yielded_eq hf ht hl
        rcases h with ⟨rfl, h⟩ | ⟨hv, h⟩
        · have hw : Region.wanted o (yielded ops a.tmps) = true := by simp [Region.wanted, hg, hy]
          rw [if_pos hw]
          exact .inl (AExec.sound h hd ho hf fun fr σ a w hk ho hf => ih hk ho hf)
        · have hw : ¬ Region.wanted o (yielded ops a.tmps) = true := by
            simp only [Region.wanted, hg, hy]
            cases v <;> simp
            rename_i b; intro e; subst e; exact hv rfl
          rw [if_neg hw]
          exact ih h ho (hf.put hd undef)

/-! ### 6. Code -/
def AW (P : Program) (B : World) (ro : AH) (N : Nat) (c : Code) (Q : Exit → Fr → AH → Prop) (fr : Fr) (σ : AH) : Prop :=
  ∀ φ w a, Own B ro φ σ w → Fits N fr a → c.wp P (lift B ro N φ Q) a w
def thenQ (next : Fr → AH → Prop) (Q : Exit → Fr → AH → Prop) : Exit → Fr → AH → Prop
  | .normal, fr, σ => next fr σ
  | e, fr, σ => Q e fr σ
def blockQ (id : Nat) (Q : Exit → Fr → AH → Prop) : Exit → Fr → AH → Prop
  | .exit id', fr, σ => if id' = id then Q .normal fr σ else Q (.exit id') fr σ
  | e, fr, σ => Q e fr σ
section
variable {P : Program} {B : World} {ro : AH} {N : Nat} {Q : Exit → Fr → AH → Prop} {fr : Fr} {σ : AH}
theorem AW.weaken {c : Code} {fr' : Fr} {σ' : AH} (h : AW P B ro N c Q fr' σ') (hf : FrLe fr' fr) (hl : HLe σ' σ) : AW P B ro N c Q fr σ :=
  fun φ w a ho ha => h φ w a (ho.drop hl) (ha.weaken hf)
theorem AW.skip (h : Q .normal fr σ) : AW P B ro N .skip Q fr σ := fun _ _ _ ho hf => wp_skip ⟨fr, σ, h, ho, hf⟩
theorem AW.ret (h : Q .ret fr σ) : AW P B ro N .ret Q fr σ := fun _ _ _ ho hf => wp_ret ⟨fr, σ, h, ho, hf⟩
theorem AW.exit {id : Nat} (h : Q (.exit id) fr σ) : AW P B ro N (.exit id) Q fr σ := fun _ _ _ ho hf => wp_exit ⟨fr, σ, h, ho, hf⟩
theorem AW.seq {x y : Code} (h : AW P B ro N x (thenQ (AW P B ro N y Q) Q) fr σ) : AW P B ro N (.seq x y) Q fr σ := by
  intro φ w a ho hf
  refine wp_seq (wp_mono (h φ w a ho hf) ?_)
  rintro e a' w' ⟨fr', σ', hq, ho', hf'⟩
  cases e with
  | normal => exact hq φ w' a' ho' hf'
  | _ => exact ⟨fr', σ', hq, ho', hf'⟩
theorem AW.cond {c : Operand} {x y : Code} {b : Bool} (hc : evalF fr c = some (.bool b)) (ht : b = true → AW P B ro N x Q fr σ) (hn : b = false → AW P B ro N y Q fr σ) : AW P B ro N (.cond c x y) Q fr σ :=
  fun φ w a ho hf => wp_cond_split (hf.agrees _ _ hc) (fun e => ht e φ w a ho hf) (fun e => hn e φ w a ho hf)
theorem AW.block {id : Nat} {c : Code} (h : AW P B ro N c (blockQ id Q) fr σ) : AW P B ro N (.block id c) Q fr σ := by
  intro φ w a ho hf
  refine wp_block (wp_mono (h φ w a ho hf) ?_)
  rintro e a' w' ⟨fr', σ', hq, ho', hf'⟩
  cases e with
  | exit id' =>
    simp only [blockQ] at hq
    simp only [Exit.inBlock]
    split
    · rename_i e; rw [if_pos e] at hq; exact ⟨fr', σ', hq, ho', hf'⟩
    · rename_i e; rw [if_neg e] at hq; exact ⟨fr', σ', hq, ho', hf'⟩
  | _ => exact ⟨fr', σ', hq, ho', hf'⟩
theorem AW.region {id : Nat} {ops : Array Oper} (h : AOps P B ro N ops (Q .normal) (List.range ops.size) fr σ) : AW P B ro N (.region id ops false) Q fr σ :=
  fun _ _ _ ho hf => wp_region (AOps.sound _ h ho hf)
end

/-! a loop: at its head behind the first round -/
def headWp (P : Program) (c : Code) (Q : Exit → Act → World → Prop) (a : Act) (w : World) : Prop :=
  ∀ (b : Frame) (k : List Item) (cs : List Frame), ∃ e a' w', Q e a' w' ∧ Arrives P (lone (b.at a (.inLoop c :: k)) cs w) b k cs e a' w'
theorem rounds_from {P : Program} {c : Code} {Q : Exit → Act → World → Prop} {a : Act} {w : World} (h : c.wp P (Exit.then (headWp P c Q) Q) a w) (b : Frame) (k : List Item) (cs : List Frame) :
    ∃ e a' w', Q e a' w' ∧ Arrives P (lone (b.at a (.code c :: .inLoop c :: k)) cs w) b k cs e a' w' := by
  obtain ⟨e, a₁, w₁, hq, harr⟩ := h b (.inLoop c :: k) cs
  cases e with
  | normal =>
    obtain ⟨e₂, a₂, w₂, hq₂, harr₂⟩ := hq b k cs
    exact ⟨e₂, a₂, w₂, hq₂, .of_steps harr harr₂⟩
  | exit id => exact ⟨_, a₁, w₁, hq, .pass (x := .inLoop c) rfl (fun _ _ => .inl (by simp)) harr⟩
  | goto l => exact ⟨_, a₁, w₁, hq, .pass (x := .inLoop c) rfl (fun _ _ => .inl (by simp)) harr⟩
  | ret => exact ⟨_, a₁, w₁, hq, .pass (x := .inLoop c) rfl (fun _ _ => .inl (by simp)) harr⟩
  | panic ch => exact ⟨_, a₁, w₁, hq, .pass (x := .inLoop c) rfl (fun _ _ => .inl (by simp)) harr⟩
  | outgrown => exact ⟨_, a₁, w₁, hq, .pass (x := .inLoop c) rfl (fun _ _ => .inl (by simp)) harr⟩
theorem headWp_of {P : Program} {c : Code} {Q : Exit → Act → World → Prop} {a : Act} {w : World} (h : c.wp P (Exit.then (headWp P c Q) Q) a w) : headWp P c Q a w := by
  intro b k cs
  obtain ⟨e, a', w', hq, harr⟩ := rounds_from h b k cs
  exact ⟨e, a', w', hq, .of_steps (.one step_inLoop) harr⟩
theorem loopWp_of {P : Program} {c : Code} {Q : Exit → Act → World → Prop} {a : Act} {w : World} (h : c.wp P (Exit.then (headWp P c Q) Q) a w) : (Code.loop c).wp P Q a w := by
  intro b k cs
  obtain ⟨e, a', w', hq, harr⟩ := rounds_from h b k cs
  exact ⟨e, a', w', hq, .of_steps (.one step_loop) harr⟩
def AHead (P : Program) (B : World) (ro : AH) (N : Nat) (c : Code) (Q : Exit → Fr → AH → Prop) (fr : Fr) (σ : AH) : Prop :=
  ∀ φ w a, Own B ro φ σ w → Fits N fr a → headWp P c (lift B ro N φ Q) a w
/-- A round, and all that follow it. -/
def ARound (P : Program) (B : World) (ro : AH) (N : Nat) (c : Code) (Q : Exit → Fr → AH → Prop) (fr : Fr) (σ : AH) : Prop := AW P B ro N c (thenQ (AHead P B ro N c Q) Q) fr σ
section
variable {P : Program} {B : World} {ro : AH} {N : Nat} {Q : Exit → Fr → AH → Prop} {fr : Fr} {σ : AH}
theorem ARound.wp {c : Code} (h : ARound P B ro N c Q fr σ) {φ : AH} {w : World} {a : Act} (ho : Own B ro φ σ w) (hf : Fits N fr a) : c.wp P (Exit.then (headWp P c (lift B ro N φ Q)) (lift B ro N φ Q)) a w := by
  refine wp_mono (h φ w a ho hf) ?_
  rintro e a' w' ⟨fr', σ', hq, ho', hf'⟩
  cases e with
  | normal => exact hq φ w' a' ho' hf'
  | _ => exact ⟨fr', σ', hq, ho', hf'⟩
theorem ARound.head {c : Code} {fr' : Fr} (h : ARound P B ro N c Q fr' σ) (hl : FrLe fr' fr) : AHead P B ro N c Q fr σ :=
  fun _ _ _ ho hf => headWp_of (h.wp ho (hf.weaken hl))
theorem ARound.loop {c : Code} {fr' : Fr} (h : ARound P B ro N c Q fr' σ) (hl : FrLe fr' fr) : AW P B ro N (.loop c) Q fr σ :=
  fun _ _ _ ho hf => loopWp_of (h.wp ho (hf.weaken hl))
end

/-! ### 7. A function -/
def aread {α : Type} (P : Program) (ro : AH) : Sem α → AH → Option α
  | .pure a, _ => some a
  | .load _ a k, σ => match acell ro σ a with
    | some v => aread P ro (k v) σ
    | none => none
  | .program k, σ => aread P ro (k P) σ
  | .mark _ k, σ => aread P ro k σ
  | _, _ => none
theorem aread_sound {α : Type} {P : Program} {B : World} {ro : AH} {φ : AH} (s : Sem α) : ∀ {σ : AH} {w : World} {a : α}, aread P ro s σ = some a → Own B ro φ σ w → s.run P w = .ok a w := by
  induction s with
  | pure a => intro σ w x h ho; cases h; rfl
  | load m a k ih =>
    intro σ w x h ho
    simp only [aread] at h
    cases hc : acell ro σ a with
    | none => rw [hc] at h; cases h
    | some v => rw [hc] at h; simp only [Sem.run, ho.cell hc]; exact ih v h ho
  | program k ih => intro σ w x h ho; exact ih _ h ho
  | mark m k ih => intro σ w x h ho; exact ih h ho
  | _ => intro σ w x h; cases h
def bodyQ (P : Program) (ro : AH) (fn : Func) (R : Value → AH → Prop) : Exit → Fr → AH → Prop
  | .normal, fr, σ | .ret, fr, σ => ∃ v, (∀ tmps : Array Value, (∀ i u, look fr i = some u → tmps[i]? = some u) → aread P ro (results fn tmps) σ = some v) ∧ R v σ
  | _, _, _ => False
def initFr : List Value → Nat → Fr
  | [], _ => []
  | v :: r, i => (i, v) :: initFr r (i + 1)
theorem look_initFr (l : List Value) : ∀ (n i : Nat) (v : Value), look (initFr l n) i = some v → n ≤ i ∧ l[i - n]? = some v := by
  induction l with
  | nil => intro n i v h; simp [initFr, look] at h
  | cons x r ih =>
    intro n i v h
    simp only [initFr, look] at h
    cases hb : Nat.beq i n with
    | true => rw [hb] at h; have := Nat.eq_of_beq_eq_true hb; subst this; simpa using h
    | false =>
      rw [hb] at h
      obtain ⟨h1, h2⟩ := ih (n + 1) i v h
      have : i - n = (i - (n + 1)) + 1 := by omega
      exact ⟨by omega, by rw [this]; simpa using h2⟩
theorem ACalls.of_body {P : Program} {B : World} {ro : AH} {f : FuncId} {fn : Func} {c : Code} {args : List Value} {σ : AH} {Q : Value → AH → Prop} (hf : P.funcs[f]? = some fn) (hb : fn.body = some c)
    (hn : args.length ≤ fn.ntmps) (h : AW P B ro fn.ntmps c (bodyQ P ro fn Q) (initFr args 0) σ) : ACalls P B ro f args.toArray σ Q := by
  intro φ w ho
  refine calls_of_wp hf hb ?_
  have hfits : Fits fn.ntmps (initFr args 0) { tmps := args.toArray ++ Array.replicate (fn.ntmps - args.toArray.size) undef, defers := [] } := by
    refine ⟨by simp; omega, rfl, ?_⟩
    intro i v hi
    obtain ⟨_, h2⟩ := look_initFr args 0 i v hi
    simp only [Nat.sub_zero] at h2
    have hlt : i < args.length := by
      rcases Nat.lt_or_ge i args.length with h' | h'
      · exact h'
      · rw [List.getElem?_eq_none h'] at h2; cases h2
    simp [Array.getElem?_append, hlt]
    simpa [List.getElem?_eq_getElem hlt] using h2
  refine wp_mono (h φ w _ ho hfits) ?_
  rintro e a' w' ⟨fr', σ', hq, ho', hf'⟩
  cases e with
  | normal =>
    obtain ⟨v, hr, hR⟩ := hq
    exact ⟨hf'.defers, v, aread_sound _ (hr _ hf'.has) ho', v, σ', rfl, hR, ho'⟩
  | ret =>
    obtain ⟨v, hr, hR⟩ := hq
    exact ⟨hf'.defers, v, aread_sound _ (hr _ hf'.has) ho', v, σ', rfl, hR, ho'⟩
  | _ => exact hq.elim
end Go.Proofs.YthfpmipeejjogaaGreatDoor.SL
