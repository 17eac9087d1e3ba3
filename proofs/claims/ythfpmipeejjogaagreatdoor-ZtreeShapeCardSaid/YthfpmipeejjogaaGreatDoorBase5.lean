/- The base, fifth part: each operation that only computes, and what it gives; each that reads or turns memory, and what it asks. Generic over any program. -/
import Derived.Test.YthfpmipeejjogaaGreatDoorBase4
namespace Go.Proofs.YthfpmipeejjogaaGreatDoor.SL
open Go

/-! ### 10. Values by their types -/
structure Sl where
  a : Option Addr
  len : Nat
  cap : Nat
def Sl.v (s : Sl) : Value := .slice s.a s.len s.cap
abbrev vI (x : Int) : Value := .int .i64 x
abbrev vS (s : ByteArray) : Value := .string s
/-- The least fixed point by which a loop is told: a round, and what follows it. -/
def lfpD {S : Type} (R : S → AH → (S → AH → Prop) → Prop) (s : S) (σ : AH) : Prop :=
  ∀ X : S → AH → Prop, (∀ s σ Y, (∀ s σ, Y s σ → X s σ) → R s σ Y → X s σ) → X s σ
theorem lfpD.intro {S : Type} {R : S → AH → (S → AH → Prop) → Prop} {s : S} {σ : AH} (h : R s σ (lfpD R)) : lfpD R s σ :=
  fun X hX => hX s σ (lfpD R) (fun _ _ h => h X hX) h

section
variable {P : Program} {B : World} {ro : AH} {N : Nat} {o : Oper} {fr : Fr} {σ : AH}

/-! ### 11. Steps -/
def AOpsL (P : Program) (B : World) (ro : AH) (N : Nat) (ops : Array Oper) (K : Fr → AH → Prop) : List Oper → Fr → AH → Prop
  | [], fr, σ => K fr σ
  | o :: rest, fr, σ => AStep P B ro N ops o (AOpsL P B ro N ops K rest) fr σ
theorem AOps_of_L {ops : Array Oper} {K : Fr → AH → Prop} : ∀ (n m : Nat), m + n = ops.size → ∀ {fr : Fr} {σ : AH}, AOpsL P B ro N ops K (ops.toList.drop m) fr σ → AOps P B ro N ops K (List.range' m n) fr σ := by
  intro n
  induction n with
  | zero =>
    intro m hm fr σ h
    rw [List.drop_eq_nil_of_le (by simp; omega)] at h
    exact h
  | succ n ih =>
    intro m hm fr σ h
    have hlt : m < ops.size := by omega
    rw [List.drop_eq_getElem_cons (by simpa using hlt)] at h
    simp only [List.range'_succ, AOps]
    rw [Array.getElem?_eq_getElem hlt]
    dsimp only
    exact AStep.mono (fun fr σ h => ih (m + 1) (by omega) h) h
def wk (K : Fr → AH → Prop) (fr : Fr) (σ : AH) : Prop := ∃ fr0, FrLe fr0 fr ∧ K fr0 σ
theorem AW.reg {id : Nat} {ops : Array Oper} {Q : Exit → Fr → AH → Prop} (h : AOpsL P B ro N ops (wk (Q .normal)) ops.toList fr σ) : AW P B ro N (.region id ops false) Q fr σ := by
  have h' : AW P B ro N (.region id ops false) (fun e => wk (Q e)) fr σ := by
    refine AW.region ?_
    rw [List.range_eq_range']
    exact AOps_of_L ops.size 0 (by omega) h
  intro φ w a ho hf
  refine wp_mono (h' φ w a ho hf) ?_
  rintro e a' w' ⟨fr', σ', ⟨fr0, h1, h2⟩, h3, h4⟩
  exact ⟨fr0, σ', h2, h3, h4.weaken h1⟩

theorem Ls {ops : Array Oper} {K : Fr → AH → Prop} {rest : List Oper} (hg : o.guard = none) (hd : dstOk N o.dst = true) (h : AExec P B ro o (AOpsL P B ro N ops K rest) fr σ) : AOpsL P B ro N ops K (o :: rest) fr σ := by
  refine ⟨hd, ?_⟩; rw [hg]; exact h
/-- the guard says yes -/
theorem Ly {ops : Array Oper} {K : Fr → AH → Prop} {rest : List Oper} {j t : Nat} {want : Bool} (hg : o.guard = some (j, want)) (hd : dstOk N o.dst = true) (ht : (ops[j]?).bind (·.dst) = some t) (hl : look fr t = some (.bool want))
    (h : AExec P B ro o (AOpsL P B ro N ops K rest) fr σ) : AOpsL P B ro N ops K (o :: rest) fr σ := by
  refine ⟨hd, ?_⟩; rw [hg]; exact ⟨t, _, ht, hl, .inl ⟨rfl, h⟩⟩
/-- the guard says no: the operation is left out -/
theorem Ln {ops : Array Oper} {K : Fr → AH → Prop} {rest : List Oper} {j t : Nat} {want : Bool} {v : Value} (hg : o.guard = some (j, want)) (hd : dstOk N o.dst = true) (ht : (ops[j]?).bind (·.dst) = some t) (hl : look fr t = some v)
    (hv : v = .bool (!want) ∨ v = undef) (h : AOpsL P B ro N ops K rest (putF o.dst undef fr) σ) : AOpsL P B ro N ops K (o :: rest) fr σ := by
  refine ⟨hd, ?_⟩; rw [hg]
  refine ⟨t, _, ht, hl, .inr ⟨?_, h⟩⟩
  rcases hv with rfl | rfl
  · cases want <;> simp
  · simp [undef]
theorem Xp {K : Fr → AH → Prop} {u : Value} (he : PureEv P ro o fr u) (h : K (putF o.dst u fr) σ) : AExec P B ro o K fr σ := fun ρ hρ => (awp_of_aread _ (he ρ hρ)).2 h
/-- a step that only computes -/
theorem Lp {ops : Array Oper} {K : Fr → AH → Prop} {rest : List Oper} {u : Value} (he : PureEv P ro o fr u) (hg : o.guard = none) (hd : dstOk N o.dst = true) (h : AOpsL P B ro N ops K rest (putF o.dst u fr) σ) : AOpsL P B ro N ops K (o :: rest) fr σ :=
  Ls hg hd (Xp he h)
theorem Lyp {ops : Array Oper} {K : Fr → AH → Prop} {rest : List Oper} {u : Value} {j t : Nat} {want : Bool} (he : PureEv P ro o fr u) (hg : o.guard = some (j, want)) (hd : dstOk N o.dst = true) (ht : (ops[j]?).bind (·.dst) = some t) (hl : look fr t = some (.bool want))
    (h : AOpsL P B ro N ops K rest (putF o.dst u fr) σ) : AOpsL P B ro N ops K (o :: rest) fr σ := Ly hg hd ht hl (Xp he h)
theorem FrLe.put {fr fr' : Fr} (d : Nat) (v : Value) (hd : look fr d = none) (hl : FrLe fr fr') : FrLe fr (putF (some d) v fr') := by
  intro i u hi
  rw [look_put]
  by_cases e : i = d
  · subst e; rw [hd] at hi; cases hi
  · rw [if_neg e]; exact hl i u hi
theorem FrLe.look {fr fr' : Fr} (hl : FrLe fr fr') {i : Nat} {v : Value} (h : look fr i = some v) : look fr' i = some v := hl i v h

/-! drawn regions -/
def opAt : List Oper → Nat → Option Oper
  | [], _ => none
  | o :: _, 0 => some o
  | _ :: r, i + 1 => opAt r i
theorem opAt_eq {ops : Array Oper} {i : Nat} {o : Oper} (h : opAt ops.toList i = some o) : ops[i]? = some o := by
  have gen : ∀ (l : List Oper) (i : Nat), opAt l i = l[i]? := by
    intro l
    induction l with
    | nil => intro i; simp [opAt]
    | cons o r ih => intro i; cases i with | zero => rfl | succ i => simpa [opAt] using ih i
  rw [gen] at h; simpa using h
theorem Dp {ops : Array Oper} {cl : Nat → Nat} {i : Nat} {rest : List Nat} {K : Fr → AH → Prop} {u : Value} (ho' : opAt ops.toList i = some o) (hc : cl i = 0) (hg : o.guard = none) (hd : dstOk N o.dst = true) (he : PureEv P ro o fr u)
    (h : DOps P B ro N ops cl K rest (putF o.dst u fr) σ) : DOps P B ro N ops cl K (i :: rest) fr σ := by
  have ho := opAt_eq ho'
  unfold DOps D1; rw [ho]; dsimp only; rw [hc]
  exact ⟨hd, u, by unfold RVal; rw [hg]; exact he, h⟩
/-- an operation that reads what is owned, and turns nothing -/
theorem Dr {ops : Array Oper} {cl : Nat → Nat} {i : Nat} {rest : List Nat} {K : Fr → AH → Prop} {u : Value} (ho' : opAt ops.toList i = some o) (hc : cl i = 3) (hg : o.guard = none) (hd : dstOk N o.dst = true) (he : ReadEv P ro σ o fr u)
    (h : DOps P B ro N ops cl K rest (putF o.dst u fr) σ) : DOps P B ro N ops cl K (i :: rest) fr σ := by
  have ho := opAt_eq ho'
  unfold DOps D1; rw [ho]; dsimp only; rw [hc]
  exact ⟨hd, u, by unfold RVal; rw [hg]; exact he, h⟩
theorem Da {ops : Array Oper} {cl : Nat → Nat} {i : Nat} {rest : List Nat} {K : Fr → AH → Prop} {ob : Obj} {mk : Nat → Value} (ho' : opAt ops.toList i = some o) (hc : cl i = 1) (hg : o.guard = none) (hd : dstOk N o.dst = true) (he : NewEv P ro o fr ob mk)
    (h : ∀ b, ro b = none → σ b = none → DOps P B ro N ops cl K rest (putF o.dst (mk b) fr) (upd σ b ob)) : DOps P B ro N ops cl K (i :: rest) fr σ := by
  have ho := opAt_eq ho'
  unfold DOps D1; rw [ho]; dsimp only; rw [hc]
  exact ⟨hd, hg, ob, mk, he, h⟩
theorem Dg {ops : Array Oper} {cl : Nat → Nat} {i : Nat} {rest : List Nat} {K : Fr → AH → Prop} (ho' : opAt ops.toList i = some o) (hc : cl i = 2) (hg : o.guard = none) (hd : dstOk N o.dst = true)
    (h : AExec P B ro o (DOps P B ro N ops cl K rest) fr σ) : DOps P B ro N ops cl K (i :: rest) fr σ := by
  have ho := opAt_eq ho'
  unfold DOps D1; rw [ho]; dsimp only; rw [hc]
  refine ⟨hd, ?_⟩; rw [hg]; exact h
theorem join_none_right (σ : AH) : join σ (fun _ => none) = σ := by
  funext b; unfold join; cases σ b <;> rfl
/-- some of what is owned is lent while the region runs -/
def lent (σ : AH) (K : AH → AH → Prop) : Prop := ∃ ψ τ, Disj ψ τ ∧ σ = join ψ τ ∧ K ψ τ
theorem AW.drawnL {ops : Array Oper} {id : Nat} {Q : Exit → Fr → AH → Prop} {K : AH → AH → Prop} (cl : Nat → Nat) (anc : List (Nat × Nat)) (l : List Nat) (hm : P.follows .mixedOrders = true) (hl : lent σ K)
    (hc : (chk ops cl anc l && ancOk ops anc && full ops.size l && (l.length == ops.size)) = true)
    (h : ∀ ψ τ, K ψ τ → DOps P B (join ro ψ) N ops cl (fun fr σ => ∃ fr', FrEq fr' fr ∧ (Disj ψ σ → Q .normal fr' (join ψ σ))) l fr τ) : AW P B ro N (.region id ops true) Q fr σ := by
  obtain ⟨ψ, τ, hd, rfl, hk⟩ := hl
  exact AW.drawn cl anc l hm hd hc (h ψ τ hk)
/-! code -/
theorem AW.iff {Q : Exit → Fr → AH → Prop} {c : Operand} {x y : Code} {b : Bool} {p : Prop} [Decidable p] {X Y : Prop} (hc : evalF fr c = some (.bool b)) (hi : b = true ↔ p) (h : if p then X else Y)
    (ht : X → AW P B ro N x Q fr σ) (hn : Y → AW P B ro N y Q fr σ) : AW P B ro N (.cond c x y) Q fr σ := by
  refine AW.cond hc (fun e => ht ?_) (fun e => hn ?_)
  · rw [if_pos (hi.1 e)] at h; exact h
  · rw [if_neg (fun q => by rw [hi.2 q] at e; cases e)] at h; exact h
theorem AW.yes {Q : Exit → Fr → AH → Prop} {c : Operand} {x y : Code} (hc : evalF fr c = some (.bool true)) (h : AW P B ro N x Q fr σ) : AW P B ro N (.cond c x y) Q fr σ := AW.cond hc (fun _ => h) (fun e => by cases e)
theorem AW.no {Q : Exit → Fr → AH → Prop} {c : Operand} {x y : Code} (hc : evalF fr c = some (.bool false)) (h : AW P B ro N y Q fr σ) : AW P B ro N (.cond c x y) Q fr σ := AW.cond hc (fun e => by cases e) (fun _ => h)
theorem AW.seqJ {Q : Exit → Fr → AH → Prop} {x y : Code} (J : Fr → AH → Prop) (hy : ∀ fr σ, J fr σ → AW P B ro N y Q fr σ) (hx : AW P B ro N x (thenQ J Q) fr σ) : AW P B ro N (.seq x y) Q fr σ := by
  refine AW.seq ?_
  intro φ w a ho hf
  refine wp_mono (hx φ w a ho hf) ?_
  rintro e a' w' ⟨fr', σ', hq, ho', hf'⟩
  cases e with
  | normal => exact ⟨fr', σ', hy _ _ hq, ho', hf'⟩
  | _ => exact ⟨fr', σ', hq, ho', hf'⟩
/-! results -/
theorem map_pure' {α β : Type} (f : α → β) (x : α) : f <$> (Sem.pure x : Sem α) = Sem.pure (f x) := rfl
theorem ret1 {fn : Func} {R : Value → AH → Prop} {a : Nat} {x : Value} (hr : fn.results = #[.tmp a]) (ha : look fr a = some x) (h : R x σ) : ∃ v, (∀ tmps : Array Value, (∀ i u, look fr i = some u → tmps[i]? = some u) → aread P ro (results fn tmps) σ = some v) ∧ R v σ := by
  refine ⟨_, fun tmps ht => ?_, h⟩
  have := ht a x ha
  simp [results, hr, pure, bind, Sem.bind, map_pure', aread, Array.getD_eq_getD_getElem?, this]
theorem ret2 {fn : Func} {R : Value → AH → Prop} {a b : Nat} {x y : Value} (hr : fn.results = #[.tmp a, .tmp b]) (ha : look fr a = some x) (hb : look fr b = some y) (h : R (.tuple #[x, y]) σ) :
    ∃ v, (∀ tmps : Array Value, (∀ i u, look fr i = some u → tmps[i]? = some u) → aread P ro (results fn tmps) σ = some v) ∧ R v σ := by
  refine ⟨_, fun tmps ht => ?_, h⟩
  have h1 := ht a x ha
  have h2 := ht b y hb
  simp [results, hr, pure, bind, Sem.bind, map_pure', aread, Array.getD_eq_getD_getElem?, h1, h2]
end
end Go.Proofs.YthfpmipeejjogaaGreatDoor.SL
