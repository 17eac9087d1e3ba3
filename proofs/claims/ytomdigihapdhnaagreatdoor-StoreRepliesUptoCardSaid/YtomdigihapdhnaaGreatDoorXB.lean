/- Base5, Base6, Base7, Base8, Base9, Law -/
import Derived.Laws.Strings
import Derived.IntWalk
import Derived.WalkKit
import Derived.ProofKit
import Derived.OpenShut
import Derived.ShutString
import Derived.ChangeOld
import Derived.Below
import Derived.SizedLaws
import Derived.Carry
import Derived.Deep.Slices
import Derived.DataReads
import Derived.Test.YtomdigihapdhnaaGreatDoorXA
/- The base, fifth part: each operation that only computes, and what it gives; each that reads or turns memory, and what it asks. Generic over any program. -/
namespace Go.Proofs.YtomdigihapdhnaaGreatDoor.SL
open Go

/-! ### 10. Values by their types -/
structure Sl where
  a : Option Addr
  len : Nat
  cap : Nat
def Sl.v (s : Sl) : Value := .slice s.a s.len s.cap
abbrev vI (x : Int) : Value := .int .i64 x
abbrev vS (s : ByteArray) : Value := .string s
/-- The least fixed point by which a loop is told: a round, and what follows it. -/
def lfpD {S : Type} (R : S → AH → (S → AH → Prop) → Prop) (s : S) (σ : AH) : Prop :=
  ∀ X : S → AH → Prop, (∀ s σ Y, (∀ s σ, Y s σ → X s σ) → R s σ Y → X s σ) → X s σ
theorem lfpD.intro {S : Type} {R : S → AH → (S → AH → Prop) → Prop} {s : S} {σ : AH} (h : R s σ (lfpD R)) : lfpD R s σ :=
  fun X hX => hX s σ (lfpD R) (fun _ _ h => h X hX) h

section
variable {P : Program} {B : World} {ro : AH} {N : Nat} {o : Oper} {fr : Fr} {σ : AH}

/-! ### 11. Steps -/
def AOpsL (P : Program) (B : World) (ro : AH) (N : Nat) (ops : Array Oper) (K : Fr → AH → Prop) : List Oper → Fr → AH → Prop
  | [], fr, σ => K fr σ
  | o :: rest, fr, σ => AStep P B ro N ops o (AOpsL P B ro N ops K rest) fr σ
theorem AOps_of_L {ops : Array Oper} {K : Fr → AH → Prop} : ∀ (n m : Nat), m + n = ops.size → ∀ {fr : Fr} {σ : AH}, AOpsL P B ro N ops K (ops.toList.drop m) fr σ → AOps P B ro N ops K (List.range' m n) fr σ := by
  intro n
  induction n with
  | zero =>
    intro m hm fr σ h
    rw [List.drop_eq_nil_of_le (by simp; omega)] at h
    exact h
  | succ n ih =>
    intro m hm fr σ h
    have hlt : m < ops.size := by omega
    rw [List.drop_eq_getElem_cons (by simpa using hlt)] at h
    simp only [List.range'_succ, AOps]
    rw [Array.getElem?_eq_getElem hlt]
    dsimp only
    exact AStep.mono (fun fr σ h => ih (m + 1) (by omega) h) h
def wk (K : Fr → AH → Prop) (fr : Fr) (σ : AH) : Prop := ∃ fr0, FrLe fr0 fr ∧ K fr0 σ
theorem AW.reg {id : Nat} {ops : Array Oper} {Q : Exit → Fr → AH → Prop} (h : AOpsL P B ro N ops (wk (Q .normal)) ops.toList fr σ) : AW P B ro N (.region id ops false) Q fr σ := by
  have h' : AW P B ro N (.region id ops false) (fun e => wk (Q e)) fr σ := by
    refine AW.region ?_
    rw [List.range_eq_range']
    exact AOps_of_L ops.size 0 (by omega) h
  intro φ w a ho hf
  refine wp_mono (h' φ w a ho hf) ?_
  rintro e a' w' ⟨fr', σ', ⟨fr0, h1, h2⟩, h3, h4⟩
  exact ⟨fr0, σ', h2, h3, h4.weaken h1⟩

theorem Ls {ops : Array Oper} {K : Fr → AH → Prop} {rest : List Oper} (hg : o.guard = none) (hd : dstOk N o.dst = true) (h : AExec P B ro o (AOpsL P B ro N ops K rest) fr σ) : AOpsL P B ro N ops K (o :: rest) fr σ := by
  refine ⟨hd, ?_⟩; rw [hg]; exact h
/-- the guard says yes -/
theorem Ly {ops : Array Oper} {K : Fr → AH → Prop} {rest : List Oper} {j t : Nat} {want : Bool} (hg : o.guard = some (j, want)) (hd : dstOk N o.dst = true) (ht : (ops[j]?).bind (·.dst) = some t) (hl : look fr t = some (.bool want))
    (h : AExec P B ro o (AOpsL P B ro N ops K rest) fr σ) : AOpsL P B ro N ops K (o :: rest) fr σ := by
  refine ⟨hd, ?_⟩; rw [hg]; exact ⟨t, _, ht, hl, .inl ⟨rfl, h⟩⟩
/-- the guard says no: the operation is left out -/
theorem Ln {ops : Array Oper} {K : Fr → AH → Prop} {rest : List Oper} {j t : Nat} {want : Bool} {v : Value} (hg : o.guard = some (j, want)) (hd : dstOk N o.dst = true) (ht : (ops[j]?).bind (·.dst) = some t) (hl : look fr t = some v)
    (hv : v = .bool (!want) ∨ v = undef) (h : AOpsL P B ro N ops K rest (putF o.dst undef fr) σ) : AOpsL P B ro N ops K (o :: rest) fr σ := by
  refine ⟨hd, ?_⟩; rw [hg]
  refine ⟨t, _, ht, hl, .inr ⟨?_, h⟩⟩
  rcases hv with rfl | rfl
  · cases want <;> simp
  · simp [undef]
theorem Xp {K : Fr → AH → Prop} {u : Value} (he : PureEv P ro o fr u) (h : K (putF o.dst u fr) σ) : AExec P B ro o K fr σ := fun ρ hρ => (awp_of_aread _ (he ρ hρ)).2 h
/-- a step that only computes -/
theorem Lp {ops : Array Oper} {K : Fr → AH → Prop} {rest : List Oper} {u : Value} (he : PureEv P ro o fr u) (hg : o.guard = none) (hd : dstOk N o.dst = true) (h : AOpsL P B ro N ops K rest (putF o.dst u fr) σ) : AOpsL P B ro N ops K (o :: rest) fr σ :=
  Ls hg hd (Xp he h)
theorem Lyp {ops : Array Oper} {K : Fr → AH → Prop} {rest : List Oper} {u : Value} {j t : Nat} {want : Bool} (he : PureEv P ro o fr u) (hg : o.guard = some (j, want)) (hd : dstOk N o.dst = true) (ht : (ops[j]?).bind (·.dst) = some t) (hl : look fr t = some (.bool want))
    (h : AOpsL P B ro N ops K rest (putF o.dst u fr) σ) : AOpsL P B ro N ops K (o :: rest) fr σ := Ly hg hd ht hl (Xp he h)
theorem FrLe.put {fr fr' : Fr} (d : Nat) (v : Value) (hd : look fr d = none) (hl : FrLe fr fr') : FrLe fr (putF (some d) v fr') := by
  intro i u hi
  rw [look_put]
  by_cases e : i = d
  · subst e; rw [hd] at hi; cases hi
  · rw [if_neg e]; exact hl i u hi
theorem FrLe.look {fr fr' : Fr} (hl : FrLe fr fr') {i : Nat} {v : Value} (h : look fr i = some v) : look fr' i = some v := hl i v h

/-! drawn regions -/
def opAt : List Oper → Nat → Option Oper
  | [], _ => none
  | o :: _, 0 => some o
  | _ :: r, i + 1 => opAt r i
theorem opAt_eq {ops : Array Oper} {i : Nat} {o : Oper} (h : opAt ops.toList i = some o) : ops[i]? = some o := by
  have gen : ∀ (l : List Oper) (i : Nat), opAt l i = l[i]? := by
    intro l
    induction l with
    | nil => intro i; simp [opAt]
    | cons o r ih => intro i; cases i with | zero => rfl | succ i => simpa [opAt] using ih i
  rw [gen] at h; simpa using h
theorem Dp {ops : Array Oper} {cl : Nat → Nat} {i : Nat} {rest : List Nat} {K : Fr → AH → Prop} {u : Value} (ho' : opAt ops.toList i = some o) (hc : cl i = 0) (hg : o.guard = none) (hd : dstOk N o.dst = true) (he : PureEv P ro o fr u)
    (h : DOps P B ro N ops cl K rest (putF o.dst u fr) σ) : DOps P B ro N ops cl K (i :: rest) fr σ := by
  have ho := opAt_eq ho'
  unfold DOps D1; rw [ho]; dsimp only; rw [hc]
  exact ⟨hd, u, by unfold RVal; rw [hg]; exact he, h⟩
/-- an operation that reads what is owned, and turns nothing -/
theorem Dr {ops : Array Oper} {cl : Nat → Nat} {i : Nat} {rest : List Nat} {K : Fr → AH → Prop} {u : Value} (ho' : opAt ops.toList i = some o) (hc : cl i = 3) (hg : o.guard = none) (hd : dstOk N o.dst = true) (he : ReadEv P ro σ o fr u)
    (h : DOps P B ro N ops cl K rest (putF o.dst u fr) σ) : DOps P B ro N ops cl K (i :: rest) fr σ := by
  have ho := opAt_eq ho'
  unfold DOps D1; rw [ho]; dsimp only; rw [hc]
  exact ⟨hd, u, by unfold RVal; rw [hg]; exact he, h⟩
theorem FamEv.of_new {ob : Obj} {mk : Nat → Value} (he : NewEv P ro o fr ob mk) : FamEv P ro o fr fun _ => (ob, mk) := by
  intro ρ hρ Q σ
  obtain ⟨k, k1, k2⟩ := he ρ hρ
  rw [awp_of_newOf _ k1]
  exact ⟨fun h n b hb hs => (awp_of_aread _ (k2 b)).1 (h b hb hs), fun h b hb hs => (awp_of_aread _ (k2 b)).2 (h 0 b hb hs)⟩
theorem Da {ops : Array Oper} {cl : Nat → Nat} {i : Nat} {rest : List Nat} {K : Fr → AH → Prop} {ob : Obj} {mk : Nat → Value} (ho' : opAt ops.toList i = some o) (hc : cl i = 1) (hg : o.guard = none) (hd : dstOk N o.dst = true) (he : NewEv P ro o fr ob mk)
    (h : ∀ b, ro b = none → σ b = none → DOps P B ro N ops cl K rest (putF o.dst (mk b) fr) (upd σ b ob)) : DOps P B ro N ops cl K (i :: rest) fr σ := by
  have ho := opAt_eq ho'
  unfold DOps D1; rw [ho]; dsimp only; rw [hc]
  exact ⟨hd, some _, by unfold NVal; rw [hg]; exact ⟨_, rfl, FamEv.of_new he⟩, fun n b hb hs => h b hb hs⟩
theorem Dg {ops : Array Oper} {cl : Nat → Nat} {i : Nat} {rest : List Nat} {K : Fr → AH → Prop} (ho' : opAt ops.toList i = some o) (hc : cl i = 2) (hg : o.guard = none) (hd : dstOk N o.dst = true)
    (h : AExec P B ro o (DOps P B ro N ops cl K rest) fr σ) : DOps P B ro N ops cl K (i :: rest) fr σ := by
  have ho := opAt_eq ho'
  unfold DOps D1; rw [ho]; dsimp only; rw [hc]
  refine ⟨hd, ?_⟩; rw [hg]; exact h
theorem join_none_right (σ : AH) : join σ (fun _ => none) = σ := by
  funext b; unfold join; cases σ b <;> rfl
/-- a region that draws its order, nothing lent -/
theorem AW.drawn0 {ops : Array Oper} {id : Nat} {Q : Exit → Fr → AH → Prop} (cl : Nat → Nat) (anc : List (Nat × Nat)) (l : List Nat) (hm : P.follows .mixedOrders = true)
    (hc : (chk ops cl anc l && ancOk ops anc && full ops.size l && (l.length == ops.size)) = true)
    (h : DOps P B ro N ops cl (fun fr σ => ∃ fr', FrEq fr' fr ∧ Q .normal fr' σ) l fr σ) : AW P B ro N (.region id ops true) Q fr σ := by
  have := AW.drawn (P := P) (B := B) (ro := ro) (N := N) (ops := ops) (id := id) (Q := Q) (fr := fr) (ψ := fun _ => none) (σ := σ) cl anc l hm (fun _ _ h => by cases h) hc (by
    rw [join_none_right]
    refine DOps_mono ?_ l h
    rintro fr σ ⟨fr', h1, h2⟩
    exact ⟨fr', h1, fun _ => h2⟩)
  exact this
where
  DOps_mono {ops : Array Oper} {ro : AH} {cl : Nat → Nat} {K K' : Fr → AH → Prop} (h : ∀ fr σ, K fr σ → K' fr σ) : ∀ (l : List Nat) {fr : Fr} {σ : AH}, DOps P B ro N ops cl K l fr σ → DOps P B ro N ops cl K' l fr σ := by
    intro l
    induction l with
    | nil => intro fr σ hx; exact h _ _ hx
    | cons i r ih =>
      intro fr σ hx
      unfold DOps D1 at hx ⊢
      split at hx
      · exact hx
      · split at hx
        · obtain ⟨h0, u, h1, h2⟩ := hx; exact ⟨h0, u, h1, ih h2⟩
        · obtain ⟨h0, u, h1, h2⟩ := hx; exact ⟨h0, u, h1, ih h2⟩
        · obtain ⟨h0, F, h1, h2⟩ := hx; exact ⟨h0, F, h1, h2.map fun v σ hk => ih hk⟩
        · exact hx.mono fun fr σ => ih
/-- some of what is owned is lent while the region runs -/
def lent (σ : AH) (K : AH → AH → Prop) : Prop := ∃ ψ τ, Disj ψ τ ∧ σ = join ψ τ ∧ K ψ τ
theorem AW.drawnL {ops : Array Oper} {id : Nat} {Q : Exit → Fr → AH → Prop} {K : AH → AH → Prop} (cl : Nat → Nat) (anc : List (Nat × Nat)) (l : List Nat) (hm : P.follows .mixedOrders = true) (hl : lent σ K)
    (hc : (chk ops cl anc l && ancOk ops anc && full ops.size l && (l.length == ops.size)) = true)
    (h : ∀ ψ τ, K ψ τ → DOps P B (join ro ψ) N ops cl (fun fr σ => ∃ fr', FrEq fr' fr ∧ (Disj ψ σ → Q .normal fr' (join ψ σ))) l fr τ) : AW P B ro N (.region id ops true) Q fr σ := by
  obtain ⟨ψ, τ, hd, rfl, hk⟩ := hl
  exact AW.drawn cl anc l hm hd hc (h ψ τ hk)
theorem Dend {K : Fr → AH → Prop} {ops : Array Oper} {cl : Nat → Nat} (h : K fr σ) : DOps P B ro N ops cl (fun fr σ => ∃ fr', FrEq fr' fr ∧ K fr' σ) [] fr σ := ⟨fr, FrEq.refl _, h⟩

/-! code -/
theorem AW.iff {Q : Exit → Fr → AH → Prop} {c : Operand} {x y : Code} {b : Bool} {p : Prop} [Decidable p] {X Y : Prop} (hc : evalF fr c = some (.bool b)) (hi : b = true ↔ p) (h : if p then X else Y)
    (ht : X → AW P B ro N x Q fr σ) (hn : Y → AW P B ro N y Q fr σ) : AW P B ro N (.cond c x y) Q fr σ := by
  refine AW.cond hc (fun e => ht ?_) (fun e => hn ?_)
  · rw [if_pos (hi.1 e)] at h; exact h
  · rw [if_neg (fun q => by rw [hi.2 q] at e; cases e)] at h; exact h
theorem AW.yes {Q : Exit → Fr → AH → Prop} {c : Operand} {x y : Code} (hc : evalF fr c = some (.bool true)) (h : AW P B ro N x Q fr σ) : AW P B ro N (.cond c x y) Q fr σ := AW.cond hc (fun _ => h) (fun e => by cases e)
theorem AW.no {Q : Exit → Fr → AH → Prop} {c : Operand} {x y : Code} (hc : evalF fr c = some (.bool false)) (h : AW P B ro N y Q fr σ) : AW P B ro N (.cond c x y) Q fr σ := AW.cond hc (fun e => by cases e) (fun _ => h)
theorem AW.seqJ {Q : Exit → Fr → AH → Prop} {x y : Code} (J : Fr → AH → Prop) (hy : ∀ fr σ, J fr σ → AW P B ro N y Q fr σ) (hx : AW P B ro N x (thenQ J Q) fr σ) : AW P B ro N (.seq x y) Q fr σ := by
  refine AW.seq ?_
  intro φ w a ho hf
  refine wp_mono (hx φ w a ho hf) ?_
  rintro e a' w' ⟨fr', σ', hq, ho', hf'⟩
  cases e with
  | normal => exact ⟨fr', σ', hy _ _ hq, ho', hf'⟩
  | _ => exact ⟨fr', σ', hq, ho', hf'⟩
/-! results -/
theorem map_pure' {α β : Type} (f : α → β) (x : α) : f <$> (Sem.pure x : Sem α) = Sem.pure (f x) := rfl
theorem ret0 {fn : Func} {R : Value → AH → Prop} (hr : fn.results = #[]) (h : R (.tuple #[]) σ) : ∃ v, (∀ tmps : Array Value, (∀ i u, look fr i = some u → tmps[i]? = some u) → aread P ro (results fn tmps) σ = some v) ∧ R v σ := by
  refine ⟨_, fun tmps ht => ?_, h⟩
  simp [results, hr, pure, bind, Sem.bind, map_pure', aread]
theorem ret1 {fn : Func} {R : Value → AH → Prop} {a : Nat} {x : Value} (hr : fn.results = #[.tmp a]) (ha : look fr a = some x) (h : R x σ) : ∃ v, (∀ tmps : Array Value, (∀ i u, look fr i = some u → tmps[i]? = some u) → aread P ro (results fn tmps) σ = some v) ∧ R v σ := by
  refine ⟨_, fun tmps ht => ?_, h⟩
  have := ht a x ha
  simp [results, hr, pure, bind, Sem.bind, map_pure', aread, Array.getD_eq_getD_getElem?, this]
theorem ret2 {fn : Func} {R : Value → AH → Prop} {a b : Nat} {x y : Value} (hr : fn.results = #[.tmp a, .tmp b]) (ha : look fr a = some x) (hb : look fr b = some y) (h : R (.tuple #[x, y]) σ) :
    ∃ v, (∀ tmps : Array Value, (∀ i u, look fr i = some u → tmps[i]? = some u) → aread P ro (results fn tmps) σ = some v) ∧ R v σ := by
  refine ⟨_, fun tmps ht => ?_, h⟩
  have h1 := ht a x ha
  have h2 := ht b y hb
  simp [results, hr, pure, bind, Sem.bind, map_pure', aread, Array.getD_eq_getD_getElem?, h1, h2]
theorem ret3 {fn : Func} {R : Value → AH → Prop} {a b c : Nat} {x y z : Value} (hr : fn.results = #[.tmp a, .tmp b, .tmp c]) (ha : look fr a = some x) (hb : look fr b = some y) (hc : look fr c = some z) (h : R (.tuple #[x, y, z]) σ) :
    ∃ v, (∀ tmps : Array Value, (∀ i u, look fr i = some u → tmps[i]? = some u) → aread P ro (results fn tmps) σ = some v) ∧ R v σ := by
  refine ⟨_, fun tmps ht => ?_, h⟩
  have h1 := ht a x ha
  have h2 := ht b y hb
  have h3 := ht c z hc
  simp [results, hr, pure, bind, Sem.bind, map_pure', aread, Array.getD_eq_getD_getElem?, h1, h2, h3]
end
end Go.Proofs.YtomdigihapdhnaaGreatDoor.SL

/- The base, sixth part: the operations one by one. Generic over any program. -/
namespace Go.Proofs.YtomdigihapdhnaaGreatDoor.SL
open Go
section
variable {P : Program} {B : World} {ro : AH} {N : Nat} {o : Oper} {fr : Fr} {σ : AH} {x y z : Operand} {v : Value}

theorem bind_pure' {α β : Type} (a : α) (f : α → Sem β) : (Sem.pure a : Sem α).bind f = f a := rfl
theorem pure_def {α : Type} (a : α) : (pure a : Sem α) = Sem.pure a := rfl
theorem bind_def {α β : Type} (s : Sem α) (f : α → Sem β) : (s >>= f) = s.bind f := rfl
theorem program_bind {β : Type} (f : Program → Sem β) : Sem.bind program f = Sem.program fun p => f p := rfl
theorem underlying_bind {β : Type} (t : TypeId) (f : TypeDesc → Sem β) {d : TypeDesc} (h : P.underlying t = some d) {τ : AH} : aread P ro (Sem.bind (underlying t) f) τ = aread P ro (f d) τ := by
  unfold underlying
  simp only [bind_def, program_bind]
  show aread P ro (Sem.bind (match P.underlying t with | some d => pure d | none => stuck "no such type") f) τ = _
  rw [h]; rfl

/-- A step whose meaning, at these operands, is to give a value that another meaning gives. -/
theorem V_sem {s : Sem Value} {u : Value} (h : ∀ ρ, Agrees ρ fr → execOp ρ o = (do pure (.value (← s)))) (hs : aread P ro s (fun _ => none) = some u) : PureEv P ro o fr u := by
  intro ρ hρ
  rw [h ρ hρ]
  exact aread_bind s hs
where
  aread_bind (s : Sem Value) {u : Value} (hs : aread P ro s (fun _ => none) = some u) : aread P ro (s.bind fun v => Sem.pure (Next.value v)) (fun _ => none) = some (.value u) := by
    induction s with
    | pure a => cases hs; rfl
    | load m a k ih =>
      simp only [aread] at hs
      simp only [Sem.bind, aread]
      split at hs
      · rename_i v hv; exact ih _ hs
      · cases hs
    | program k ih => exact ih _ hs
    | mark m k ih => exact ih hs
    | _ => cases hs
theorem X_sem {K : Fr → AH → Prop} {s : Sem Value} (h : ∀ ρ, Agrees ρ fr → execOp ρ o = (do pure (.value (← s)))) (hs : awp P ro s (fun v σ => K (putF o.dst v fr) σ) σ) : AExec P B ro o K fr σ := by
  intro ρ hρ
  rw [h ρ hρ, awp_bind]
  exact awp_mono _ hs fun _ _ h => h
theorem X_semU {K : Fr → AH → Prop} {s : Sem Unit} (h : ∀ ρ, Agrees ρ fr → execOp ρ o = (do s; pure .skip)) (hs : awp P ro s (fun _ σ => K (putF o.dst undef fr) σ) σ) : AExec P B ro o K fr σ := by
  intro ρ hρ
  rw [h ρ hρ, awp_bind]
  exact awp_mono _ hs fun _ _ h => h

theorem V_move (ho : o.op = .move x) (hx : evalF fr x = some v) : PureEv P ro o fr v := by
  intro ρ hρ; unfold execOp; rw [ho]; simp only [hρ _ _ hx]; rfl
theorem V_asg (ho : o.op = .assign x) (hx : evalF fr x = some v) : PureEv P ro o fr v := by
  intro ρ hρ; unfold execOp; rw [ho]; simp only [hρ _ _ hx]; rfl
theorem V_ext {vs : Array Value} {i : Nat} (ho : o.op = .extract x i) (hx : evalF fr x = some (.tuple vs)) (hv : vs[i]? = some v) : PureEv P ro o fr v := by
  refine V_sem (s := Instr.extract (.tuple vs) i) (fun ρ hρ => ?_) (by unfold Instr.extract; simp only [hv]; rfl)
  unfold execOp; rw [ho]; simp only [hρ _ _ hx]

/-! numbers -/
theorem binI {op : BinOp} {t u : TypeId} {k : IntKind} {a b : Int} (ho : o.op = .binOp op t x y u) (hx : evalF fr x = some (.int k a)) (hy : evalF fr y = some (.int k b)) (hs : aread P ro (Go.binOp op t (.int k a) (.int k b)) (fun _ => none) = some v) : PureEv P ro o fr v := by
  refine V_sem (s := do eqGuard op t x y (.int k a) (.int k b); Go.binOp op t (.int k a) (.int k b)) (fun ρ hρ => ?_) ?_
  · unfold execOp; rw [ho]; simp only [hρ _ _ hx, hρ _ _ hy]
  · unfold eqGuard; cases op <;> exact hs
theorem V_lss {t u : TypeId} {k : IntKind} {a b : Int} (ho : o.op = .binOp .lss t x y u) (hx : evalF fr x = some (.int k a)) (hy : evalF fr y = some (.int k b)) : PureEv P ro o fr (.bool (decide (a < b))) := binI ho hx hy (by simp [Go.binOp, Op.intCmp, pure_def, aread])
theorem V_leq {t u : TypeId} {k : IntKind} {a b : Int} (ho : o.op = .binOp .leq t x y u) (hx : evalF fr x = some (.int k a)) (hy : evalF fr y = some (.int k b)) : PureEv P ro o fr (.bool (decide (a ≤ b))) := binI ho hx hy (by simp [Go.binOp, Op.intCmp, pure_def, aread])
theorem V_gtr {t u : TypeId} {k : IntKind} {a b : Int} (ho : o.op = .binOp .gtr t x y u) (hx : evalF fr x = some (.int k a)) (hy : evalF fr y = some (.int k b)) : PureEv P ro o fr (.bool (decide (b < a))) := binI ho hx hy (by simp [Go.binOp, Op.intCmp, pure_def, aread])
theorem V_geq {t u : TypeId} {k : IntKind} {a b : Int} (ho : o.op = .binOp .geq t x y u) (hx : evalF fr x = some (.int k a)) (hy : evalF fr y = some (.int k b)) : PureEv P ro o fr (.bool (decide (b ≤ a))) := binI ho hx hy (by simp [Go.binOp, Op.intCmp, pure_def, aread])
theorem V_eql {t u : TypeId} {k : IntKind} {a b : Int} (ho : o.op = .binOp .eql t x y u) (hx : evalF fr x = some (.int k a)) (hy : evalF fr y = some (.int k b)) : PureEv P ro o fr (.bool (decide (a = b))) := binI ho hx hy (by simp [Go.binOp, Op.intCmp, pure_def, aread]; rfl)
theorem V_neq {t u : TypeId} {k : IntKind} {a b : Int} (ho : o.op = .binOp .neq t x y u) (hx : evalF fr x = some (.int k a)) (hy : evalF fr y = some (.int k b)) : PureEv P ro o fr (.bool (!decide (a = b))) := binI ho hx hy (by simp [Go.binOp, Op.intCmp, pure_def, aread]; rfl)
theorem V_add {t u : TypeId} {k : IntKind} {a b : Int} (ho : o.op = .binOp .add t x y u) (hx : evalF fr x = some (.int k a)) (hy : evalF fr y = some (.int k b)) : PureEv P ro o fr (.int k (k.wrap (a + b))) := binI ho hx hy (by simp [Go.binOp, Op.intArith, pure_def, aread])
theorem V_sub {t u : TypeId} {k : IntKind} {a b : Int} (ho : o.op = .binOp .sub t x y u) (hx : evalF fr x = some (.int k a)) (hy : evalF fr y = some (.int k b)) : PureEv P ro o fr (.int k (k.wrap (a - b))) := binI ho hx hy (by simp [Go.binOp, Op.intArith, pure_def, aread])
theorem V_mul {t u : TypeId} {k : IntKind} {a b : Int} (ho : o.op = .binOp .mul t x y u) (hx : evalF fr x = some (.int k a)) (hy : evalF fr y = some (.int k b)) : PureEv P ro o fr (.int k (k.wrap (a * b))) := binI ho hx hy (by simp [Go.binOp, Op.intArith, pure_def, aread])
theorem V_quo {t u : TypeId} {k : IntKind} {a b : Int} (ho : o.op = .binOp .quo t x y u) (hx : evalF fr x = some (.int k a)) (hy : evalF fr y = some (.int k b)) (hb : b ≠ 0) : PureEv P ro o fr (.int k (k.wrap (a.tdiv b))) := binI ho hx hy (by simp [Go.binOp, Op.intDiv, pure_def, aread, hb])
theorem V_rem {t u : TypeId} {k : IntKind} {a b : Int} (ho : o.op = .binOp .rem t x y u) (hx : evalF fr x = some (.int k a)) (hy : evalF fr y = some (.int k b)) (hb : b ≠ 0) : PureEv P ro o fr (.int k (a.tmod b)) := binI ho hx hy (by simp [Go.binOp, Op.intDiv, pure_def, aread, hb])
def bitAnd (k : IntKind) (a b : Int) : Int := k.wrap (BitVec.ofInt k.bits a &&& BitVec.ofInt k.bits b).toNat
def bitOr (k : IntKind) (a b : Int) : Int := k.wrap (BitVec.ofInt k.bits a ||| BitVec.ofInt k.bits b).toNat
theorem V_and {t u : TypeId} {k : IntKind} {a b : Int} (ho : o.op = .binOp .and t x y u) (hx : evalF fr x = some (.int k a)) (hy : evalF fr y = some (.int k b)) : PureEv P ro o fr (.int k (bitAnd k a b)) := binI ho hx hy (by simp [Go.binOp, Op.intBits, pure_def, aread, bitAnd])
theorem V_or {t u : TypeId} {k : IntKind} {a b : Int} (ho : o.op = .binOp .or t x y u) (hx : evalF fr x = some (.int k a)) (hy : evalF fr y = some (.int k b)) : PureEv P ro o fr (.int k (bitOr k a b)) := binI ho hx hy (by simp [Go.binOp, Op.intBits, pure_def, aread, bitOr])
theorem binShift {op : BinOp} (hop : op = .shl ∨ op = .shr) {t u : TypeId} {k j : IntKind} {a b : Int} (ho : o.op = .binOp op t x y u) (hx : evalF fr x = some (.int k a)) (hy : evalF fr y = some (.int j b)) (hs : aread P ro (Op.shift op k a j b) (fun _ => none) = some v) : PureEv P ro o fr v := by
  refine V_sem (s := do eqGuard op t x y (.int k a) (.int j b); Go.binOp op t (.int k a) (.int j b)) (fun ρ hρ => ?_) ?_
  · unfold execOp; rw [ho]; simp only [hρ _ _ hx, hρ _ _ hy]
  · rcases hop with rfl | rfl <;> exact hs
theorem V_shl {t u : TypeId} {k j : IntKind} {a b : Int} (ho : o.op = .binOp .shl t x y u) (hx : evalF fr x = some (.int k a)) (hy : evalF fr y = some (.int j b)) (hb : 0 ≤ b) : PureEv P ro o fr (.int k (k.wrap (a * 2 ^ (min b.toNat k.bits)))) :=
  binShift (.inl rfl) ho hx hy (by unfold Op.shift; rw [if_neg (by omega)]; rfl)
theorem V_shr {t u : TypeId} {k j : IntKind} {a b : Int} (ho : o.op = .binOp .shr t x y u) (hx : evalF fr x = some (.int k a)) (hy : evalF fr y = some (.int j b)) (hb : 0 ≤ b) : PureEv P ro o fr (.int k (a.fdiv (2 ^ (min b.toNat k.bits)))) :=
  binShift (.inr rfl) ho hx hy (by unfold Op.shift; rw [if_neg (by omega)]; rfl)
theorem unS {op : UnOp} {t : TypeId} (ho : o.op = .unOp op t x) (hx : evalF fr x = some v) {u : Value} (hs : aread P ro (Op.unary op v) (fun _ => none) = some u) : PureEv P ro o fr u := by
  refine V_sem (s := Op.unary op v) (fun ρ hρ => ?_) hs
  unfold execOp; rw [ho]; simp only [hρ _ _ hx]
theorem V_not {t : TypeId} {b : Bool} (ho : o.op = .unOp .not t x) (hx : evalF fr x = some (.bool b)) : PureEv P ro o fr (.bool (!b)) := unS ho hx rfl
theorem V_cvt {s t : TypeId} {k j : IntKind} {a : Int} {d : TypeDesc} (ho : o.op = .convert s t x) (hx : evalF fr x = some (.int j a)) (hs : P.underlying s = some d) (ht : P.underlying t = some (.int k)) : PureEv P ro o fr (.int k (k.wrap a)) := by
  refine V_sem (s := convert s t (.int j a)) (fun ρ hρ => ?_) ?_
  · unfold execOp; rw [ho]; simp only [hρ _ _ hx]
  · unfold convert; show aread P ro (Sem.bind (underlying s) _) _ = _; rw [underlying_bind _ _ hs]; show aread P ro (Sem.bind (underlying t) _) _ = _; rw [underlying_bind _ _ ht]; cases d <;> rfl
/-! choices -/
theorem V_pickT {u : Value} (ho : o.op = .pick x y z) (hx : evalF fr x = some (.bool true)) (hy : evalF fr y = some u) : PureEv P ro o fr u := by
  intro ρ hρ; unfold execOp; rw [ho]; simp only [hρ _ _ hx, hρ _ _ hy]; rfl
theorem V_pickF {u : Value} (ho : o.op = .pick x y z) (hx : evalF fr x = some (.bool false)) (hz : evalF fr z = some u) : PureEv P ro o fr u := by
  intro ρ hρ; unfold execOp; rw [ho]; simp only [hρ _ _ hx, hρ _ _ hz]; rfl

/-! texts -/
theorem toList_inj {a b : ByteArray} (h : a.toList = b.toList) : a = b := by
  rw [ByteArray.toList_eq, ByteArray.toList_eq] at h
  exact ByteArray.ext (Array.toList_inj.1 h)
theorem binSt {op : BinOp} {t u : TypeId} {a b : ByteArray} (ho : o.op = .binOp op t x y u) (hx : evalF fr x = some (.string a)) (hy : evalF fr y = some (.string b)) (hop : op ≠ .shl ∧ op ≠ .shr) (hs : aread P ro (Op.stringOp op a b) (fun _ => none) = some v) : PureEv P ro o fr v := by
  refine V_sem (s := do eqGuard op t x y (.string a) (.string b); Go.binOp op t (.string a) (.string b)) (fun ρ hρ => ?_) ?_
  · unfold execOp; rw [ho]; simp only [hρ _ _ hx, hρ _ _ hy]
  · unfold eqGuard; cases op <;> first | exact hs | exact absurd rfl hop.1 | exact absurd rfl hop.2
theorem eqS {a b : ByteArray} : (a.toList == b.toList) = decide (a = b) := by
  by_cases h : a = b
  · subst h; simp
  · rw [decide_eq_false h]
    cases e : (a.toList == b.toList) with
    | false => rfl
    | true => exact absurd (toList_inj (by simpa using e)) h
theorem V_eqlS {t u : TypeId} {a b : ByteArray} (ho : o.op = .binOp .eql t x y u) (hx : evalF fr x = some (.string a)) (hy : evalF fr y = some (.string b)) : PureEv P ro o fr (.bool (decide (a = b))) := binSt ho hx hy (by simp) (by simp only [Op.stringOp, eqS]; rfl)
theorem V_cat {t u : TypeId} {a b : ByteArray} (ho : o.op = .binOp .add t x y u) (hx : evalF fr x = some (.string a)) (hy : evalF fr y = some (.string b)) (h : a.size + b.size ≤ 9223372036854775807) : PureEv P ro o fr (.string (a ++ b)) :=
  binSt ho hx hy (by simp) (by unfold Op.stringOp; dsimp only; rw [if_neg (by simp only [IntKind.max, IntKind.signed, IntKind.bits, if_true]; omega)]; rfl)
theorem V_lenS {t : TypeId} {ts : Array TypeId} {ars : Array Operand} {a : ByteArray} (ho : o.op = .call { callee := .builtin .len, args := ars, argTypes := ts }) (ht : ts[0]? = some t) (hu : P.underlying t = some .string) (ha : ars = #[x]) (hx : evalF fr x = some (.string a)) : PureEv P ro o fr (.int .i64 a.size) := by
  refine V_sem (s := Builtin.len_ ts o.type #[.string a]) (fun ρ hρ => ?_) ?_
  · unfold execOp; rw [ho]; subst ha; simp [resolve, invoke, builtin, hρ _ _ hx, pure_def, bind_def, bind_pure']
  · unfold Builtin.len_; simp only [ht, bind_def]; rw [show (#[Value.string a] : Array Value)[0]? = some (.string a) from rfl]; dsimp only; rw [underlying_bind _ _ hu]; rfl
theorem V_lenL {t e : TypeId} {ts : Array TypeId} {ars : Array Operand} {a : Option Addr} {n c : Nat} (ho : o.op = .call { callee := .builtin .len, args := ars, argTypes := ts }) (ht : ts[0]? = some t) (hu : P.underlying t = some (.slice e)) (ha : ars = #[x]) (hx : evalF fr x = some (.slice a n c)) : PureEv P ro o fr (.int .i64 n) := by
  refine V_sem (s := Builtin.len_ ts o.type #[.slice a n c]) (fun ρ hρ => ?_) ?_
  · unfold execOp; rw [ho]; subst ha; simp [resolve, invoke, builtin, hρ _ _ hx, pure_def, bind_def, bind_pure']
  · unfold Builtin.len_; simp only [ht, bind_def]; rw [show (#[Value.slice a n c] : Array Value)[0]? = some (.slice a n c) from rfl]; dsimp only; rw [underlying_bind _ _ hu]; rfl
theorem V_idxS {t : TypeId} {a : ByteArray} {k : IntKind} {i : Int} {b : UInt8} (ho : o.op = .index t x y) (hu : P.underlying t = some .string) (hx : evalF fr x = some (.string a)) (hy : evalF fr y = some (.int k i)) (h0 : 0 ≤ i) (hb : a[i.toNat]? = some b) : PureEv P ro o fr (.int .u8 b.toNat) := by
  refine V_sem (s := Instr.index t (.string a) (.int k i)) (fun ρ hρ => ?_) ?_
  · unfold execOp; rw [ho]; simp only [hρ _ _ hx, hρ _ _ hy]
  · unfold Instr.index
    show aread P ro (Sem.bind (underlying t) _) _ = _
    rw [underlying_bind _ _ hu]
    dsimp only
    rw [if_pos h0, hb]; rfl
end
end Go.Proofs.YtomdigihapdhnaaGreatDoor.SL

/- The base, seventh part: operations that touch memory; calls. Generic over any program. -/
namespace Go.Proofs.YtomdigihapdhnaaGreatDoor.SL
open Go
section
variable {P : Program} {B : World} {ro : AH} {N : Nat} {o : Oper} {fr : Fr} {σ : AH} {x y z : Operand} {v : Value}

/-! ### 12. Reading the types' table -/
theorem typeInfo_bind {β : Type} (t : TypeId) (f : TypeInfo → Sem β) {d : TypeInfo} (h : P.info? t = some d) {τ : AH} : aread P ro (Sem.bind (typeInfo t) f) τ = aread P ro (f d) τ := by
  unfold typeInfo
  simp only [bind_def, program_bind]
  show aread P ro (Sem.bind (match P.info? t with | some i => pure i | none => stuck "no such type") f) τ = _
  rw [h]; rfl
theorem awp_underlying {β : Type} {t : TypeId} {f : TypeDesc → Sem β} {d : TypeDesc} (h : P.underlying t = some d) {Q : β → AH → Prop} : awp P ro (Sem.bind (underlying t) f) Q σ ↔ awp P ro (f d) Q σ := by
  unfold underlying
  simp only [bind_def, program_bind]
  show awp P ro (Sem.bind (match P.underlying t with | some d => pure d | none => stuck "no such type") f) Q σ ↔ _
  rw [h]; rfl
theorem awp_typeInfo {β : Type} {t : TypeId} {f : TypeInfo → Sem β} {d : TypeInfo} (h : P.info? t = some d) {Q : β → AH → Prop} : awp P ro (Sem.bind (typeInfo t) f) Q σ ↔ awp P ro (f d) Q σ := by
  unfold typeInfo
  simp only [bind_def, program_bind]
  show awp P ro (Sem.bind (match P.info? t with | some i => pure i | none => stuck "no such type") f) Q σ ↔ _
  rw [h]; rfl
/-- A type's row of the table: its zero value, how many cells, how many bytes. -/
def TyIs (P : Program) (t : TypeId) (zero : Value) (size bytes : Nat) : Prop := ∃ i, P.info? t = some i ∧ i.zero = some zero ∧ i.size = size ∧ i.bytes = bytes
theorem TyIs.of {t : TypeId} {zero : Value} {size bytes : Nat} (h : (P.info? t).map (fun i => (i.zero, i.size, i.bytes)) = some (some zero, size, bytes)) : TyIs P t zero size bytes := by
  cases e : P.info? t with
  | none => rw [e] at h; cases h
  | some i => rw [e] at h; simp at h; exact ⟨i, e, h.1, h.2.1, h.2.2⟩
theorem awp_zero {β : Type} {t : TypeId} {zv : Value} {s b : Nat} (h : TyIs P t zv s b) {f : Value → Sem β} {Q : β → AH → Prop} : awp P ro (Sem.bind (zeroValue t) f) Q σ ↔ awp P ro (f zv) Q σ := by
  obtain ⟨i, h1, h2, _, _⟩ := h
  unfold zeroValue
  show awp P ro (Sem.bind (Sem.bind (typeInfo t) _) f) Q σ ↔ _
  rw [show ∀ (g : TypeInfo → Sem Value), Sem.bind (Sem.bind (typeInfo t) g) f = Sem.bind (typeInfo t) fun i => Sem.bind (g i) f from fun g => bind_assoc' _ _ _]
  rw [awp_typeInfo h1, h2]; rfl
where
  bind_assoc' {α β γ : Type} (s : Sem α) (f : α → Sem β) (g : β → Sem γ) : Sem.bind (Sem.bind s f) g = Sem.bind s fun a => Sem.bind (f a) g := by
    induction s with
    | pure a => rfl
    | load m a k ih => simp only [Sem.bind]; congr; funext v; exact ih v
    | store m a v k ih => simp only [Sem.bind]; congr
    | new o k ih => simp only [Sem.bind]; congr; funext v; exact ih v
    | shape r k ih => simp only [Sem.bind]; congr; funext v; exact ih v
    | freeze a n k ih => simp only [Sem.bind]; congr
    | frozen a k ih => simp only [Sem.bind]; congr; funext v; exact ih v
    | getObj r k ih => simp only [Sem.bind]; congr; funext v; exact ih v
    | setObj r o k ih => simp only [Sem.bind]; congr
    | choose q k ih => simp only [Sem.bind]; congr; funext v; exact ih v
    | sys c k ih => simp only [Sem.bind]; congr; funext v; exact ih v
    | program k ih => simp only [Sem.bind]; congr; funext v; exact ih v
    | mark m k ih => simp only [Sem.bind]; congr
    | halt e => rfl
theorem bind_assoc' {α β γ : Type} (s : Sem α) (f : α → Sem β) (g : β → Sem γ) : Sem.bind (Sem.bind s f) g = Sem.bind s fun a => Sem.bind (f a) g := awp_zero.bind_assoc' s f g
theorem awp_size {β : Type} {t : TypeId} {zv : Value} {s b : Nat} (h : TyIs P t zv s b) {f : Nat → Sem β} {Q : β → AH → Prop} : awp P ro (Sem.bind (sizeOf t) f) Q σ ↔ awp P ro (f s) Q σ := by
  obtain ⟨i, h1, _, h3, _⟩ := h
  unfold sizeOf
  show awp P ro (Sem.bind (Sem.bind (typeInfo t) _) f) Q σ ↔ _
  rw [bind_assoc', awp_typeInfo h1, ← h3]; rfl
theorem aread_size {β : Type} {t : TypeId} {zv : Value} {s b : Nat} (h : TyIs P t zv s b) {f : Nat → Sem β} {τ : AH} : aread P ro (Sem.bind (sizeOf t) f) τ = aread P ro (f s) τ := by
  obtain ⟨i, h1, _, h3, _⟩ := h
  unfold sizeOf
  show aread P ro (Sem.bind (Sem.bind (typeInfo t) _) f) τ = _
  rw [bind_assoc', typeInfo_bind _ _ h1, ← h3]; rfl
theorem aread_zero {β : Type} {t : TypeId} {zv : Value} {s b : Nat} (h : TyIs P t zv s b) {f : Value → Sem β} {τ : AH} : aread P ro (Sem.bind (zeroValue t) f) τ = aread P ro (f zv) τ := by
  obtain ⟨i, h1, h2, _, _⟩ := h
  unfold zeroValue
  show aread P ro (Sem.bind (Sem.bind (typeInfo t) _) f) τ = _
  rw [bind_assoc', typeInfo_bind _ _ h1, h2]; rfl
def isAggD : TypeDesc → Bool
  | .struct _ => true
  | .array _ _ => true
  | _ => false
theorem awp_isAgg {β : Type} {t : TypeId} {d : TypeDesc} (h : P.underlying t = some d) {f : Bool → Sem β} {Q : β → AH → Prop} : awp P ro (Sem.bind (isAgg t) f) Q σ ↔ awp P ro (f (isAggD d)) Q σ := by
  unfold isAgg
  show awp P ro (Sem.bind (Sem.bind (underlying t) _) f) Q σ ↔ _
  rw [bind_assoc', awp_underlying h]; cases d <;> rfl
theorem aread_isAgg {β : Type} {t : TypeId} {d : TypeDesc} (h : P.underlying t = some d) {f : Bool → Sem β} {τ : AH} : aread P ro (Sem.bind (isAgg t) f) τ = aread P ro (f (isAggD d)) τ := by
  unfold isAgg
  show aread P ro (Sem.bind (Sem.bind (underlying t) _) f) τ = _
  rw [bind_assoc', underlying_bind _ _ h]; cases d <;> rfl

/-! ### 13. Addresses -/
@[simp] theorem add_zero (a : Addr) : a.add 0 = a := rfl
@[simp] theorem add_add (b i n : Nat) : (⟨b, i, none⟩ : Addr).add n = ⟨b, i + n, none⟩ := by
  unfold Addr.add; by_cases h : n = 0 <;> simp [h]
theorem V_nil {a : Addr} (ho : o.op = .nilCheck x) (hx : evalF fr x = some (.pointer (some a))) : PureEv P ro o fr (.pointer (some a)) := by
  intro ρ hρ; unfold execOp; rw [ho]; simp only [hρ _ _ hx]; rfl
theorem V_fld {s : TypeId} {f : Nat} {fs : Array Field} {fd : Field} {a : Addr} {zv : Value} {n b : Nat} (ho : o.op = .fieldAddr s x f) (hs : P.underlying s = some (.struct fs)) (hf : fs[f]? = some fd) (hz : TyIs P fd.type zv n b) (hn : n ≠ 0)
    (hx : evalF fr x = some (.pointer (some a))) : PureEv P ro o fr (.pointer (some (a.add fd.offset))) := by
  refine V_sem (s := Instr.fieldAt s (.pointer (some a)) f) (fun ρ hρ => ?_) ?_
  · unfold execOp; rw [ho]; simp only [hρ _ _ hx]
  · unfold Instr.fieldAt
    show aread P ro (Sem.bind (underlying s) _) _ = _
    rw [underlying_bind _ _ hs]; dsimp only; rw [hf]; dsimp only [Instr.sureAddr]
    show aread P ro (Sem.bind (fieldPlace a fd) _) _ = _
    unfold fieldPlace
    show aread P ro (Sem.bind (Sem.bind (sizeOf fd.type) _) _) _ = _
    rw [bind_assoc', aread_size hz, if_neg hn]; rfl
theorem V_ixA {t e : TypeId} {a : Addr} {n c : Nat} {k : IntKind} {i : Int} {zv : Value} {s b : Nat} (ho : o.op = .indexAddr t x y) (ht : P.underlying t = some (.slice e)) (hz : TyIs P e zv s b)
    (hx : evalF fr x = some (.slice (some a) n c)) (hy : evalF fr y = some (.int k i)) (h0 : 0 ≤ i) (h1 : i < n) : PureEv P ro o fr (.pointer (some (a.add (i.toNat * s)))) := by
  refine V_sem (s := Instr.indexAt t (.slice (some a) n c) (.int k i)) (fun ρ hρ => ?_) ?_
  · unfold execOp; rw [ho]; simp only [hρ _ _ hx, hρ _ _ hy]
  · unfold Instr.indexAt
    show aread P ro (Sem.bind (underlying t) _) _ = _
    rw [underlying_bind _ _ ht]
    simp only [bind_def, pure_def, bind_pure']
    rw [underlying_bind _ _ ht, if_pos ⟨h0, h1⟩, aread_size hz]; rfl
theorem V_ixP {t e : TypeId} {a : Addr} {n : Nat} {k : IntKind} {i : Int} {zv : Value} {s b : Nat} (ho : o.op = .indexAddr t x y) (ht : P.underlying t = some (.array n e)) (hz : TyIs P e zv s b)
    (hx : evalF fr x = some (.pointer (some a))) (hy : evalF fr y = some (.int k i)) (h0 : 0 ≤ i) (h1 : i < n) : PureEv P ro o fr (.pointer (some (a.add (i.toNat * s)))) := by
  refine V_sem (s := Instr.indexAt t (.pointer (some a)) (.int k i)) (fun ρ hρ => ?_) ?_
  · unfold execOp; rw [ho]; simp only [hρ _ _ hx, hρ _ _ hy]
  · unfold Instr.indexAt
    show aread P ro (Sem.bind (underlying t) _) _ = _
    rw [underlying_bind _ _ ht]
    simp only [bind_def, pure_def, bind_pure', Instr.sureAddr]
    rw [underlying_bind _ _ ht, if_pos ⟨h0, h1⟩, aread_size hz]; rfl

/-! ### 14. Loads and stores -/
theorem awp_ld {t : TypeId} {d : TypeDesc} {a : Addr} (ht : P.underlying t = some d) (hd : isAggD d = false) {Q : Value → AH → Prop} : awp P ro (loadVar t a) Q σ ↔ ∃ v, acell ro σ a = some v ∧ Q v σ := by
  unfold loadVar
  show awp P ro (Sem.bind (isAgg t) _) Q σ ↔ _
  rw [awp_isAgg ht, hd]; rfl
theorem X_ld {K : Fr → AH → Prop} {t : TypeId} {d : TypeDesc} {a : Addr} (ho : o.op = .load t x) (ht : P.underlying t = some d) (hd : isAggD d = false) (hx : evalF fr x = some (.pointer (some a))) (hc : acell ro σ a = some v) (h : K (putF o.dst v fr) σ) : AExec P B ro o K fr σ := by
  refine X_sem (s := loadVar t a) (fun ρ hρ => ?_) ((awp_ld ht hd).2 ⟨v, hc, h⟩)
  unfold execOp; rw [ho]; simp only [hρ _ _ hx]; rfl
theorem V_ld {t : TypeId} {d : TypeDesc} {a : Addr} (ho : o.op = .load t x) (ht : P.underlying t = some d) (hd : isAggD d = false) (hx : evalF fr x = some (.pointer (some a))) (hc : acell ro (fun _ => none) a = some v) : PureEv P ro o fr v := by
  refine V_sem (s := loadVar t a) (fun ρ hρ => ?_) ?_
  · unfold execOp; rw [ho]; simp only [hρ _ _ hx]; rfl
  · unfold loadVar
    show aread P ro (Sem.bind (isAgg t) _) _ = _
    rw [aread_isAgg ht, hd]
    show aread P ro (Sem.load .plain a .pure) _ = _
    simp only [aread, hc]
/-- The cells from a place on hold these values. -/
def cellsAt (ro σ : AH) (a : Addr) : Nat → List Value → Prop
  | _, [] => True
  | i, v :: r => acell ro σ (a.add i) = some v ∧ cellsAt ro σ a (i + 1) r
theorem awp_loadCells {a : Addr} {Q : Array Value → AH → Prop} : ∀ (vs : List Value) (i : Nat) (acc : Array Value), cellsAt ro σ a i vs → Q (acc ++ vs.toArray) σ → awp P ro (loadCellsFrom a i vs.length acc) Q σ := by
  intro vs
  induction vs with
  | nil => intro i acc _ h; show Q acc σ; simpa using h
  | cons v r ih =>
    intro i acc hc h
    obtain ⟨h1, h2⟩ := hc
    show awp P ro (Sem.bind (load (a.add i)) _) Q σ
    refine ⟨v, h1, ?_⟩
    exact ih (i + 1) (acc.push v) h2 (by simpa using h)
theorem aread_loadCells {a : Addr} : ∀ (vs : List Value) (i : Nat) (acc : Array Value), cellsAt ro σ a i vs → aread P ro (loadCellsFrom a i vs.length acc) σ = some (acc ++ vs.toArray) := by
  intro vs
  induction vs with
  | nil => intro i acc _; show some acc = _; simp
  | cons v r ih =>
    intro i acc hc
    obtain ⟨h1, h2⟩ := hc
    show aread P ro (Sem.load .plain (a.add i) _) σ = _
    simp only [aread, h1]
    refine (ih (i + 1) (acc.push v) h2).trans ?_
    simp
theorem X_lda {K : Fr → AH → Prop} {t : TypeId} {d : TypeDesc} {a : Addr} {vs : List Value} {zv : Value} {b : Nat} (ho : o.op = .load t x) (ht : P.underlying t = some d) (hd : isAggD d = true) (hz : TyIs P t zv vs.length b) (hx : evalF fr x = some (.pointer (some a)))
    (hc : cellsAt ro σ a 0 vs) (h : K (putF o.dst (.agg vs.toArray) fr) σ) : AExec P B ro o K fr σ := by
  refine X_sem (s := loadVar t a) (fun ρ hρ => ?_) ?_
  · unfold execOp; rw [ho]; simp only [hρ _ _ hx]; rfl
  · unfold loadVar
    show awp P ro (Sem.bind (isAgg t) _) _ σ
    rw [awp_isAgg ht, hd]
    show awp P ro (Sem.bind (sizeOf t) _) _ σ
    rw [awp_size hz]
    show awp P ro (Sem.bind (loadCellsFrom a 0 vs.length #[]) _) _ σ
    refine (awp_bind _ _).2 (awp_loadCells vs 0 #[] hc ?_)
    show K (putF o.dst (.agg (#[] ++ vs.toArray)) fr) σ
    simpa using h
theorem V_lda {t : TypeId} {d : TypeDesc} {a : Addr} {vs : List Value} {zv : Value} {b : Nat} (ho : o.op = .load t x) (ht : P.underlying t = some d) (hd : isAggD d = true) (hz : TyIs P t zv vs.length b) (hx : evalF fr x = some (.pointer (some a)))
    (hc : cellsAt ro (fun _ => none) a 0 vs) : PureEv P ro o fr (.agg vs.toArray) := by
  refine V_sem (s := loadVar t a) (fun ρ hρ => ?_) ?_
  · unfold execOp; rw [ho]; simp only [hρ _ _ hx]; rfl
  · unfold loadVar
    show aread P ro (Sem.bind (isAgg t) _) _ = _
    rw [aread_isAgg ht, hd]
    show aread P ro (Sem.bind (sizeOf t) _) _ = _
    rw [aread_size hz]
    have := aread_loadCells (P := P) vs 0 #[] hc
    show aread P ro (Sem.bind (loadCellsFrom a 0 vs.length #[]) fun cs => Sem.pure (Value.agg cs)) _ = _
    generalize loadCellsFrom a 0 vs.length #[] = s at this
    have gen : ∀ (s : Sem (Array Value)) {w : Array Value}, aread P ro s (fun _ => none) = some w → aread P ro (Sem.bind s fun cs => Sem.pure (Value.agg cs)) (fun _ => none) = some (.agg w) := by
      intro s
      induction s with
      | pure a => intro w h; cases h; rfl
      | load m a k ih =>
        intro w h
        simp only [aread] at h
        simp only [Sem.bind, aread]
        split at h
        · exact ih _ h
        · cases h
      | program k ih => intro w h; exact ih _ h
      | mark m k ih => intro w h; exact ih h
      | _ => intro w h; cases h
    have := gen s this
    simpa using this

def st1 (σ : AH) (a : Addr) (v : Value) (K : AH → Prop) : Prop := a.spot = none ∧ ∃ c e fz, σ a.block = some (.cells c e fz) ∧ a.off < c.size ∧ ¬ (fz.1 ≤ a.off ∧ a.off < fz.2) ∧ K (upd σ a.block (.cells (c.setIfInBounds a.off v) e fz))
def stN (a : Addr) (K : AH → Prop) : List Value → Nat → AH → Prop
  | [], _, σ => K σ
  | v :: r, i, σ => storable v = true ∧ st1 σ (a.add i) v (stN a K r (i + 1))
theorem awp_storeCells {a : Addr} {Q : Unit → AH → Prop} : ∀ (vs : List Value) (i : Nat) (σ : AH), stN a (Q ()) vs i σ → awp P ro (storeCells a vs i) Q σ := by
  intro vs
  induction vs with
  | nil => intro i σ h; exact h
  | cons v r ih =>
    intro i σ h
    obtain ⟨h0, h1, c, e, fz, h2, h3, h4, h5⟩ := h
    unfold storeCells
    exact ⟨h0, h1, c, e, fz, h2, h3, h4, ih (i + 1) _ h5⟩
theorem X_st {K : Fr → AH → Prop} {t : TypeId} {a : Addr} {vs : List Value} {zv : Value} {n b : Nat} (ho : o.op = .store t x y) (hz : TyIs P t zv n b) (hx : evalF fr x = some (.pointer (some a))) (hy : evalF fr y = some v) (hv : v.cells.toList = vs) (hn : vs.length = n)
    (h : stN a (fun σ => K (putF o.dst undef fr) σ) vs 0 σ) : AExec P B ro o K fr σ := by
  refine X_semU (s := storeVar t a v) (fun ρ hρ => ?_) ?_
  · unfold execOp; rw [ho]; simp only [hρ _ _ hx, hρ _ _ hy]; rfl
  · unfold storeVar
    show awp P ro (Sem.bind (sizeOf t) _) _ σ
    rw [awp_size hz, if_neg (by subst hv; subst hn; simp)]
    rw [hv]
    exact awp_storeCells vs 0 σ h

/-! ### 15. New memory -/
theorem X_new {K : Fr → AH → Prop} {ob : Obj} {mk : Nat → Value} (he : NewEv P ro o fr ob mk) (h : ∀ b, ro b = none → σ b = none → K (putF o.dst (mk b) fr) (upd σ b ob)) : AExec P B ro o K fr σ := by
  intro ρ hρ
  obtain ⟨k, k1, k2⟩ := he ρ hρ
  exact (awp_of_newOf _ k1).2 fun b hb hs => (awp_of_aread _ (k2 b)).2 (h b hb hs)
def newV (P : Program) : Sem Value → Option (Obj × (Nat → Sem Value))
  | .new o k => some (o, k)
  | .program k => newV P (k P)
  | .mark _ k => newV P k
  | _ => none
theorem newOf_sem {s : Sem Value} {ob : Obj} {mk : Nat → Value} (h : ∀ ρ, Agrees ρ fr → execOp ρ o = (do pure (.value (← s)))) (hs : ∃ k, newV P s = some (ob, k) ∧ ∀ b, k b = Sem.pure (mk b)) : NewEv P ro o fr ob mk := by
  intro ρ hρ
  rw [h ρ hρ]
  obtain ⟨k, h1, h2⟩ := hs
  exact ⟨fun b => (k b).bind fun v => Sem.pure (.value v), go s h1, fun b => by dsimp only; rw [h2]; rfl⟩
where
  go (s : Sem Value) {ob : Obj} {k : Nat → Sem Value} (h : newV P s = some (ob, k)) : newOf P (s.bind fun v => Sem.pure (.value v)) = some (ob, fun b => (k b).bind fun v => Sem.pure (.value v)) := by
    induction s with
    | new o k' ih => simp only [newV, Option.some.injEq, Prod.mk.injEq] at h; obtain ⟨rfl, rfl⟩ := h; rfl
    | program k' ih => exact ih _ h
    | mark m k' ih => exact ih h
    | _ => cases h
theorem newV_zero {t : TypeId} {zv : Value} {s b : Nat} (h : TyIs P t zv s b) {f : Value → Sem Value} : newV P (Sem.bind (zeroValue t) f) = newV P (f zv) := by
  obtain ⟨i, h1, h2, _, _⟩ := h
  unfold zeroValue typeInfo
  simp only [bind_def, program_bind, bind_assoc']
  show newV P (Sem.bind (match P.info? t with | some i => pure i | none => stuck "no such type") _) = _
  rw [h1]; simp only [pure_def, bind_pure']; rw [h2]; rfl
theorem newV_under {t : TypeId} {d : TypeDesc} (h : P.underlying t = some d) {f : TypeDesc → Sem Value} : newV P (Sem.bind (underlying t) f) = newV P (f d) := by
  unfold underlying
  simp only [bind_def, program_bind]
  show newV P (Sem.bind (match P.underlying t with | some d => pure d | none => stuck "no such type") f) = _
  rw [h]; rfl
theorem newV_info {t : TypeId} {d : TypeInfo} (h : P.info? t = some d) {f : TypeInfo → Sem Value} : newV P (Sem.bind (typeInfo t) f) = newV P (f d) := by
  unfold typeInfo
  simp only [bind_def, program_bind]
  show newV P (Sem.bind (match P.info? t with | some d => pure d | none => stuck "no such type") f) = _
  rw [h]; rfl
theorem newV_size {t : TypeId} {zv : Value} {s b : Nat} (h : TyIs P t zv s b) {f : Nat → Sem Value} : newV P (Sem.bind (sizeOf t) f) = newV P (f s) := by
  obtain ⟨i, h1, _, h3, _⟩ := h
  unfold sizeOf
  show newV P (Sem.bind (Sem.bind (typeInfo t) _) f) = _
  rw [bind_assoc', newV_info h1, ← h3]; rfl
theorem A_alloc {e : TypeId} {zv : Value} {n b : Nat} (ho : o.op = .alloc e) (hz : TyIs P e zv n b) : NewEv P ro o fr (.cells zv.cells e) (fun b => .pointer (some ⟨b, 0, none⟩)) := by
  refine newOf_sem (s := Instr.alloc e true (.tuple #[])) (fun ρ hρ => ?_) ⟨fun b => Sem.pure (.pointer (some ⟨b, 0, none⟩)), ?_, fun b => ?_⟩
  · unfold execOp; rw [ho]
  · unfold Instr.alloc
    show newV P (Sem.bind (zeroValue e) _) = _
    rw [newV_zero hz]; rfl
  · rfl
theorem A_box {e : TypeId} {u : Value} (ho : o.op = .box e x) (hx : evalF fr x = some u) : NewEv P ro o fr (.cells u.cells e) (fun b => .pointer (some ⟨b, 0, none⟩)) := by
  refine newOf_sem (s := Instr.box e u) (fun ρ hρ => ?_) ⟨fun b => Sem.pure (.pointer (some ⟨b, 0, none⟩)), ?_, fun b => ?_⟩
  · unfold execOp; rw [ho]; simp only [hρ _ _ hx]
  · rfl
  · rfl
theorem A_map0 {t : TypeId} (ho : o.op = .makeMap t none) : NewEv P ro o fr (.map #[] 0) (fun b => .map (some b)) := by
  refine newOf_sem (s := Instr.makeMap t none) (fun ρ hρ => ?_) ⟨fun b => Sem.pure (.map (some b)), ?_, fun b => ?_⟩
  · unfold execOp; rw [ho]; rfl
  · rfl
  · rfl
def zeros (zv : Value) (n : Nat) : Array Value := ((List.range n).map (zv.cells[· % zv.cells.size]!)).toArray
theorem zeros_eq (zv : Value) (n : Nat) : (Array.range n).map (zv.cells[· % zv.cells.size]!) = zeros zv n := by
  apply Array.toList_inj.1
  simp [zeros]
theorem w64_eq {n : Int} (h0 : -9223372036854775808 ≤ n) (h1 : n < 9223372036854775808) : IntKind.i64.wrap n = n := by
  rw [IntKind.wrap_i64]; omega
theorem A_mks {t e : TypeId} {zv : Value} {s b : Nat} {n c : Int} (ho : o.op = .makeSlice t x y) (ht : P.underlying t = some (.slice e)) (hz : TyIs P e zv s b) (hx : evalF fr x = some (.int .i64 n)) (hy : evalF fr y = some (.int .i64 c))
    (h0 : 0 ≤ n) (h1 : n ≤ c) (h2 : c ≤ 281474976710656) (h3 : b * c ≤ 281474976710656) : NewEv P ro o fr (.cells (zeros zv (c.toNat * s)) e) (fun b => .slice (some ⟨b, 0, none⟩) n.toNat c.toNat) := by
  have wn : IntKind.i64.wrap n = n := w64_eq (by omega) (by omega)
  have wc : IntKind.i64.wrap c = c := w64_eq (by omega) (by omega)
  refine newOf_sem (s := Instr.makeSlice t (.int .i64 n) (.int .i64 c)) (fun ρ hρ => ?_) ⟨fun b => Sem.pure (.slice (some ⟨b, 0, none⟩) n.toNat c.toNat), ?_, fun b => ?_⟩
  · unfold execOp; rw [ho]; simp only [hρ _ _ hx, hρ _ _ hy]
  · unfold Instr.makeSlice
    show newV P (Sem.bind (underlying t) _) = _
    rw [newV_under ht]
    obtain ⟨i, i1, i2, i3, i4⟩ := hz
    show newV P (Sem.bind (typeInfo e) _) = _
    rw [newV_info i1]
    dsimp only
    rw [wn, wc, i4]
    rw [if_neg (by
      simp only [Bool.or_eq_true, decide_eq_true_eq]
      omega)]
    show newV P (Sem.bind (askRoom _) _) = _
    have hroom : ∀ (m : Nat) (f : Unit → Sem Value), newV P (Sem.bind (askRoom m) f) = newV P (f ()) := by
      intro m f; unfold askRoom; split <;> rfl
    rw [hroom]
    have hz' : TyIs P e zv s b := ⟨i, i1, i2, i3, i4⟩
    show newV P (Sem.bind (sizeOf e) _) = _
    rw [newV_size hz']
    by_cases hc : c.toNat * s = 0
    · simp only [hc, if_true]
      show newV P (Sem.bind (Sem.pure #[]) _) = _
      simp [zeros, newRow, newObj, bind_def, Sem.bind, newV, pure_def]
    · simp only [if_neg hc]
      show newV P (Sem.bind (zeroValue e) _) = _
      rw [newV_zero hz']
      show some (Obj.cells ((Array.range (c.toNat * s)).map (zv.cells[· % zv.cells.size]!)) e, _) = _
      rw [zeros_eq]
      rfl
  · rfl
/-! ### 16. Calls -/
def evalAll (fr : Fr) : List Operand → Option (List Value)
  | [] => some []
  | x :: r => match evalF fr x, evalAll fr r with
    | some v, some vs => some (v :: vs)
    | _, _ => none
theorem evalAll_map {ρ : Operand → Value} (hρ : Agrees ρ fr) : ∀ (l : List Operand) {vs : List Value}, evalAll fr l = some vs → l.map ρ = vs := by
  intro l
  induction l with
  | nil => intro vs h; cases h; rfl
  | cons x r ih =>
    intro vs h
    unfold evalAll at h
    split at h
    · rename_i v vs' h1 h2
      cases h
      rw [List.map_cons, hρ _ _ h1, ih h2]
    · cases h
theorem callFunc_enter {f : FuncId} {fn : Func} {args : Array Value} {Q : Next → AH → Prop} (hf : P.funcs[f]? = some fn) (hn : (fn.name == "runtime.NumGoroutine") = false) (hb : fn.body.isNone = false) (h : Q (.enter f args) σ) : awp P ro (callFunc f args) Q σ := by
  unfold callFunc
  show awp P ro (Sem.bind program _) Q σ
  rw [program_bind]
  show awp P ro (match P.funcs[f]? with | none => _ | some fn => _) Q σ
  rw [hf]; dsimp only
  rw [hn, hb]
  exact h
theorem X_call {K : Fr → AH → Prop} {f : FuncId} {fn : Func} {ars : Array Operand} {ts : Array TypeId} {vs : List Value} (ho : o.op = .call { callee := .value (.func f), args := ars, argTypes := ts }) (hf : P.funcs[f]? = some fn) (hn : (fn.name == "runtime.NumGoroutine") = false) (hb : fn.body.isNone = false)
    (ha : evalAll fr ars.toList = some vs) (h : ACalls P B ro f vs.toArray σ fun v σ => K (putF o.dst v fr) σ) : AExec P B ro o K fr σ := by
  intro ρ hρ
  have hm := evalAll_map hρ _ ha
  have hfun : ρ (.func f) = .func (.func f) #[] #[] := hρ _ _ rfl
  have e : execOp ρ o = callFunc f vs.toArray := by
    unfold execOp; rw [ho]
    simp only [resolve, hfun, Deferred.ofValue, pure_def, bind_def, bind_pure', invoke]
    congr 1
    have : ars.map ρ = vs.toArray := Array.toList_inj.1 (by rw [Array.toList_map, hm])
    rw [this]; simp
  rw [e]
  exact callFunc_enter hf hn hb h
theorem X_bi {K : Fr → AH → Prop} {b : Builtin} {ars : Array Operand} {ts : Array TypeId} {vs : List Value} {s : Sem Value} (ho : o.op = .call { callee := .builtin b, args := ars, argTypes := ts }) (ha : evalAll fr ars.toList = some vs) (hb : ∀ cs, builtin b ts o.type cs vs.toArray = (do pure (.value (← s))))
    (h : awp P ro s (fun v σ => K (putF o.dst v fr) σ) σ) : AExec P B ro o K fr σ := by
  refine X_sem (s := s) (fun ρ hρ => ?_) h
  have hm := evalAll_map hρ _ ha
  have : ars.map ρ = vs.toArray := Array.toList_inj.1 (by rw [Array.toList_map, hm])
  unfold execOp; rw [ho]
  simp only [resolve, pure_def, bind_def, bind_pure', invoke, this, hb]
end
end Go.Proofs.YtomdigihapdhnaaGreatDoor.SL

/- The base, eighth part: more operations; words for the printed texts. Generic over any program. -/
namespace Go.Proofs.YtomdigihapdhnaaGreatDoor.SL
open Go
section
variable {P : Program} {B : World} {ro : AH} {N : Nat} {o : Oper} {fr : Fr} {σ : AH} {x y z : Operand} {v : Value}

/-! ### 17. Slicing -/
def optI (fr : Fr) : Option Operand → Option Int → Prop
  | none, none => True
  | some x, some i => ∃ k, evalF fr x = some (.int k i)
  | _, _ => False
theorem bound_aread {k : IntKind} {i : Int} {y : Nat} {c : BoundsCode} {β : Type} {f : Nat → Sem β} {τ : AH} (h0 : 0 ≤ i) (h1 : i ≤ y) : aread P ro (Sem.bind (Instr.sliceBound (.int k i) y c) f) τ = aread P ro (f i.toNat) τ := by
  unfold Instr.sliceBound
  show aread P ro (Sem.bind (if 0 ≤ i ∧ i ≤ y then pure i.toNat else _) f) τ = _
  rw [if_pos ⟨h0, h1⟩]; rfl
/-- where a cut begins and ends -/
def cutLo (lo : Option Int) : Nat := match lo with | some i => i.toNat | none => 0
def cutHi (hi : Option Int) (len : Nat) : Nat := match hi with | some i => i.toNat | none => len
def cutOk (lo hi : Option Int) (len cap : Nat) : Prop := (match hi with | some i => 0 ≤ i ∧ i ≤ cap | none => True) ∧ (match lo with | some i => 0 ≤ i ∧ i ≤ (cutHi hi len : Int) | none => True)
theorem optI_agrees {ρ : Operand → Value} (hρ : Agrees ρ fr) {a : Option Operand} {i : Option Int} (h : optI fr a i) : (a = none ∧ i = none) ∨ ∃ k j, i = some j ∧ a.map ρ = some (.int k j) := by
  cases a with
  | none => cases i with
    | none => exact .inl ⟨rfl, rfl⟩
    | some j => exact h.elim
  | some x => cases i with
    | none => exact h.elim
    | some j => obtain ⟨k, hk⟩ := h; exact .inr ⟨k, j, rfl, by simp [hρ _ _ hk]⟩
theorem bounds_aread {β : Type} {lo hi : Option Int} {a b : Option Operand} {ρ : Operand → Value} (ha : (a = none ∧ lo = none) ∨ ∃ k j, lo = some j ∧ a.map ρ = some (.int k j)) (hb : (b = none ∧ hi = none) ∨ ∃ k j, hi = some j ∧ b.map ρ = some (.int k j)) {len cap : Nat} {isS : Bool}
    (h : cutOk lo hi len cap) {f : Nat × Nat × Nat → Sem β} {τ : AH} : aread P ro (Sem.bind (Instr.sliceBounds isS len cap (a.map ρ) (b.map ρ) none) f) τ = aread P ro (f (cutLo lo, cutHi hi len, cap)) τ := by
  obtain ⟨h1, h2⟩ := h
  unfold Instr.sliceBounds
  simp only [bind_def, pure_def, bind_pure', bind_assoc']
  rcases hb with ⟨rfl, rfl⟩ | ⟨k, j, rfl, hb⟩
  · simp only [Option.map_none, bind_pure']
    rcases ha with ⟨rfl, rfl⟩ | ⟨k, j, rfl, ha⟩
    · rfl
    · rw [ha]; dsimp only at h2 ⊢
      simp only [bind_assoc']
      rw [bound_aread h2.1 (by simpa [cutHi] using h2.2)]; rfl
  · rw [hb]; dsimp only at h1 ⊢
    simp only [bind_assoc']
    rw [bound_aread h1.1 h1.2]
    rcases ha with ⟨rfl, rfl⟩ | ⟨k, j, rfl, ha⟩
    · rfl
    · rw [ha]; dsimp only at h2 ⊢
      simp only [bind_assoc']
      rw [bound_aread h2.1 (by simpa [cutHi] using h2.2)]; rfl
theorem V_slS {t : TypeId} {a b : Option Operand} {lo hi : Option Int} {s : ByteArray} (ho : o.op = .slice t x a b none) (ht : P.underlying t = some .string) (hx : evalF fr x = some (.string s)) (ha : optI fr a lo) (hb : optI fr b hi) (h : cutOk lo hi s.size s.size) :
    PureEv P ro o fr (.string (s.extract (cutLo lo) (cutHi hi s.size))) := by
  intro ρ hρ
  have e : execOp ρ o = (do pure (.value (← Instr.sliceAt t (.string s) (a.map ρ) (b.map ρ) none))) := by unfold execOp; rw [ho]; simp only [hρ _ _ hx]; rfl
  rw [e]
  show aread P ro (Sem.bind (Instr.sliceAt t (.string s) (a.map ρ) (b.map ρ) none) _) _ = _
  unfold Instr.sliceAt
  simp only [bind_def, bind_assoc']
  rw [underlying_bind _ _ ht]; dsimp only
  unfold Instr.slice
  simp only [bind_def, bind_assoc']
  rw [underlying_bind _ _ ht]; dsimp only
  simp only [Option.isSome_none, Bool.false_eq_true, if_false, bind_assoc', pure_def, bind_pure']
  rw [bounds_aread (optI_agrees hρ ha) (optI_agrees hρ hb) h]; rfl
def cutA (a : Option Addr) (lo cap s : Nat) : Option Addr := if cap = lo then a else a.map (·.add (lo * s))
theorem V_slL {t e : TypeId} {a b : Option Operand} {lo hi : Option Int} {ad : Option Addr} {n c : Nat} {zv : Value} {s bt : Nat} (ho : o.op = .slice t x a b none) (ht : P.underlying t = some (.slice e)) (hz : TyIs P e zv s bt) (hx : evalF fr x = some (.slice ad n c)) (ha : optI fr a lo) (hb : optI fr b hi) (h : cutOk lo hi n c) :
    PureEv P ro o fr (.slice (cutA ad (cutLo lo) c s) (cutHi hi n - cutLo lo) (c - cutLo lo)) := by
  intro ρ hρ
  have e' : execOp ρ o = (do pure (.value (← Instr.sliceAt t (.slice ad n c) (a.map ρ) (b.map ρ) none))) := by unfold execOp; rw [ho]; simp only [hρ _ _ hx]; rfl
  rw [e']
  show aread P ro (Sem.bind (Instr.sliceAt t (.slice ad n c) (a.map ρ) (b.map ρ) none) _) _ = _
  unfold Instr.sliceAt
  simp only [bind_def, bind_assoc']
  rw [underlying_bind _ _ ht]; dsimp only
  unfold Instr.slice
  simp only [bind_def, bind_assoc']
  rw [underlying_bind _ _ ht]; dsimp only
  simp only [bind_assoc', pure_def, bind_pure']
  rw [bounds_aread (optI_agrees hρ ha) (optI_agrees hρ hb) h]
  dsimp only
  rw [aread_size hz]; rfl
theorem optI_none : optI fr none none := trivial
theorem optI_some {k : IntKind} {i : Int} (h : evalF fr x = some (.int k i)) : optI fr (some x) (some i) := ⟨k, h⟩

/-! ### 18. Parts of structs by value; building -/
def placesOk (P : Program) : List Field → List (Nat × Nat) → Prop
  | [], [] => True
  | f :: r, p :: q => (p.1 = f.offset ∧ ∃ zv b, TyIs P f.type zv p.2 b) ∧ placesOk P r q
  | _, _ => False
theorem places_aread {β : Type} {fs : Array Field} {pl : List (Nat × Nat)} (h : placesOk P fs.toList pl) {f : Array (Nat × Nat) → Sem β} {τ : AH} : aread P ro (Sem.bind (fs.mapM fun fd => do pure (fd.offset, ← sizeOf fd.type)) f) τ = aread P ro (f pl.toArray) τ := by
  rw [Array.mapM_eq_mapM_toList]
  show aread P ro (Sem.bind (List.toArray <$> _) f) τ = _
  have gen : ∀ (l : List Field) (pl : List (Nat × Nat)) {γ : Type} (g : List (Nat × Nat) → Sem γ), placesOk P l pl → aread P ro (Sem.bind (l.mapM fun fd => do pure (fd.offset, ← sizeOf fd.type)) g) τ = aread P ro (g pl) τ := by
    intro l
    induction l with
    | nil =>
      intro pl γ g h
      cases pl with
      | nil => rfl
      | cons p q => exact h.elim
    | cons fd r ih =>
      intro pl γ g h
      cases pl with
      | nil => exact h.elim
      | cons p q =>
        obtain ⟨⟨h1, zv, b, h2⟩, h3⟩ := h
        rw [List.mapM_cons]
        show aread P ro (Sem.bind (Sem.bind (Sem.bind (sizeOf fd.type) _) _) g) τ = _
        rw [bind_assoc', bind_assoc', aread_size h2]
        simp only [pure_def, bind_pure', bind_assoc', bind_def]
        show aread P ro (Sem.bind (r.mapM fun fd => do pure (fd.offset, ← sizeOf fd.type)) _) τ = _
        rw [ih q _ h3]
        have : (fd.offset, p.2) = p := by rw [← h1]
        simp only [this]
  have map_bind : ∀ (s : Sem (List (Nat × Nat))), Sem.bind (List.toArray <$> s) f = Sem.bind s fun l => f l.toArray := by
    intro s
    show Sem.bind (Sem.bind s _) f = _
    rw [bind_assoc']; rfl
  rw [map_bind, gen _ _ _ h]
def evalParts (fr : Fr) : List (Nat × Operand) → Option (List (Nat × Value))
  | [] => some []
  | (i, x) :: r => match evalF fr x, evalParts fr r with
    | some v, some vs => some ((i, v) :: vs)
    | _, _ => none
theorem evalParts_map {ρ : Operand → Value} (hρ : Agrees ρ fr) {ps : Array (Nat × Operand)} {vs : List (Nat × Value)} (h : evalParts fr ps.toList = some vs) : (ps.map fun (i, x) => (i, ρ x)).toList = vs := by
  have gen : ∀ (l : List (Nat × Operand)) {vs : List (Nat × Value)}, evalParts fr l = some vs → l.map (fun (i, x) => (i, ρ x)) = vs := by
    intro l
    induction l with
    | nil => intro vs h; cases h; rfl
    | cons p r ih =>
      intro vs h
      obtain ⟨i, x⟩ := p
      unfold evalParts at h
      split at h
      · rename_i v vs' h1 h2
        cases h
        rw [List.map_cons, ih h2]
        simp only [hρ _ _ h1]
      · cases h
  rw [Array.toList_map]; exact gen _ h
theorem V_bld {t : TypeId} {fs : Array Field} {pl : List (Nat × Nat)} {zv : Value} {n b : Nat} {parts : Array (Nat × Operand)} {vs : List (Nat × Value)} {cs : Array Value} (ho : o.op = .build t parts) (ht : P.underlying t = some (.struct fs)) (hz : TyIs P t zv n b) (hp : placesOk P fs.toList pl)
    (hv' : evalParts fr parts.toList = some vs) (hf : Instr.fill (fun i => pl.toArray[i]?) zv.cells vs = some cs) : PureEv P ro o fr (.agg cs) := by
  have hv : ∀ ρ, Agrees ρ fr → (parts.map fun (i, x) => (i, ρ x)).toList = vs := fun ρ hρ => evalParts_map hρ hv'
  intro ρ hρ
  have e : execOp ρ o = (do pure (.value (← Instr.build t (parts.map fun (i, x) => (i, ρ x))))) := by unfold execOp; rw [ho]
  rw [e]
  show aread P ro (Sem.bind (Instr.build t _) _) _ = _
  unfold Instr.build
  simp only [bind_def, bind_assoc']
  rw [aread_zero hz, underlying_bind _ _ ht]
  dsimp only
  simp only [bind_assoc']
  refine (places_aread hp).trans ?_
  rw [hv ρ hρ]
  simp only [hf]; rfl
theorem V_bldA {t e : TypeId} {k : Nat} {zv zv' : Value} {n b s b' : Nat} {parts : Array (Nat × Operand)} {vs : List (Nat × Value)} {cs : Array Value} (ho : o.op = .build t parts) (ht : P.underlying t = some (.array k e)) (hz : TyIs P t zv n b) (hs : TyIs P e zv' s b')
    (hv' : evalParts fr parts.toList = some vs) (hf : Instr.fill (fun i => some (i * s, s)) zv.cells vs = some cs) : PureEv P ro o fr (.agg cs) := by
  have hv : ∀ ρ, Agrees ρ fr → (parts.map fun (i, x) => (i, ρ x)).toList = vs := fun ρ hρ => evalParts_map hρ hv'
  intro ρ hρ
  have e : execOp ρ o = (do pure (.value (← Instr.build t (parts.map fun (i, x) => (i, ρ x))))) := by unfold execOp; rw [ho]
  rw [e]
  show aread P ro (Sem.bind (Instr.build t _) _) _ = _
  unfold Instr.build
  simp only [bind_def, bind_assoc']
  rw [aread_zero hz, underlying_bind _ _ ht]
  dsimp only
  simp only [bind_assoc']
  rw [aread_size hs, hv ρ hρ]
  simp only [hf]; rfl
theorem A_bsl {t e : TypeId} {len : Nat} {zv : Value} {s b : Nat} {parts : Array (Nat × Operand)} {vs : List (Nat × Value)} {cs : Array Value} (ho : o.op = .buildSlice t len parts) (ht : P.underlying t = some (.slice e)) (hs : TyIs P e zv s b) (hlen : len * s ≤ 16777216)
    (hv' : evalParts fr parts.toList = some vs) (hf : Instr.fill (fun i => some (i * s, s)) (zeros zv (len * s)) vs = some cs) : NewEv P ro o fr (.cells cs e) (fun b => .slice (some ⟨b, 0, none⟩) len len) := by
  have hv : ∀ ρ, Agrees ρ fr → (parts.map fun (i, x) => (i, ρ x)).toList = vs := fun ρ hρ => evalParts_map hρ hv'
  intro ρ hρ
  have e' : execOp ρ o = (do pure (.value (← Instr.buildSlice t len (parts.map fun (i, x) => (i, ρ x))))) := by unfold execOp; rw [ho]
  rw [e']
  have hn : newV P (Instr.buildSlice t len (parts.map fun (i, x) => (i, ρ x))) = some (.cells cs e, fun b => Sem.pure (.slice (some ⟨b, 0, none⟩) len len)) := by
    unfold Instr.buildSlice
    simp only [bind_def]
    rw [newV_under ht]
    dsimp only
    try simp only [bind_def]
    rw [newV_size hs]
    rw [if_neg (by omega)]
    by_cases hc : len * s = 0
    · rw [if_pos hc]
      try simp only [pure_def, bind_pure']
      rw [hv ρ hρ]
      have : Instr.fill (fun i => some (i * s, s)) ((Array.range (len * s)).map fun i => (#[] : Array Value)[i % (#[] : Array Value).size]!) vs = some cs := by
        rw [← hf]; congr 1
        simp [zeros, hc]
      simp only [this]; rfl
    · rw [if_neg hc]
      simp only [pure_def, bind_pure']
      rw [newV_zero hs]
      try simp only [bind_pure']
      rw [hv ρ hρ]
      have : Instr.fill (fun i => some (i * s, s)) ((Array.range (len * s)).map fun i => zv.cells[i % zv.cells.size]!) vs = some cs := by rw [zeros_eq]; exact hf
      simp only [this]; rfl
  exact ⟨_, newOf_sem.go _ hn, fun b => rfl⟩

/-! ### 19. Interfaces, functions, equality with nil -/
theorem equal_unfold (t : TypeId) (a b : Value) : Op.equal t a b = Op.equalIn (9999 + 1) t a b := rfl
theorem binEq {t u : TypeId} {a b : Value} (ho : o.op = .binOp .eql t x y u) (hx : evalF fr x = some a) (hy : evalF fr y = some b) {r : Bool} (hg : eqGuard .eql t x y a b = pure ()) (hb : Go.binOp .eql t a b = (do pure (.bool (← Op.equal t a b))))
    (hr : ∀ τ, aread P ro (Op.equalIn (9999 + 1) t a b) τ = some r) : PureEv P ro o fr (.bool r) := by
  refine V_sem (s := do eqGuard .eql t x y a b; Go.binOp .eql t a b) (fun ρ hρ => ?_) ?_
  · unfold execOp; rw [ho]; simp only [hρ _ _ hx, hρ _ _ hy]
  · rw [hg, hb, equal_unfold]
    have := hr (fun _ => none)
    generalize Op.equalIn (9999 + 1) t a b = s at this
    show aread P ro (Sem.bind s fun b => Sem.pure (Value.bool b)) _ = _
    exact gen s this
where
  gen (s : Sem Bool) {w : Bool} (h : aread P ro s (fun _ => none) = some w) : aread P ro (Sem.bind s fun b => Sem.pure (Value.bool b)) (fun _ => none) = some (.bool w) := by
    induction s with
    | pure a => cases h; rfl
    | load m a k ih =>
      simp only [aread] at h
      simp only [Sem.bind, aread]
      split at h
      · exact ih _ h
      · cases h
    | program k ih => exact ih _ h
    | mark m k ih => exact ih h
    | _ => cases h
theorem binNe {t u : TypeId} {a b : Value} (ho : o.op = .binOp .neq t x y u) (hx : evalF fr x = some a) (hy : evalF fr y = some b) {r : Bool} (hg : eqGuard .neq t x y a b = pure ()) (hb : Go.binOp .neq t a b = (do pure (.bool (!(← Op.equal t a b)))))
    (hr : ∀ τ, aread P ro (Op.equalIn (9999 + 1) t a b) τ = some r) : PureEv P ro o fr (.bool (!r)) := by
  refine V_sem (s := do eqGuard .neq t x y a b; Go.binOp .neq t a b) (fun ρ hρ => ?_) ?_
  · unfold execOp; rw [ho]; simp only [hρ _ _ hx, hρ _ _ hy]
  · rw [hg, hb, equal_unfold]
    have := hr (fun _ => none)
    generalize Op.equalIn (9999 + 1) t a b = s at this
    show aread P ro (Sem.bind s fun b => Sem.pure (Value.bool !b)) _ = _
    exact gen s this
where
  gen (s : Sem Bool) {w : Bool} (h : aread P ro s (fun _ => none) = some w) : aread P ro (Sem.bind s fun b => Sem.pure (Value.bool !b)) (fun _ => none) = some (.bool !w) := by
    induction s with
    | pure a => cases h; rfl
    | load m a k ih =>
      simp only [aread] at h
      simp only [Sem.bind, aread]
      split at h
      · exact ih _ h
      · cases h
    | program k ih => exact ih _ h
    | mark m k ih => exact ih h
    | _ => cases h
theorem eqn_ptr {t e : TypeId} {p : Option Addr} {τ : AH} (ht : P.underlying t = some (.pointer e)) : aread P ro (Op.equalIn (9999 + 1) t (.pointer p) (.pointer none)) τ = some p.isNone := by
  unfold Op.equalIn
  show aread P ro (Sem.bind (underlying t) _) _ = _
  rw [underlying_bind _ _ ht]; cases p <;> rfl
theorem eqn_sl {t e : TypeId} {a : Option Addr} {n c : Nat} {τ : AH} (ht : P.underlying t = some (.slice e)) : aread P ro (Op.equalIn (9999 + 1) t (.slice a n c) (.slice none 0 0)) τ = some a.isNone := by
  unfold Op.equalIn
  show aread P ro (Sem.bind (underlying t) _) _ = _
  rw [underlying_bind _ _ ht]; cases a <;> rfl
theorem eqn_bool {t : TypeId} {a b : Bool} {τ : AH} (ht : P.underlying t = some .bool) : aread P ro (Op.equalIn (9999 + 1) t (.bool a) (.bool b)) τ = some (a == b) := by
  unfold Op.equalIn
  show aread P ro (Sem.bind (underlying t) _) _ = _
  rw [underlying_bind _ _ ht]; rfl
theorem V_eqP {t u e : TypeId} {p : Option Addr} (ho : o.op = .binOp .eql t x y u) (ht : P.underlying t = some (.pointer e)) (hx : evalF fr x = some (.pointer p)) (hy : evalF fr y = some (.pointer none)) : PureEv P ro o fr (.bool p.isNone) := binEq ho hx hy rfl (by cases p <;> rfl) fun _ => eqn_ptr ht
theorem V_neP {t u e : TypeId} {p : Option Addr} (ho : o.op = .binOp .neq t x y u) (ht : P.underlying t = some (.pointer e)) (hx : evalF fr x = some (.pointer p)) (hy : evalF fr y = some (.pointer none)) : PureEv P ro o fr (.bool (!p.isNone)) := binNe ho hx hy rfl (by cases p <;> rfl) fun _ => eqn_ptr ht
theorem V_eqL {t u e : TypeId} {a : Option Addr} {n c : Nat} (ho : o.op = .binOp .eql t x y u) (ht : P.underlying t = some (.slice e)) (hx : evalF fr x = some (.slice a n c)) (hy : evalF fr y = some (.slice none 0 0)) : PureEv P ro o fr (.bool a.isNone) := binEq ho hx hy rfl rfl fun _ => eqn_sl ht
theorem V_neB {t u : TypeId} {a b : Bool} (ho : o.op = .binOp .neq t x y u) (ht : P.underlying t = some .bool) (hx : evalF fr x = some (.bool a)) (hy : evalF fr y = some (.bool b)) : PureEv P ro o fr (.bool (!(a == b))) := binNe ho hx hy rfl rfl fun _ => eqn_bool ht
theorem V_biP {b : Builtin} {ars : Array Operand} {ts : Array TypeId} {vs : List Value} {s : Sem Value} (ho : o.op = .call { callee := .builtin b, args := ars, argTypes := ts }) (ha : evalAll fr ars.toList = some vs) (hb : ∀ cs, builtin b ts o.type cs vs.toArray = (do pure (.value (← s))))
    (hs : aread P ro s (fun _ => none) = some v) : PureEv P ro o fr v := by
  refine V_sem (s := s) (fun ρ hρ => ?_) hs
  have hm := evalAll_map hρ _ ha
  have : ars.map ρ = vs.toArray := Array.toList_inj.1 (by rw [Array.toList_map, hm])
  unfold execOp; rw [ho]
  simp only [resolve, pure_def, bind_def, bind_pure', invoke, this, hb]
theorem V_min2 {ars : Array Operand} {ts : Array TypeId} {k : IntKind} {a b : Int} (ho : o.op = .call { callee := .builtin .min, args := ars, argTypes := ts }) (ha : evalAll fr ars.toList = some [.int k a, .int k b]) : PureEv P ro o fr (.int k (if b < a then b else a)) :=
  V_biP ho ha (fun _ => rfl) rfl
theorem V_max2 {ars : Array Operand} {ts : Array TypeId} {k : IntKind} {a b : Int} (ho : o.op = .call { callee := .builtin .max, args := ars, argTypes := ts }) (ha : evalAll fr ars.toList = some [.int k a, .int k b]) : PureEv P ro o fr (.int k (if a < b then b else a)) :=
  V_biP ho ha (fun _ => rfl) rfl

/-! ### 20. Words of the printed texts -/
def nw (ro σ : AH) (ob : Obj) (K : Nat → AH → Prop) : Prop := ∀ b, ro b = none → σ b = none → K b (upd σ b ob)
theorem stN_mono {a : Addr} {K K' : AH → Prop} : ∀ {vs : List Value} {i : Nat} {σ : AH}, stN a K vs i σ → (∀ σ, K σ → K' σ) → stN a K' vs i σ := by
  intro vs
  induction vs with
  | nil => intro i σ h hk; exact hk _ h
  | cons v r ih =>
    intro i σ h hk
    obtain ⟨h0, h1, c, e, fz, h2, h3, h4, h5⟩ := h
    exact ⟨h0, h1, c, e, fz, h2, h3, h4, ih h5 hk⟩
theorem Lnil {ops : Array Oper} {K : Fr → AH → Prop} (h : K fr σ) : AOpsL P B ro N ops (wk K) [] fr σ := ⟨fr, FrLe.refl _, h⟩
theorem thenN {next : Fr → AH → Prop} {Q : Exit → Fr → AH → Prop} (h : next fr σ) : thenQ next Q .normal fr σ := h
theorem thenE {next : Fr → AH → Prop} {Q : Exit → Fr → AH → Prop} {id : Nat} (h : Q (.exit id) fr σ) : thenQ next Q (.exit id) fr σ := h
theorem thenR {next : Fr → AH → Prop} {Q : Exit → Fr → AH → Prop} (h : Q .ret fr σ) : thenQ next Q .ret fr σ := h
theorem blockN {Q : Exit → Fr → AH → Prop} {id : Nat} (h : Q .normal fr σ) : blockQ id Q .normal fr σ := h
theorem blockE {Q : Exit → Fr → AH → Prop} {id : Nat} (h : Q .normal fr σ) : blockQ id Q (.exit id) fr σ := by
  show (if id = id then Q .normal fr σ else Q (.exit id) fr σ); rw [if_pos rfl]; exact h
theorem blockO {Q : Exit → Fr → AH → Prop} {id id' : Nat} (hne : (id' == id) = false) (h : Q (.exit id') fr σ) : blockQ id Q (.exit id') fr σ := by
  show (if id' = id then Q .normal fr σ else Q (.exit id') fr σ); rw [if_neg (by simpa using hne)]; exact h
theorem blockR {Q : Exit → Fr → AH → Prop} {id : Nat} (h : Q .ret fr σ) : blockQ id Q .ret fr σ := h
theorem Lyb {ops : Array Oper} {K : Fr → AH → Prop} {rest : List Oper} {j t : Nat} {want b : Bool} (hg : o.guard = some (j, want)) (hd : dstOk N o.dst = true) (ht : (ops[j]?).bind (·.dst) = some t) (hl : look fr t = some (.bool b)) (e : b = want)
    (h : AExec P B ro o (AOpsL P B ro N ops K rest) fr σ) : AOpsL P B ro N ops K (o :: rest) fr σ := Ly hg hd ht (by rw [hl, e]) h
/-- what follows a test of two parts, proved once -/
theorem LsplitJ {ops : Array Oper} {K : Fr → AH → Prop} {l : List Oper} (m : Nat) (b : Bool) {p : Prop} [Decidable p] {X Y : Prop} (hi : b = true ↔ p) (h : if p then X else Y) (J : Fr → AH → Prop)
    (hy : X → b = true → (∀ fr σ, J fr σ → AOpsL P B ro N ops K (l.drop m) fr σ) → AOpsL P B ro N ops K l fr σ) (hn : Y → b = false → (∀ fr σ, J fr σ → AOpsL P B ro N ops K (l.drop m) fr σ) → AOpsL P B ro N ops K l fr σ)
    (hk : ∀ fr σ, J fr σ → AOpsL P B ro N ops K (l.drop m) fr σ) : AOpsL P B ro N ops K l fr σ := by
  cases e : b with
  | true => rw [if_pos (hi.1 e)] at h; exact hy h e hk
  | false => rw [if_neg (fun q => by rw [hi.2 q] at e; cases e)] at h; exact hn h e hk
/-- the same where the parts only compute -/
theorem Lsplit {ops : Array Oper} {K : Fr → AH → Prop} {l : List Oper} (m : Nat) (b : Bool) (F : Fr)
    (hy : b = true → (∀ fr, FrLe F fr → AOpsL P B ro N ops K (l.drop m) fr σ) → AOpsL P B ro N ops K l fr σ) (hn : b = false → (∀ fr, FrLe F fr → AOpsL P B ro N ops K (l.drop m) fr σ) → AOpsL P B ro N ops K l fr σ)
    (hk : ∀ fr, FrLe F fr → AOpsL P B ro N ops K (l.drop m) fr σ) : AOpsL P B ro N ops K l fr σ := by
  cases e : b with
  | true => exact hy e hk
  | false => exact hn e hk
theorem Lweak {ops : Array Oper} {K : Fr → AH → Prop} (hK : ∀ {fr fr' : Fr} {σ : AH}, FrLe fr fr' → K fr σ → K fr' σ) : ∀ {l : List Oper} {fr fr' : Fr} {σ : AH}, FrLe fr fr' → AOpsL P B ro N ops K l fr σ → AOpsL P B ro N ops K l fr' σ := by
  intro l
  induction l with
  | nil => intro fr fr' σ hl h; exact hK hl h
  | cons o r ih =>
    intro fr fr' σ hl h
    have put : ∀ (d : Option Tmp) (v : Value), FrLe (putF d v fr) (putF d v fr') := by
      intro d v
      cases d with
      | none => exact hl
      | some d =>
        intro i u hi
        rw [look_put] at hi ⊢
        by_cases e : i = d
        · rw [if_pos e] at hi ⊢; exact hi
        · rw [if_neg e] at hi ⊢; exact hl i u hi
    have ag : ∀ {ρ}, Agrees ρ fr' → Agrees ρ fr := by
      intro ρ hρ x v hx
      refine hρ x v ?_
      cases x <;> first | exact hl _ _ hx | exact hx
    have ex : AExec P B ro o (AOpsL P B ro N ops K r) fr σ → AExec P B ro o (AOpsL P B ro N ops K r) fr' σ := by
      intro hx ρ hρ
      refine awp_mono _ (hx ρ (ag hρ)) ?_
      intro n σ' hn
      cases n <;> first | exact ih (put _ _) hn | exact ACalls.mono hn fun v σ h => ih (put _ _) h | exact hn
    obtain ⟨h0, h⟩ := h
    refine ⟨h0, ?_⟩
    split at h
    · exact ex h
    · obtain ⟨t, v, h1, h2, h3⟩ := h
      exact ⟨t, v, h1, hl _ _ h2, h3.imp (fun ⟨a, b⟩ => ⟨a, ex b⟩) (fun ⟨a, b⟩ => ⟨a, ih (put _ _) b⟩)⟩
theorem bnot_iff {b : Bool} {p : Prop} (h : b = true ↔ p) : (!b) = true ↔ ¬ p := by
  cases b <;> simp at h ⊢ <;> simp [h]
theorem band_iff {a b : Bool} {p q : Prop} (h : a = true ↔ p) (k : b = true ↔ q) : (a && b) = true ↔ (p ∧ q) := by
  rw [Bool.and_eq_true, h, k]
theorem bor_iff {a b : Bool} {p q : Prop} (h : a = true ↔ p) (k : b = true ↔ q) : (a || b) = true ↔ (p ∨ q) := by
  rw [Bool.or_eq_true, h, k]
theorem isNone_iff {α : Type} {a : Option α} : a.isNone = true ↔ a = none := by cases a <;> simp
theorem beq_iff' {a b : Bool} : (a == b) = true ↔ a = b := by simp
end
end Go.Proofs.YtomdigihapdhnaaGreatDoor.SL

/- The base, ninth part: small words of the printed proofs; calls of function values and through interfaces. Generic over any program. -/
namespace Go.Proofs.YtomdigihapdhnaaGreatDoor.SL
open Go
section
variable {P : Program} {B : World} {ro : AH} {N : Nat} {o : Oper} {fr : Fr} {σ : AH} {x y z : Operand} {v : Value}
theorem aread_then {α β : Type} (s : Sem α) {f : α → Sem β} {τ : AH} {w : α} (h : aread P ro s τ = some w) : aread P ro (Sem.bind s f) τ = aread P ro (f w) τ := by
  induction s with
  | pure a => cases h; rfl
  | load m a k ih =>
    simp only [aread] at h
    simp only [Sem.bind, aread]
    split at h
    · exact ih _ h
    · cases h
  | program k ih => exact ih _ h
  | mark m k ih => exact ih h
  | _ => cases h
theorem evb {b c : Bool} (e : b = c) (h : evalF fr x = some (.bool b) := by rfl) : evalF fr x = some (.bool c) := by rw [h, e]
theorem ixL {s : Sl} {a : Addr} {fr : Fr} {x : Operand} (h : evalF fr x = some (Sl.v s)) (ha : s.a = some a) : evalF fr x = some (.slice (some a) s.len s.cap) := by rw [h, ← ha]; rfl
theorem Lypb {ops : Array Oper} {K : Fr → AH → Prop} {rest : List Oper} {u : Value} {j t : Nat} {want b : Bool} (he : PureEv P ro o fr u) (hg : o.guard = some (j, want)) (hd : dstOk N o.dst = true) (ht : (ops[j]?).bind (·.dst) = some t) (hl : look fr t = some (.bool b)) (e : b = want)
    (h : AOpsL P B ro N ops K rest (putF o.dst u fr) σ) : AOpsL P B ro N ops K (o :: rest) fr σ := Lyp he hg hd ht (by rw [hl, e]) h
/-- the rest of a region, from less of the frame -/
theorem Lfr {ops : Array Oper} {K : Fr → AH → Prop} {rest : List Oper} {fr' : Fr} (hl : FrLe fr' fr) (h : AOpsL P B ro N ops (wk K) rest fr' σ) : AOpsL P B ro N ops (wk K) rest fr σ :=
  Lweak (fun hl ⟨f0, h1, h2⟩ => ⟨f0, fun i v e => hl i v (h1 i v e), h2⟩) hl h

/-! steps whose meaning is told by the model's own words -/
theorem X_cvt {K : Fr → AH → Prop} {s t : TypeId} {u : Value} (ho : o.op = .convert s t x) (hx : evalF fr x = some u) (h : awp P ro (convert s t u) (fun v σ => K (putF o.dst v fr) σ) σ) : AExec P B ro o K fr σ :=
  X_sem (fun ρ hρ => by unfold execOp; rw [ho]; simp only [hρ _ _ hx]) h
theorem X_lkp {K : Fr → AH → Prop} {t : TypeId} {u w : Value} {ok : Bool} (ho : o.op = .lookup t x y ok) (hx : evalF fr x = some u) (hy : evalF fr y = some w) (h : awp P ro (Instr.lookup t u w ok) (fun v σ => K (putF o.dst v fr) σ) σ) : AExec P B ro o K fr σ :=
  X_sem (fun ρ hρ => by unfold execOp; rw [ho]; simp only [hρ _ _ hx, hρ _ _ hy]) h
theorem X_rng {K : Fr → AH → Prop} {t : TypeId} {u : Value} (ho : o.op = .range t x) (hx : evalF fr x = some u) (h : awp P ro (Instr.range t u) (fun v σ => K (putF o.dst v fr) σ) σ) : AExec P B ro o K fr σ :=
  X_sem (fun ρ hρ => by unfold execOp; rw [ho]; simp only [hρ _ _ hx]) h
theorem X_nxt {K : Fr → AH → Prop} {t : TypeId} {u : Value} {b : Bool} (ho : o.op = .next x b) (ht : o.type = t) (hx : evalF fr x = some u) (h : awp P ro (Instr.next u b t) (fun v σ => K (putF o.dst v fr) σ) σ) : AExec P B ro o K fr σ :=
  X_sem (fun ρ hρ => by unfold execOp; rw [ho]; simp only [hρ _ _ hx, ht]) h
theorem X_ent {K : Fr → AH → Prop} {u : Value} (ho : o.op = .entry x) (hx : evalF fr x = some u) (h : awp P ro (Instr.entry u) (fun v σ => K (putF o.dst v fr) σ) σ) : AExec P B ro o K fr σ :=
  X_sem (fun ρ hρ => by unfold execOp; rw [ho]; simp only [hρ _ _ hx]) h
theorem X_mup {K : Fr → AH → Prop} {t : TypeId} {u w q : Value} (ho : o.op = .mapUpdate t x y z ∨ o.op = .insert t x y z) (hx : evalF fr x = some u) (hy : evalF fr y = some w) (hz : evalF fr z = some q) (h : awp P ro (Instr.mapUpdate t u w q) (fun _ σ => K (putF o.dst undef fr) σ) σ) : AExec P B ro o K fr σ :=
  X_semU (fun ρ hρ => by unfold execOp; rcases ho with ho | ho <;> rw [ho] <;> simp only [hρ _ _ hx, hρ _ _ hy, hρ _ _ hz]) h
/-! what is owned is not among what is only read -/
def Sep (ro σ : AH) : Prop := ∀ b o, σ b = some o → ro b = none
theorem Own.sep {B : World} {φ : AH} {w : World} (h : Own B ro φ σ w) : Sep ro σ := fun b o e => (h.own b o e).2.2
theorem ACalls.of_sep {f : FuncId} {args : Array Value} {Q : Value → AH → Prop} (h : Sep ro σ → ACalls P B ro f args σ Q) : ACalls P B ro f args σ Q := fun φ w ho => h ho.sep φ w ho
/-! guards in a region that draws its order -/
theorem splitP {G : Prop} (b : Bool) {p : Prop} [Decidable p] {X Y : Prop} (hi : b = true ↔ p) (h : if p then X else Y) (hy : X → b = true → G) (hn : Y → b = false → G) : G := by
  cases e : b with
  | true => rw [if_pos (hi.1 e)] at h; exact hy h e
  | false => rw [if_neg (fun q => by rw [hi.2 q] at e; cases e)] at h; exact hn h e
theorem Dpy {ops : Array Oper} {cl : Nat → Nat} {i j t : Nat} {want b : Bool} {rest : List Nat} {K : Fr → AH → Prop} {u : Value} (ho' : opAt ops.toList i = some o) (hc : cl i = 0) (hg : o.guard = some (j, want)) (ht : (ops[j]?).bind (·.dst) = some t) (hl : look fr t = some (.bool b)) (e : b = want) (hd : dstOk N o.dst = true) (he : PureEv P ro o fr u)
    (h : DOps P B ro N ops cl K rest (putF o.dst u fr) σ) : DOps P B ro N ops cl K (i :: rest) fr σ := by
  have ho := opAt_eq ho'
  unfold DOps D1; rw [ho]; dsimp only; rw [hc]
  exact ⟨hd, u, by unfold RVal; rw [hg]; exact ⟨t, _, ht, hl, .inl ⟨by rw [e], he⟩⟩, h⟩
theorem Dry {ops : Array Oper} {cl : Nat → Nat} {i j t : Nat} {want b : Bool} {rest : List Nat} {K : Fr → AH → Prop} {u : Value} (ho' : opAt ops.toList i = some o) (hc : cl i = 3) (hg : o.guard = some (j, want)) (ht : (ops[j]?).bind (·.dst) = some t) (hl : look fr t = some (.bool b)) (e : b = want) (hd : dstOk N o.dst = true) (he : ReadEv P ro σ o fr u)
    (h : DOps P B ro N ops cl K rest (putF o.dst u fr) σ) : DOps P B ro N ops cl K (i :: rest) fr σ := by
  have ho := opAt_eq ho'
  unfold DOps D1; rw [ho]; dsimp only; rw [hc]
  exact ⟨hd, u, by unfold RVal; rw [hg]; exact ⟨t, _, ht, hl, .inl ⟨by rw [e], he⟩⟩, h⟩
theorem Drn {ops : Array Oper} {cl : Nat → Nat} {i j t : Nat} {want : Bool} {v : Value} {rest : List Nat} {K : Fr → AH → Prop} (ho' : opAt ops.toList i = some o) (hc : cl i = 3) (hg : o.guard = some (j, want)) (ht : (ops[j]?).bind (·.dst) = some t) (hl : look fr t = some v) (hv : v = .bool (!want) ∨ v = undef) (hd : dstOk N o.dst = true)
    (h : DOps P B ro N ops cl K rest (putF o.dst undef fr) σ) : DOps P B ro N ops cl K (i :: rest) fr σ := by
  have ho := opAt_eq ho'
  unfold DOps D1; rw [ho]; dsimp only; rw [hc]
  refine ⟨hd, undef, ?_, h⟩
  unfold RVal; rw [hg]
  refine ⟨t, _, ht, hl, .inr ⟨?_, rfl⟩⟩
  rcases hv with rfl | rfl
  · cases want <;> simp
  · simp [undef]
theorem R_ld {t : TypeId} {d : TypeDesc} {a : Addr} (ho : o.op = .load t x) (ht : P.underlying t = some d) (hd : isAggD d = false) (hx : evalF fr x = some (.pointer (some a))) (hc : acell ro σ a = some v) : ReadEv P ro σ o fr v := by
  intro ρ hρ
  have e : execOp ρ o = (do pure (.value (← loadVar t a))) := by unfold execOp; rw [ho]; simp only [hρ _ _ hx]; rfl
  rw [e]
  show aread P ro (Sem.bind (loadVar t a) _) σ = _
  unfold loadVar
  show aread P ro (Sem.bind (Sem.bind (isAgg t) _) _) σ = _
  rw [bind_assoc', aread_isAgg ht, hd]
  show aread P ro (Sem.load .plain a _) σ = _
  simp only [aread, hc]
  rfl
theorem R_lda {t : TypeId} {d : TypeDesc} {a : Addr} {vs : List Value} {zv : Value} {b : Nat} (ho : o.op = .load t x) (ht : P.underlying t = some d) (hd : isAggD d = true) (hz : TyIs P t zv vs.length b) (hx : evalF fr x = some (.pointer (some a)))
    (hc : cellsAt ro σ a 0 vs) : ReadEv P ro σ o fr (.agg vs.toArray) := by
  intro ρ hρ
  have e : execOp ρ o = (do pure (.value (← loadVar t a))) := by unfold execOp; rw [ho]; simp only [hρ _ _ hx]; rfl
  rw [e]
  show aread P ro (Sem.bind (loadVar t a) _) σ = _
  unfold loadVar
  show aread P ro (Sem.bind (Sem.bind (isAgg t) _) _) σ = _
  rw [bind_assoc', aread_isAgg ht, hd]
  show aread P ro (Sem.bind (Sem.bind (sizeOf t) _) _) σ = _
  rw [bind_assoc', aread_size hz]
  show aread P ro (Sem.bind (Sem.bind (loadCellsFrom a 0 vs.length #[]) _) _) σ = _
  rw [bind_assoc', aread_then _ (aread_loadCells (P := P) vs 0 #[] hc)]
  simp [pure_def, bind_pure', aread]
theorem Dpn {ops : Array Oper} {cl : Nat → Nat} {i j t : Nat} {want : Bool} {v : Value} {rest : List Nat} {K : Fr → AH → Prop} (ho' : opAt ops.toList i = some o) (hc : cl i = 0) (hg : o.guard = some (j, want)) (ht : (ops[j]?).bind (·.dst) = some t) (hl : look fr t = some v) (hv : v = .bool (!want) ∨ v = undef) (hd : dstOk N o.dst = true)
    (h : DOps P B ro N ops cl K rest (putF o.dst undef fr) σ) : DOps P B ro N ops cl K (i :: rest) fr σ := by
  have ho := opAt_eq ho'
  unfold DOps D1; rw [ho]; dsimp only; rw [hc]
  refine ⟨hd, undef, ?_, h⟩
  unfold RVal; rw [hg]
  refine ⟨t, _, ht, hl, .inr ⟨?_, rfl⟩⟩
  rcases hv with rfl | rfl
  · cases want <;> simp
  · simp [undef]
/-- memory that is made by a conversion -/
theorem Dc {ops : Array Oper} {cl : Nat → Nat} {i : Nat} {rest : List Nat} {K : Fr → AH → Prop} (ho' : opAt ops.toList i = some o) (hc : cl i = 1) (hg : o.guard = none) (hd : dstOk N o.dst = true) (he : ∃ G, FamEv P ro o fr G)
    (h : AExec P B ro o (DOps P B ro N ops cl K rest) fr σ) : DOps P B ro N ops cl K (i :: rest) fr σ := by
  have ho := opAt_eq ho'
  obtain ⟨G, he⟩ := he
  unfold DOps D1; rw [ho]; dsimp only; rw [hc]
  exact ⟨hd, some G, by unfold NVal; rw [hg]; exact ⟨_, rfl, he⟩, (he _ (ofFr_agrees fr) _ σ).1 (h _ (ofFr_agrees fr))⟩
theorem Dgy {ops : Array Oper} {cl : Nat → Nat} {i j t : Nat} {want b : Bool} {rest : List Nat} {K : Fr → AH → Prop} (ho' : opAt ops.toList i = some o) (hc : cl i = 2) (hg : o.guard = some (j, want)) (ht : (ops[j]?).bind (·.dst) = some t) (hl : look fr t = some (.bool b)) (e : b = want) (hd : dstOk N o.dst = true)
    (h : AExec P B ro o (DOps P B ro N ops cl K rest) fr σ) : DOps P B ro N ops cl K (i :: rest) fr σ := by
  have ho := opAt_eq ho'
  unfold DOps D1; rw [ho]; dsimp only; rw [hc]
  refine ⟨hd, ?_⟩; rw [hg]; exact ⟨t, _, ht, hl, .inl ⟨by rw [e], h⟩⟩
theorem Dgn {ops : Array Oper} {cl : Nat → Nat} {i j t : Nat} {want : Bool} {v : Value} {rest : List Nat} {K : Fr → AH → Prop} (ho' : opAt ops.toList i = some o) (hc : cl i = 2) (hg : o.guard = some (j, want)) (ht : (ops[j]?).bind (·.dst) = some t) (hl : look fr t = some v) (hv : v = .bool (!want) ∨ v = undef) (hd : dstOk N o.dst = true)
    (h : DOps P B ro N ops cl K rest (putF o.dst undef fr) σ) : DOps P B ro N ops cl K (i :: rest) fr σ := by
  have ho := opAt_eq ho'
  unfold DOps D1; rw [ho]; dsimp only; rw [hc]
  refine ⟨hd, ?_⟩; rw [hg]
  refine ⟨t, _, ht, hl, .inr ⟨?_, h⟩⟩
  rcases hv with rfl | rfl
  · cases want <;> simp
  · simp [undef]

/-! function values -/
/-! calls through an interface value -/
/-! results that lie in memory -/
def rItem (P : Program) (ro : AH) (fr : Fr) (σ : AH) (r : ResultVar) (v : Value) : Prop :=
  ∀ tmps : Array Value, (∀ i u, look fr i = some u → tmps[i]? = some u) → aread P ro (match r with | .tmp t => pure (tmps.getD t undef) | .cell a t => do loadVar t (← asAddr (tmps.getD a undef))) σ = some v
def rList (P : Program) (ro : AH) (fr : Fr) (σ : AH) : List ResultVar → List Value → Prop
  | [], [] => True
  | r :: rs, v :: vs => rItem P ro fr σ r v ∧ rList P ro fr σ rs vs
  | _, _ => False
theorem rNil : rList P ro fr σ [] [] := trivial
theorem rCons {r : ResultVar} {rs : List ResultVar} {v : Value} {vs : List Value} (h : rItem P ro fr σ r v) (hs : rList P ro fr σ rs vs) : rList P ro fr σ (r :: rs) (v :: vs) := ⟨h, hs⟩
theorem rTmp {t : Nat} (h : look fr t = some v) : rItem P ro fr σ (.tmp t) v := by
  intro tmps ht
  simp [Array.getD_eq_getD_getElem?, ht t v h, pure_def, aread]
theorem rAgg {a : Nat} {t : TypeId} {d : TypeDesc} {ad : Addr} {vs : List Value} {zv : Value} {b : Nat} (h : look fr a = some (.pointer (some ad))) (ht : P.underlying t = some d) (hd : isAggD d = true) (hz : TyIs P t zv vs.length b) (hc : cellsAt ro σ ad 0 vs) : rItem P ro fr σ (.cell a t) (.agg vs.toArray) := by
  intro tmps hh
  have e : tmps.getD a undef = .pointer (some ad) := by simp [Array.getD_eq_getD_getElem?, hh a _ h]
  dsimp only
  rw [e]
  show aread P ro (loadVar t ad) σ = _
  unfold loadVar
  show aread P ro (Sem.bind (isAgg t) _) _ = _
  rw [aread_isAgg ht, hd]
  show aread P ro (Sem.bind (sizeOf t) _) _ = _
  rw [aread_size hz]
  have := aread_loadCells (P := P) vs 0 #[] hc
  show aread P ro (Sem.bind (loadCellsFrom ad 0 vs.length #[]) fun cs => Sem.pure (Value.agg cs)) _ = _
  rw [aread_then _ this]
  simp [aread]
theorem retM1 {fn : Func} {R : Value → AH → Prop} {rs : List ResultVar} {v : Value} (hr : fn.results = rs.toArray) (h : rList P ro fr σ rs [v]) (hR : R v σ) :
    ∃ v, (∀ tmps : Array Value, (∀ i u, look fr i = some u → tmps[i]? = some u) → aread P ro (results fn tmps) σ = some v) ∧ R v σ := by
  refine ⟨v, fun tmps ht => ?_, hR⟩
  exact results_of hr h tmps ht
where
  map_of {β : Type} : ∀ (rs : List ResultVar) (vs : List Value) (f : List Value → Sem β), rList P ro fr σ rs vs → ∀ tmps : Array Value, (∀ i u, look fr i = some u → tmps[i]? = some u) →
      aread P ro (Sem.bind (rs.mapM fun r => match r with | .tmp t => pure (tmps.getD t undef) | .cell a t => do loadVar t (← asAddr (tmps.getD a undef))) f) σ = aread P ro (f vs) σ := by
    intro rs
    induction rs with
    | nil =>
      intro vs f h tmps ht
      cases vs with
      | nil => rfl
      | cons v vs => exact h.elim
    | cons r rs ih =>
      intro vs f h tmps ht
      cases vs with
      | nil => exact h.elim
      | cons v vs =>
        obtain ⟨h1, h2⟩ := h
        rw [List.mapM_cons]
        show aread P ro (Sem.bind (Sem.bind _ _) f) σ = _
        rw [bind_assoc', aread_then _ (h1 tmps ht)]
        show aread P ro (Sem.bind (Sem.bind _ _) f) σ = _
        rw [bind_assoc', ih vs _ h2 tmps ht]
        rfl
  results_of {fn : Func} {rs : List ResultVar} {vs : List Value} (hr : fn.results = rs.toArray) (h : rList P ro fr σ rs vs) (tmps : Array Value) (ht : ∀ i u, look fr i = some u → tmps[i]? = some u) :
      aread P ro (results fn tmps) σ = some (if h : vs.toArray.size = 1 then vs.toArray[0] else .tuple vs.toArray) := by
    unfold results
    rw [hr, Array.mapM_eq_mapM_toList, List.toList_toArray]
    show aread P ro (Sem.bind (Sem.bind _ _) _) σ = _
    rw [bind_assoc']
    exact (map_of rs vs _ h tmps ht).trans rfl
theorem retM {fn : Func} {R : Value → AH → Prop} {rs : List ResultVar} {v w : Value} {vs : List Value} (hr : fn.results = rs.toArray) (h : rList P ro fr σ rs (v :: w :: vs)) (hR : R (.tuple (v :: w :: vs).toArray) σ) :
    ∃ v, (∀ tmps : Array Value, (∀ i u, look fr i = some u → tmps[i]? = some u) → aread P ro (results fn tmps) σ = some v) ∧ R v σ := by
  refine ⟨_, fun tmps ht => ?_, hR⟩
  refine (retM1.results_of hr h tmps ht).trans ?_
  rw [dif_neg (by simp)]
theorem bR0 {fn : Func} {R : Value → AH → Prop} (hr : fn.results = #[]) (h : R (.tuple #[]) σ) : bodyQ P ro fn R .ret fr σ := ret0 hr h
theorem bR1 {fn : Func} {R : Value → AH → Prop} {a : Nat} {x : Value} (hr : fn.results = #[.tmp a]) (ha : look fr a = some x) (h : R x σ) : bodyQ P ro fn R .ret fr σ := ret1 hr ha h
theorem bR2 {fn : Func} {R : Value → AH → Prop} {a b : Nat} {x y : Value} (hr : fn.results = #[.tmp a, .tmp b]) (ha : look fr a = some x) (hb : look fr b = some y) (h : R (.tuple #[x, y]) σ) : bodyQ P ro fn R .ret fr σ := ret2 hr ha hb h
theorem bR3 {fn : Func} {R : Value → AH → Prop} {a b c : Nat} {x y z : Value} (hr : fn.results = #[.tmp a, .tmp b, .tmp c]) (ha : look fr a = some x) (hb : look fr b = some y) (hc : look fr c = some z) (h : R (.tuple #[x, y, z]) σ) : bodyQ P ro fn R .ret fr σ := ret3 hr ha hb hc h
theorem bRM1 {fn : Func} {R : Value → AH → Prop} {rs : List ResultVar} {v : Value} (hr : fn.results = rs.toArray) (h : rList P ro fr σ rs [v]) (hR : R v σ) : bodyQ P ro fn R .ret fr σ := retM1 hr h hR
theorem bRM {fn : Func} {R : Value → AH → Prop} {rs : List ResultVar} {v w : Value} {vs : List Value} (hr : fn.results = rs.toArray) (h : rList P ro fr σ rs (v :: w :: vs)) (hR : R (.tuple (v :: w :: vs).toArray) σ) : bodyQ P ro fn R .ret fr σ := retM hr h hR
theorem bN0 {fn : Func} {R : Value → AH → Prop} (hr : fn.results = #[]) (h : R (.tuple #[]) σ) : bodyQ P ro fn R .normal fr σ := ret0 hr h
def s2bN (str : ByteArray) (e : TypeId) (n : Nat) : Nat := (Question.appendCap str.size 0 e).cut n
def s2bC (str : ByteArray) (e : TypeId) (n : Nat) : Array Value := (str.data.map fun (b : UInt8) => Value.int .u8 (b.toNat : Int)) ++ Array.replicate (s2bN str e n - str.size) (Value.int .u8 0)
theorem upd_again (τ : AH) (b : Nat) (u v : Obj) : upd (upd τ b u) b v = upd τ b v := by funext c; unfold upd; split <;> rfl
theorem upd_at (τ : AH) (b : Nat) (u : Obj) : upd τ b u b = some u := by unfold upd; rw [if_pos rfl]
/-- bytes out of a text: memory of one of several sizes -/
theorem F_s2b {s d e : TypeId} {str : ByteArray} (ho : o.op = .convert s d x) (hs : P.underlying s = some .string) (hd : P.underlying d = some (.slice e)) (he : P.underlying e = some (.int .u8)) (hx : evalF fr x = some (.string str)) : ∃ G, FamEv P ro o fr G := by
  refine ⟨fun n => (freezeObj (s2bC str e n).size 1 (.cells (s2bC str e n) e), fun b => .slice (some ⟨b, 0, none⟩) str.size (s2bN str e n)), fun ρ hρ Q σ => ?_⟩
  have ex : execOp ρ o = (do pure (.value (← convert s d (.string str)))) := by unfold execOp; rw [ho]; simp only [hρ _ _ hx]
  rw [ex]
  unfold convert
  simp only [bind_def, bind_assoc']
  rw [awp_underlying hs, awp_underlying hd]
  simp only [bind_assoc']
  rw [awp_underlying he]
  simp only [bind_assoc']
  unfold Conv.stringToBytes
  simp only [bind_def, bind_assoc']
  show (∀ n b, ro b = none → σ b = none → ∃ o', rd ro (upd σ b (.cells (s2bC str e n) e)) b = some o' ∧ awp P ro _ Q (upd σ b (.cells (s2bC str e n) e))) ↔ _
  have one : ∀ n b, ro b = none → ∀ o', rd ro (upd σ b (.cells (s2bC str e n) e)) b = some o' ↔ o' = .cells (s2bC str e n) e := fun n b hb o' => by
    unfold rd; rw [hb]; simp only [upd_at, Option.some.injEq]; exact eq_comm
  constructor
  · intro h n b hb hs'
    obtain ⟨o', h1, h2⟩ := h n b hb hs'
    obtain rfl := (one n b hb o').1 h1
    obtain ⟨_, o2, h3, h4⟩ := h2
    rw [upd_at] at h3
    cases h3
    rw [upd_again] at h4
    exact h4
  · intro h n b hb hs'
    refine ⟨_, (one n b hb _).2 rfl, ?_⟩
    refine ⟨by decide, _, upd_at _ _ _, ?_⟩
    rw [upd_again]
    exact h n b hb hs'
end
end Go.Proofs.YtomdigihapdhnaaGreatDoor.SL

/- From what a call does to what the statement says: the memory that the arguments stand in is lent whole, and stays as it is. Generic over any program. -/
namespace Go.Proofs.YtomdigihapdhnaaGreatDoor.SL
open Go Go.RowKit

/-- all memory of a world, to read from -/
def all (W : World) : AH := fun b => W.heap[b]?
theorem all_cell {W : World} {a : Addr} {v : Value} (σ : AH) (h : W.cell? a = some v) : acell (all W) σ a = some v := by
  rw [cell?_eq] at h
  unfold acell rd all
  cases e : W.heap[a.block]? with
  | none => rw [e] at h; cases h
  | some o => rw [e] at h; exact h
theorem calls_of {P : Program} {W : World} {f : FuncId} {args : Array Value} {Q : Value → Prop} (h : ACalls P W (all W) f args (fun _ => none) fun v _ => Q v) :
    Calls P f args W fun e W' => (∃ v, e = .returned v ∧ Q v) ∧ Below W.heap.size W W' := by
  refine (h (fun _ => none) W ⟨rfl, rfl, rfl, fun _ _ e => by (cases e), fun _ _ e => by (cases e), fun _ _ e => e⟩).mono ?_
  rintro e W' ⟨v, σ', he, hq, ho⟩
  refine ⟨⟨v, he, hq⟩, ho.os, ho.tape, ho.output, ?_, fun k hk => ?_⟩
  · rcases Nat.eq_zero_or_pos W.heap.size with h0 | h0
    · rw [h0]; exact Nat.zero_le _
    · have := lt_of_block (ho.ro (W.heap.size - 1) _ (by unfold all; exact Array.getElem?_eq_getElem (by omega)))
      omega
  · have e := Array.getElem?_eq_getElem hk
    rw [e]; exact ho.ro k _ e

theorem trod_i64 {H : Type} {enc : TypeId × Value → H} {P : Program} {W : World} {t : TypeId} {fuel : Nat} {u : Value} {y : DataW H × List MemPlace} (ht : P.underlying t = some (.int .i64))
    (h : DataW.trod enc P W 0 (fun _ => true) true fuel t [u] = some y) : ∃ x : Int, u = .int .i64 x ∧ -9223372036854775808 ≤ x ∧ x < 9223372036854775808 := by
  cases fuel with
  | zero => cases h
  | succ n =>
    unfold DataW.trod at h
    rw [ht] at h
    cases u <;> simp at h
    rename_i k x
    refine ⟨x, by rw [h.1.1], ?_⟩
    have := h.1.2
    simp [Lit.wf, IntKind.min, IntKind.max, IntKind.bits, IntKind.signed] at this
    omega
end Go.Proofs.YtomdigihapdhnaaGreatDoor.SL
