/- The base, ninth part: small words of the printed proofs; calls of function values and through interfaces. Generic over any program. -/
import Derived.Test.YthfpmipeejjogaaGreatDoorBase8
namespace Go.Proofs.YthfpmipeejjogaaGreatDoor.SL
open Go
section
variable {P : Program} {B : World} {ro : AH} {N : Nat} {o : Oper} {fr : Fr} {σ : AH} {x y z : Operand} {v : Value}
theorem aread_then {α β : Type} (s : Sem α) {f : α → Sem β} {τ : AH} {w : α} (h : aread P ro s τ = some w) : aread P ro (Sem.bind s f) τ = aread P ro (f w) τ := by
  induction s with
  | pure a => cases h; rfl
  | load m a k ih =>
    simp only [aread] at h
    simp only [Sem.bind, aread]
    split at h
    · exact ih _ h
    · cases h
  | program k ih => exact ih _ h
  | mark m k ih => exact ih h
  | _ => cases h
theorem evb {b c : Bool} (e : b = c) (h : evalF fr x = some (.bool b) := by rfl) : evalF fr x = some (.bool c) := by rw [h, e]
theorem ixL {s : Sl} {a : Addr} {fr : Fr} {x : Operand} (h : evalF fr x = some (Sl.v s)) (ha : s.a = some a) : evalF fr x = some (.slice (some a) s.len s.cap) := by rw [h, ← ha]; rfl
theorem Lypb {ops : Array Oper} {K : Fr → AH → Prop} {rest : List Oper} {u : Value} {j t : Nat} {want b : Bool} (he : PureEv P ro o fr u) (hg : o.guard = some (j, want)) (hd : dstOk N o.dst = true) (ht : (ops[j]?).bind (·.dst) = some t) (hl : look fr t = some (.bool b)) (e : b = want)
    (h : AOpsL P B ro N ops K rest (putF o.dst u fr) σ) : AOpsL P B ro N ops K (o :: rest) fr σ := Lyp he hg hd ht (by rw [hl, e]) h
/-- the rest of a region, from less of the frame -/
theorem Lfr {ops : Array Oper} {K : Fr → AH → Prop} {rest : List Oper} {fr' : Fr} (hl : FrLe fr' fr) (h : AOpsL P B ro N ops (wk K) rest fr' σ) : AOpsL P B ro N ops (wk K) rest fr σ :=
  Lweak (fun hl ⟨f0, h1, h2⟩ => ⟨f0, fun i v e => hl i v (h1 i v e), h2⟩) hl h

/-! steps whose meaning is told by the model's own words -/
theorem X_cvt {K : Fr → AH → Prop} {s t : TypeId} {u : Value} (ho : o.op = .convert s t x) (hx : evalF fr x = some u) (h : awp P ro (convert s t u) (fun v σ => K (putF o.dst v fr) σ) σ) : AExec P B ro o K fr σ :=
  X_sem (fun ρ hρ => by unfold execOp; rw [ho]; simp only [hρ _ _ hx]) h
theorem X_lkp {K : Fr → AH → Prop} {t : TypeId} {u w : Value} {ok : Bool} (ho : o.op = .lookup t x y ok) (hx : evalF fr x = some u) (hy : evalF fr y = some w) (h : awp P ro (Instr.lookup t u w ok) (fun v σ => K (putF o.dst v fr) σ) σ) : AExec P B ro o K fr σ :=
  X_sem (fun ρ hρ => by unfold execOp; rw [ho]; simp only [hρ _ _ hx, hρ _ _ hy]) h
theorem X_rng {K : Fr → AH → Prop} {t : TypeId} {u : Value} (ho : o.op = .range t x) (hx : evalF fr x = some u) (h : awp P ro (Instr.range t u) (fun v σ => K (putF o.dst v fr) σ) σ) : AExec P B ro o K fr σ :=
  X_sem (fun ρ hρ => by unfold execOp; rw [ho]; simp only [hρ _ _ hx]) h
theorem X_nxt {K : Fr → AH → Prop} {t : TypeId} {u : Value} {b : Bool} (ho : o.op = .next x b) (ht : o.type = t) (hx : evalF fr x = some u) (h : awp P ro (Instr.next u b t) (fun v σ => K (putF o.dst v fr) σ) σ) : AExec P B ro o K fr σ :=
  X_sem (fun ρ hρ => by unfold execOp; rw [ho]; simp only [hρ _ _ hx, ht]) h
theorem X_mup {K : Fr → AH → Prop} {t : TypeId} {u w q : Value} (ho : o.op = .mapUpdate t x y z ∨ o.op = .insert t x y z) (hx : evalF fr x = some u) (hy : evalF fr y = some w) (hz : evalF fr z = some q) (h : awp P ro (Instr.mapUpdate t u w q) (fun _ σ => K (putF o.dst undef fr) σ) σ) : AExec P B ro o K fr σ :=
  X_semU (fun ρ hρ => by unfold execOp; rcases ho with ho | ho <;> rw [ho] <;> simp only [hρ _ _ hx, hρ _ _ hy, hρ _ _ hz]) h
/-! what is owned is not among what is only read -/
def Sep (ro σ : AH) : Prop := ∀ b o, σ b = some o → ro b = none
theorem Own.sep {B : World} {φ : AH} {w : World} (h : Own B ro φ σ w) : Sep ro σ := fun b o e => (h.own b o e).2.2
theorem ACalls.of_sep {f : FuncId} {args : Array Value} {Q : Value → AH → Prop} (h : Sep ro σ → ACalls P B ro f args σ Q) : ACalls P B ro f args σ Q := fun φ w ho => h ho.sep φ w ho
/-! guards in a region that draws its order -/
theorem R_ld {t : TypeId} {d : TypeDesc} {a : Addr} (ho : o.op = .load t x) (ht : P.underlying t = some d) (hd : isAggD d = false) (hx : evalF fr x = some (.pointer (some a))) (hc : acell ro σ a = some v) : ReadEv P ro σ o fr v := by
  intro ρ hρ
  have e : execOp ρ o = (do pure (.value (← loadVar t a))) := by unfold execOp; rw [ho]; simp only [hρ _ _ hx]; rfl
  rw [e]
  show aread P ro (Sem.bind (loadVar t a) _) σ = _
  unfold loadVar
  show aread P ro (Sem.bind (Sem.bind (isAgg t) _) _) σ = _
  rw [bind_assoc', aread_isAgg ht, hd]
  show aread P ro (Sem.load .plain a _) σ = _
  simp only [aread, hc]
  rfl
/-! function values -/
def callV (P : Program) (B : World) (ro : AH) (f : Value) (vs : List Value) (σ : AH) (Q : Value → AH → Prop) : Prop :=
  ∃ k fn first cap, f = .func (.func k) first cap ∧ P.funcs[k]? = some fn ∧ (fn.name == "runtime.NumGoroutine") = false ∧ fn.body.isNone = false ∧ ACalls P B ro k (first ++ vs.toArray ++ cap) σ Q
theorem callV_mono {f : Value} {vs : List Value} {Q Q' : Value → AH → Prop} (h : callV P B ro f vs σ Q) (hq : ∀ v σ, Q v σ → Q' v σ) : callV P B ro f vs σ Q' := by
  obtain ⟨k, fn, first, cap, h1, h2, h3, h4, h5⟩ := h
  exact ⟨k, fn, first, cap, h1, h2, h3, h4, h5.mono hq⟩
theorem X_callV {K : Fr → AH → Prop} {f : Value} {as : Array Operand} {ts : Array TypeId} {vs : List Value} (ho : o.op = .call { callee := .value x, args := as, argTypes := ts }) (hx : evalF fr x = some f) (ha : evalAll fr as.toList = some vs)
    (h : callV P B ro f vs σ fun v σ => K (putF o.dst v fr) σ) : AExec P B ro o K fr σ := by
  obtain ⟨k, fn, first, cap, rfl, h2, h3, h4, h5⟩ := h
  exact X_callv ho hx h2 h3 h4 ha h5
/-! calls through an interface value -/
/-! results that lie in memory -/
def rItem (P : Program) (ro : AH) (fr : Fr) (σ : AH) (r : ResultVar) (v : Value) : Prop :=
  ∀ tmps : Array Value, (∀ i u, look fr i = some u → tmps[i]? = some u) → aread P ro (match r with | .tmp t => pure (tmps.getD t undef) | .cell a t => do loadVar t (← asAddr (tmps.getD a undef))) σ = some v
def rList (P : Program) (ro : AH) (fr : Fr) (σ : AH) : List ResultVar → List Value → Prop
  | [], [] => True
  | r :: rs, v :: vs => rItem P ro fr σ r v ∧ rList P ro fr σ rs vs
  | _, _ => False
theorem rNil : rList P ro fr σ [] [] := trivial
theorem rCons {r : ResultVar} {rs : List ResultVar} {v : Value} {vs : List Value} (h : rItem P ro fr σ r v) (hs : rList P ro fr σ rs vs) : rList P ro fr σ (r :: rs) (v :: vs) := ⟨h, hs⟩
theorem rTmp {t : Nat} (h : look fr t = some v) : rItem P ro fr σ (.tmp t) v := by
  intro tmps ht
  simp [Array.getD_eq_getD_getElem?, ht t v h, pure_def, aread]
theorem rAgg {a : Nat} {t : TypeId} {d : TypeDesc} {ad : Addr} {vs : List Value} {zv : Value} {b : Nat} (h : look fr a = some (.pointer (some ad))) (ht : P.underlying t = some d) (hd : isAggD d = true) (hz : TyIs P t zv vs.length b) (hc : cellsAt ro σ ad 0 vs) : rItem P ro fr σ (.cell a t) (.agg vs.toArray) := by
  intro tmps hh
  have e : tmps.getD a undef = .pointer (some ad) := by simp [Array.getD_eq_getD_getElem?, hh a _ h]
  dsimp only
  rw [e]
  show aread P ro (loadVar t ad) σ = _
  unfold loadVar
  show aread P ro (Sem.bind (isAgg t) _) _ = _
  rw [aread_isAgg ht, hd]
  show aread P ro (Sem.bind (sizeOf t) _) _ = _
  rw [aread_size hz]
  have := aread_loadCells (P := P) vs 0 #[] hc
  show aread P ro (Sem.bind (loadCellsFrom ad 0 vs.length #[]) fun cs => Sem.pure (Value.agg cs)) _ = _
  rw [aread_then _ this]
  simp [aread]
theorem retM1 {fn : Func} {R : Value → AH → Prop} {rs : List ResultVar} {v : Value} (hr : fn.results = rs.toArray) (h : rList P ro fr σ rs [v]) (hR : R v σ) :
    ∃ v, (∀ tmps : Array Value, (∀ i u, look fr i = some u → tmps[i]? = some u) → aread P ro (results fn tmps) σ = some v) ∧ R v σ := by
  refine ⟨v, fun tmps ht => ?_, hR⟩
  exact results_of hr h tmps ht
where
  map_of {β : Type} : ∀ (rs : List ResultVar) (vs : List Value) (f : List Value → Sem β), rList P ro fr σ rs vs → ∀ tmps : Array Value, (∀ i u, look fr i = some u → tmps[i]? = some u) →
      aread P ro (Sem.bind (rs.mapM fun r => match r with | .tmp t => pure (tmps.getD t undef) | .cell a t => do loadVar t (← asAddr (tmps.getD a undef))) f) σ = aread P ro (f vs) σ := by
    intro rs
    induction rs with
    | nil =>
      intro vs f h tmps ht
      cases vs with
      | nil => rfl
      | cons v vs => exact h.elim
    | cons r rs ih =>
      intro vs f h tmps ht
      cases vs with
      | nil => exact h.elim
      | cons v vs =>
        obtain ⟨h1, h2⟩ := h
        rw [List.mapM_cons]
        show aread P ro (Sem.bind (Sem.bind _ _) f) σ = _
        rw [bind_assoc', aread_then _ (h1 tmps ht)]
        show aread P ro (Sem.bind (Sem.bind _ _) f) σ = _
        rw [bind_assoc', ih vs _ h2 tmps ht]
        rfl
  results_of {fn : Func} {rs : List ResultVar} {vs : List Value} (hr : fn.results = rs.toArray) (h : rList P ro fr σ rs vs) (tmps : Array Value) (ht : ∀ i u, look fr i = some u → tmps[i]? = some u) :
      aread P ro (results fn tmps) σ = some (if h : vs.toArray.size = 1 then vs.toArray[0] else .tuple vs.toArray) := by
    unfold results
    rw [hr, Array.mapM_eq_mapM_toList, List.toList_toArray]
    show aread P ro (Sem.bind (Sem.bind _ _) _) σ = _
    rw [bind_assoc']
    exact (map_of rs vs _ h tmps ht).trans rfl
theorem retM {fn : Func} {R : Value → AH → Prop} {rs : List ResultVar} {v w : Value} {vs : List Value} (hr : fn.results = rs.toArray) (h : rList P ro fr σ rs (v :: w :: vs)) (hR : R (.tuple (v :: w :: vs).toArray) σ) :
    ∃ v, (∀ tmps : Array Value, (∀ i u, look fr i = some u → tmps[i]? = some u) → aread P ro (results fn tmps) σ = some v) ∧ R v σ := by
  refine ⟨_, fun tmps ht => ?_, hR⟩
  refine (retM1.results_of hr h tmps ht).trans ?_
  rw [dif_neg (by simp)]
theorem bR1 {fn : Func} {R : Value → AH → Prop} {a : Nat} {x : Value} (hr : fn.results = #[.tmp a]) (ha : look fr a = some x) (h : R x σ) : bodyQ P ro fn R .ret fr σ := ret1 hr ha h
theorem bR2 {fn : Func} {R : Value → AH → Prop} {a b : Nat} {x y : Value} (hr : fn.results = #[.tmp a, .tmp b]) (ha : look fr a = some x) (hb : look fr b = some y) (h : R (.tuple #[x, y]) σ) : bodyQ P ro fn R .ret fr σ := ret2 hr ha hb h
theorem bRM {fn : Func} {R : Value → AH → Prop} {rs : List ResultVar} {v w : Value} {vs : List Value} (hr : fn.results = rs.toArray) (h : rList P ro fr σ rs (v :: w :: vs)) (hR : R (.tuple (v :: w :: vs).toArray) σ) : bodyQ P ro fn R .ret fr σ := retM hr h hR
end
end Go.Proofs.YthfpmipeejjogaaGreatDoor.SL
