/- The base, seventh part: operations that touch memory; calls. Generic over any program. -/
import Derived.Test.YthfpmipeejjogaaGreatDoorBase6
import Derived.IntWalk
namespace Go.Proofs.YthfpmipeejjogaaGreatDoor.SL
open Go
section
variable {P : Program} {B : World} {ro : AH} {N : Nat} {o : Oper} {fr : Fr} {σ : AH} {x y z : Operand} {v : Value}

/-! ### 12. Reading the types' table -/
theorem typeInfo_bind {β : Type} (t : TypeId) (f : TypeInfo → Sem β) {d : TypeInfo} (h : P.info? t = some d) {τ : AH} : aread P ro (Sem.bind (typeInfo t) f) τ = aread P ro (f d) τ := by
  unfold typeInfo
  simp only [bind_def, program_bind]
  show aread P ro (Sem.bind (match P.info? t with | some i => pure i | none => stuck "no such type") f) τ = _
  rw [h]; rfl
theorem awp_underlying {β : Type} {t : TypeId} {f : TypeDesc → Sem β} {d : TypeDesc} (h : P.underlying t = some d) {Q : β → AH → Prop} : awp P ro (Sem.bind (underlying t) f) Q σ ↔ awp P ro (f d) Q σ := by
  unfold underlying
  simp only [bind_def, program_bind]
  show awp P ro (Sem.bind (match P.underlying t with | some d => pure d | none => stuck "no such type") f) Q σ ↔ _
  rw [h]; rfl
theorem awp_typeInfo {β : Type} {t : TypeId} {f : TypeInfo → Sem β} {d : TypeInfo} (h : P.info? t = some d) {Q : β → AH → Prop} : awp P ro (Sem.bind (typeInfo t) f) Q σ ↔ awp P ro (f d) Q σ := by
  unfold typeInfo
  simp only [bind_def, program_bind]
  show awp P ro (Sem.bind (match P.info? t with | some i => pure i | none => stuck "no such type") f) Q σ ↔ _
  rw [h]; rfl
/-- A type's row of the table: its zero value, how many cells, how many bytes. -/
def TyIs (P : Program) (t : TypeId) (zero : Value) (size bytes : Nat) : Prop := ∃ i, P.info? t = some i ∧ i.zero = some zero ∧ i.size = size ∧ i.bytes = bytes
theorem TyIs.of {t : TypeId} {zero : Value} {size bytes : Nat} (h : (P.info? t).map (fun i => (i.zero, i.size, i.bytes)) = some (some zero, size, bytes)) : TyIs P t zero size bytes := by
  cases e : P.info? t with
  | none => rw [e] at h; cases h
  | some i => rw [e] at h; simp at h; exact ⟨i, e, h.1, h.2.1, h.2.2⟩
theorem awp_zero {β : Type} {t : TypeId} {zv : Value} {s b : Nat} (h : TyIs P t zv s b) {f : Value → Sem β} {Q : β → AH → Prop} : awp P ro (Sem.bind (zeroValue t) f) Q σ ↔ awp P ro (f zv) Q σ := by
  obtain ⟨i, h1, h2, _, _⟩ := h
  unfold zeroValue
  show awp P ro (Sem.bind (Sem.bind (typeInfo t) _) f) Q σ ↔ _
  rw [show ∀ (g : TypeInfo → Sem Value), Sem.bind (Sem.bind (typeInfo t) g) f = Sem.bind (typeInfo t) fun i => Sem.bind (g i) f from fun g => bind_assoc' _ _ _]
  rw [awp_typeInfo h1, h2]; rfl
where
  bind_assoc' {α β γ : Type} (s : Sem α) (f : α → Sem β) (g : β → Sem γ) : Sem.bind (Sem.bind s f) g = Sem.bind s fun a => Sem.bind (f a) g := by
    induction s with
    | pure a => rfl
    | load m a k ih => simp only [Sem.bind]; congr; funext v; exact ih v
    | store m a v k ih => simp only [Sem.bind]; congr
    | new o k ih => simp only [Sem.bind]; congr; funext v; exact ih v
    | shape r k ih => simp only [Sem.bind]; congr; funext v; exact ih v
    | freeze a n k ih => simp only [Sem.bind]; congr
    | frozen a k ih => simp only [Sem.bind]; congr; funext v; exact ih v
    | getObj r k ih => simp only [Sem.bind]; congr; funext v; exact ih v
    | setObj r o k ih => simp only [Sem.bind]; congr
    | choose q k ih => simp only [Sem.bind]; congr; funext v; exact ih v
    | sys c k ih => simp only [Sem.bind]; congr; funext v; exact ih v
    | program k ih => simp only [Sem.bind]; congr; funext v; exact ih v
    | mark m k ih => simp only [Sem.bind]; congr
    | halt e => rfl
theorem bind_assoc' {α β γ : Type} (s : Sem α) (f : α → Sem β) (g : β → Sem γ) : Sem.bind (Sem.bind s f) g = Sem.bind s fun a => Sem.bind (f a) g := awp_zero.bind_assoc' s f g
theorem awp_size {β : Type} {t : TypeId} {zv : Value} {s b : Nat} (h : TyIs P t zv s b) {f : Nat → Sem β} {Q : β → AH → Prop} : awp P ro (Sem.bind (sizeOf t) f) Q σ ↔ awp P ro (f s) Q σ := by
  obtain ⟨i, h1, _, h3, _⟩ := h
  unfold sizeOf
  show awp P ro (Sem.bind (Sem.bind (typeInfo t) _) f) Q σ ↔ _
  rw [bind_assoc', awp_typeInfo h1, ← h3]; rfl
theorem aread_size {β : Type} {t : TypeId} {zv : Value} {s b : Nat} (h : TyIs P t zv s b) {f : Nat → Sem β} {τ : AH} : aread P ro (Sem.bind (sizeOf t) f) τ = aread P ro (f s) τ := by
  obtain ⟨i, h1, _, h3, _⟩ := h
  unfold sizeOf
  show aread P ro (Sem.bind (Sem.bind (typeInfo t) _) f) τ = _
  rw [bind_assoc', typeInfo_bind _ _ h1, ← h3]; rfl
theorem aread_zero {β : Type} {t : TypeId} {zv : Value} {s b : Nat} (h : TyIs P t zv s b) {f : Value → Sem β} {τ : AH} : aread P ro (Sem.bind (zeroValue t) f) τ = aread P ro (f zv) τ := by
  obtain ⟨i, h1, h2, _, _⟩ := h
  unfold zeroValue
  show aread P ro (Sem.bind (Sem.bind (typeInfo t) _) f) τ = _
  rw [bind_assoc', typeInfo_bind _ _ h1, h2]; rfl
def isAggD : TypeDesc → Bool
  | .struct _ => true
  | .array _ _ => true
  | _ => false
theorem awp_isAgg {β : Type} {t : TypeId} {d : TypeDesc} (h : P.underlying t = some d) {f : Bool → Sem β} {Q : β → AH → Prop} : awp P ro (Sem.bind (isAgg t) f) Q σ ↔ awp P ro (f (isAggD d)) Q σ := by
  unfold isAgg
  show awp P ro (Sem.bind (Sem.bind (underlying t) _) f) Q σ ↔ _
  rw [bind_assoc', awp_underlying h]; cases d <;> rfl
theorem aread_isAgg {β : Type} {t : TypeId} {d : TypeDesc} (h : P.underlying t = some d) {f : Bool → Sem β} {τ : AH} : aread P ro (Sem.bind (isAgg t) f) τ = aread P ro (f (isAggD d)) τ := by
  unfold isAgg
  show aread P ro (Sem.bind (Sem.bind (underlying t) _) f) τ = _
  rw [bind_assoc', underlying_bind _ _ h]; cases d <;> rfl

/-! ### 13. Addresses -/
@[simp] theorem add_zero (a : Addr) : a.add 0 = a := rfl
@[simp] theorem add_add (b i n : Nat) : (⟨b, i, none⟩ : Addr).add n = ⟨b, i + n, none⟩ := by
  unfold Addr.add; by_cases h : n = 0 <;> simp [h]
theorem V_nil {a : Addr} (ho : o.op = .nilCheck x) (hx : evalF fr x = some (.pointer (some a))) : PureEv P ro o fr (.pointer (some a)) := by
  intro ρ hρ; unfold execOp; rw [ho]; simp only [hρ _ _ hx]; rfl
theorem V_fld {s : TypeId} {f : Nat} {fs : Array Field} {fd : Field} {a : Addr} {zv : Value} {n b : Nat} (ho : o.op = .fieldAddr s x f) (hs : P.underlying s = some (.struct fs)) (hf : fs[f]? = some fd) (hz : TyIs P fd.type zv n b) (hn : n ≠ 0)
    (hx : evalF fr x = some (.pointer (some a))) : PureEv P ro o fr (.pointer (some (a.add fd.offset))) := by
  refine V_sem (s := Instr.fieldAt s (.pointer (some a)) f) (fun ρ hρ => ?_) ?_
  · unfold execOp; rw [ho]; simp only [hρ _ _ hx]
  · unfold Instr.fieldAt
    show aread P ro (Sem.bind (underlying s) _) _ = _
    rw [underlying_bind _ _ hs]; dsimp only; rw [hf]; dsimp only [Instr.sureAddr]
    show aread P ro (Sem.bind (fieldPlace a fd) _) _ = _
    unfold fieldPlace
    show aread P ro (Sem.bind (Sem.bind (sizeOf fd.type) _) _) _ = _
    rw [bind_assoc', aread_size hz, if_neg hn]; rfl
theorem V_ixA {t e : TypeId} {a : Addr} {n c : Nat} {k : IntKind} {i : Int} {zv : Value} {s b : Nat} (ho : o.op = .indexAddr t x y) (ht : P.underlying t = some (.slice e)) (hz : TyIs P e zv s b)
    (hx : evalF fr x = some (.slice (some a) n c)) (hy : evalF fr y = some (.int k i)) (h0 : 0 ≤ i) (h1 : i < n) : PureEv P ro o fr (.pointer (some (a.add (i.toNat * s)))) := by
  refine V_sem (s := Instr.indexAt t (.slice (some a) n c) (.int k i)) (fun ρ hρ => ?_) ?_
  · unfold execOp; rw [ho]; simp only [hρ _ _ hx, hρ _ _ hy]
  · unfold Instr.indexAt
    show aread P ro (Sem.bind (underlying t) _) _ = _
    rw [underlying_bind _ _ ht]
    simp only [bind_def, pure_def, bind_pure']
    rw [underlying_bind _ _ ht, if_pos ⟨h0, h1⟩, aread_size hz]; rfl
/-! ### 14. Loads and stores -/
theorem awp_ld {t : TypeId} {d : TypeDesc} {a : Addr} (ht : P.underlying t = some d) (hd : isAggD d = false) {Q : Value → AH → Prop} : awp P ro (loadVar t a) Q σ ↔ ∃ v, acell ro σ a = some v ∧ Q v σ := by
  unfold loadVar
  show awp P ro (Sem.bind (isAgg t) _) Q σ ↔ _
  rw [awp_isAgg ht, hd]; rfl
theorem X_ld {K : Fr → AH → Prop} {t : TypeId} {d : TypeDesc} {a : Addr} (ho : o.op = .load t x) (ht : P.underlying t = some d) (hd : isAggD d = false) (hx : evalF fr x = some (.pointer (some a))) (hc : acell ro σ a = some v) (h : K (putF o.dst v fr) σ) : AExec P B ro o K fr σ := by
  refine X_sem (s := loadVar t a) (fun ρ hρ => ?_) ((awp_ld ht hd).2 ⟨v, hc, h⟩)
  unfold execOp; rw [ho]; simp only [hρ _ _ hx]; rfl
theorem V_ld {t : TypeId} {d : TypeDesc} {a : Addr} (ho : o.op = .load t x) (ht : P.underlying t = some d) (hd : isAggD d = false) (hx : evalF fr x = some (.pointer (some a))) (hc : acell ro (fun _ => none) a = some v) : PureEv P ro o fr v := by
  refine V_sem (s := loadVar t a) (fun ρ hρ => ?_) ?_
  · unfold execOp; rw [ho]; simp only [hρ _ _ hx]; rfl
  · unfold loadVar
    show aread P ro (Sem.bind (isAgg t) _) _ = _
    rw [aread_isAgg ht, hd]
    show aread P ro (Sem.load .plain a .pure) _ = _
    simp only [aread, hc]
/-- The cells from a place on hold these values. -/
def cellsAt (ro σ : AH) (a : Addr) : Nat → List Value → Prop
  | _, [] => True
  | i, v :: r => acell ro σ (a.add i) = some v ∧ cellsAt ro σ a (i + 1) r
theorem awp_loadCells {a : Addr} {Q : Array Value → AH → Prop} : ∀ (vs : List Value) (i : Nat) (acc : Array Value), cellsAt ro σ a i vs → Q (acc ++ vs.toArray) σ → awp P ro (loadCellsFrom a i vs.length acc) Q σ := by
  intro vs
  induction vs with
  | nil => intro i acc _ h; show Q acc σ; simpa using h
  | cons v r ih =>
    intro i acc hc h
    obtain ⟨h1, h2⟩ := hc
    show awp P ro (Sem.bind (load (a.add i)) _) Q σ
    refine ⟨v, h1, ?_⟩
    exact ih (i + 1) (acc.push v) h2 (by simpa using h)
theorem aread_loadCells {a : Addr} : ∀ (vs : List Value) (i : Nat) (acc : Array Value), cellsAt ro σ a i vs → aread P ro (loadCellsFrom a i vs.length acc) σ = some (acc ++ vs.toArray) := by
  intro vs
  induction vs with
  | nil => intro i acc _; show some acc = _; simp
  | cons v r ih =>
    intro i acc hc
    obtain ⟨h1, h2⟩ := hc
    show aread P ro (Sem.load .plain (a.add i) _) σ = _
    simp only [aread, h1]
    refine (ih (i + 1) (acc.push v) h2).trans ?_
    simp
theorem X_lda {K : Fr → AH → Prop} {t : TypeId} {d : TypeDesc} {a : Addr} {vs : List Value} {zv : Value} {b : Nat} (ho : o.op = .load t x) (ht : P.underlying t = some d) (hd : isAggD d = true) (hz : TyIs P t zv vs.length b) (hx : evalF fr x = some (.pointer (some a)))
    (hc : cellsAt ro σ a 0 vs) (h : K (putF o.dst (.agg vs.toArray) fr) σ) : AExec P B ro o K fr σ := by
  refine X_sem (s := loadVar t a) (fun ρ hρ => ?_) ?_
  · unfold execOp; rw [ho]; simp only [hρ _ _ hx]; rfl
  · unfold loadVar
    show awp P ro (Sem.bind (isAgg t) _) _ σ
    rw [awp_isAgg ht, hd]
    show awp P ro (Sem.bind (sizeOf t) _) _ σ
    rw [awp_size hz]
    show awp P ro (Sem.bind (loadCellsFrom a 0 vs.length #[]) _) _ σ
    refine (awp_bind _ _).2 (awp_loadCells vs 0 #[] hc ?_)
    show K (putF o.dst (.agg (#[] ++ vs.toArray)) fr) σ
    simpa using h
theorem V_lda {t : TypeId} {d : TypeDesc} {a : Addr} {vs : List Value} {zv : Value} {b : Nat} (ho : o.op = .load t x) (ht : P.underlying t = some d) (hd : isAggD d = true) (hz : TyIs P t zv vs.length b) (hx : evalF fr x = some (.pointer (some a)))
    (hc : cellsAt ro (fun _ => none) a 0 vs) : PureEv P ro o fr (.agg vs.toArray) := by
  refine V_sem (s := loadVar t a) (fun ρ hρ => ?_) ?_
  · unfold execOp; rw [ho]; simp only [hρ _ _ hx]; rfl
  · unfold loadVar
    show aread P ro (Sem.bind (isAgg t) _) _ = _
    rw [aread_isAgg ht, hd]
    show aread P ro (Sem.bind (sizeOf t) _) _ = _
    rw [aread_size hz]
    have := aread_loadCells (P := P) vs 0 #[] hc
    show aread P ro (Sem.bind (loadCellsFrom a 0 vs.length #[]) fun cs => Sem.pure (Value.agg cs)) _ = _
    generalize loadCellsFrom a 0 vs.length #[] = s at this
    have gen : ∀ (s : Sem (Array Value)) {w : Array Value}, aread P ro s (fun _ => none) = some w → aread P ro (Sem.bind s fun cs => Sem.pure (Value.agg cs)) (fun _ => none) = some (.agg w) := by
      intro s
      induction s with
      | pure a => intro w h; cases h; rfl
      | load m a k ih =>
        intro w h
        simp only [aread] at h
        simp only [Sem.bind, aread]
        split at h
        · exact ih _ h
        · cases h
      | program k ih => intro w h; exact ih _ h
      | mark m k ih => intro w h; exact ih h
      | _ => intro w h; cases h
    have := gen s this
    simpa using this

def st1 (σ : AH) (a : Addr) (v : Value) (K : AH → Prop) : Prop := a.spot = none ∧ ∃ c e fz, σ a.block = some (.cells c e fz) ∧ a.off < c.size ∧ ¬ (fz.1 ≤ a.off ∧ a.off < fz.2) ∧ K (upd σ a.block (.cells (c.setIfInBounds a.off v) e fz))
def stN (a : Addr) (K : AH → Prop) : List Value → Nat → AH → Prop
  | [], _, σ => K σ
  | v :: r, i, σ => storable v = true ∧ st1 σ (a.add i) v (stN a K r (i + 1))
theorem awp_storeCells {a : Addr} {Q : Unit → AH → Prop} : ∀ (vs : List Value) (i : Nat) (σ : AH), stN a (Q ()) vs i σ → awp P ro (storeCells a vs i) Q σ := by
  intro vs
  induction vs with
  | nil => intro i σ h; exact h
  | cons v r ih =>
    intro i σ h
    obtain ⟨h0, h1, c, e, fz, h2, h3, h4, h5⟩ := h
    unfold storeCells
    exact ⟨h0, h1, c, e, fz, h2, h3, h4, ih (i + 1) _ h5⟩
theorem X_st {K : Fr → AH → Prop} {t : TypeId} {a : Addr} {vs : List Value} {zv : Value} {n b : Nat} (ho : o.op = .store t x y) (hz : TyIs P t zv n b) (hx : evalF fr x = some (.pointer (some a))) (hy : evalF fr y = some v) (hv : v.cells.toList = vs) (hn : vs.length = n)
    (h : stN a (fun σ => K (putF o.dst undef fr) σ) vs 0 σ) : AExec P B ro o K fr σ := by
  refine X_semU (s := storeVar t a v) (fun ρ hρ => ?_) ?_
  · unfold execOp; rw [ho]; simp only [hρ _ _ hx, hρ _ _ hy]; rfl
  · unfold storeVar
    show awp P ro (Sem.bind (sizeOf t) _) _ σ
    rw [awp_size hz, if_neg (by subst hv; subst hn; simp)]
    rw [hv]
    exact awp_storeCells vs 0 σ h

/-! ### 15. New memory -/
theorem X_new {K : Fr → AH → Prop} {ob : Obj} {mk : Nat → Value} (he : NewEv P ro o fr ob mk) (h : ∀ b, ro b = none → σ b = none → K (putF o.dst (mk b) fr) (upd σ b ob)) : AExec P B ro o K fr σ := by
  intro ρ hρ
  obtain ⟨k, k1, k2⟩ := he ρ hρ
  exact (awp_of_newOf _ k1).2 fun b hb hs => (awp_of_aread _ (k2 b)).2 (h b hb hs)
def newV (P : Program) : Sem Value → Option (Obj × (Nat → Sem Value))
  | .new o k => some (o, k)
  | .program k => newV P (k P)
  | .mark _ k => newV P k
  | _ => none
theorem newOf_sem {s : Sem Value} {ob : Obj} {mk : Nat → Value} (h : ∀ ρ, Agrees ρ fr → execOp ρ o = (do pure (.value (← s)))) (hs : ∃ k, newV P s = some (ob, k) ∧ ∀ b, k b = Sem.pure (mk b)) : NewEv P ro o fr ob mk := by
  intro ρ hρ
  rw [h ρ hρ]
  obtain ⟨k, h1, h2⟩ := hs
  exact ⟨fun b => (k b).bind fun v => Sem.pure (.value v), go s h1, fun b => by dsimp only; rw [h2]; rfl⟩
where
  go (s : Sem Value) {ob : Obj} {k : Nat → Sem Value} (h : newV P s = some (ob, k)) : newOf P (s.bind fun v => Sem.pure (.value v)) = some (ob, fun b => (k b).bind fun v => Sem.pure (.value v)) := by
    induction s with
    | new o k' ih => simp only [newV, Option.some.injEq, Prod.mk.injEq] at h; obtain ⟨rfl, rfl⟩ := h; rfl
    | program k' ih => exact ih _ h
    | mark m k' ih => exact ih h
    | _ => cases h
theorem newV_zero {t : TypeId} {zv : Value} {s b : Nat} (h : TyIs P t zv s b) {f : Value → Sem Value} : newV P (Sem.bind (zeroValue t) f) = newV P (f zv) := by
  obtain ⟨i, h1, h2, _, _⟩ := h
  unfold zeroValue typeInfo
  simp only [bind_def, program_bind, bind_assoc']
  show newV P (Sem.bind (match P.info? t with | some i => pure i | none => stuck "no such type") _) = _
  rw [h1]; simp only [pure_def, bind_pure']; rw [h2]; rfl
theorem newV_under {t : TypeId} {d : TypeDesc} (h : P.underlying t = some d) {f : TypeDesc → Sem Value} : newV P (Sem.bind (underlying t) f) = newV P (f d) := by
  unfold underlying
  simp only [bind_def, program_bind]
  show newV P (Sem.bind (match P.underlying t with | some d => pure d | none => stuck "no such type") f) = _
  rw [h]; rfl
theorem newV_info {t : TypeId} {d : TypeInfo} (h : P.info? t = some d) {f : TypeInfo → Sem Value} : newV P (Sem.bind (typeInfo t) f) = newV P (f d) := by
  unfold typeInfo
  simp only [bind_def, program_bind]
  show newV P (Sem.bind (match P.info? t with | some d => pure d | none => stuck "no such type") f) = _
  rw [h]; rfl
theorem newV_size {t : TypeId} {zv : Value} {s b : Nat} (h : TyIs P t zv s b) {f : Nat → Sem Value} : newV P (Sem.bind (sizeOf t) f) = newV P (f s) := by
  obtain ⟨i, h1, _, h3, _⟩ := h
  unfold sizeOf
  show newV P (Sem.bind (Sem.bind (typeInfo t) _) f) = _
  rw [bind_assoc', newV_info h1, ← h3]; rfl
theorem A_alloc {e : TypeId} {zv : Value} {n b : Nat} (ho : o.op = .alloc e) (hz : TyIs P e zv n b) : NewEv P ro o fr (.cells zv.cells e) (fun b => .pointer (some ⟨b, 0, none⟩)) := by
  refine newOf_sem (s := Instr.alloc e true (.tuple #[])) (fun ρ hρ => ?_) ⟨fun b => Sem.pure (.pointer (some ⟨b, 0, none⟩)), ?_, fun b => ?_⟩
  · unfold execOp; rw [ho]
  · unfold Instr.alloc
    show newV P (Sem.bind (zeroValue e) _) = _
    rw [newV_zero hz]; rfl
  · rfl
theorem A_box {e : TypeId} {u : Value} (ho : o.op = .box e x) (hx : evalF fr x = some u) : NewEv P ro o fr (.cells u.cells e) (fun b => .pointer (some ⟨b, 0, none⟩)) := by
  refine newOf_sem (s := Instr.box e u) (fun ρ hρ => ?_) ⟨fun b => Sem.pure (.pointer (some ⟨b, 0, none⟩)), ?_, fun b => ?_⟩
  · unfold execOp; rw [ho]; simp only [hρ _ _ hx]
  · rfl
  · rfl
theorem A_map0 {t : TypeId} (ho : o.op = .makeMap t none) : NewEv P ro o fr (.map #[] 0) (fun b => .map (some b)) := by
  refine newOf_sem (s := Instr.makeMap t none) (fun ρ hρ => ?_) ⟨fun b => Sem.pure (.map (some b)), ?_, fun b => ?_⟩
  · unfold execOp; rw [ho]; rfl
  · rfl
  · rfl
def zeros (zv : Value) (n : Nat) : Array Value := ((List.range n).map (zv.cells[· % zv.cells.size]!)).toArray
theorem zeros_eq (zv : Value) (n : Nat) : (Array.range n).map (zv.cells[· % zv.cells.size]!) = zeros zv n := by
  apply Array.toList_inj.1
  simp [zeros]
theorem w64_eq {n : Int} (h0 : -9223372036854775808 ≤ n) (h1 : n < 9223372036854775808) : IntKind.i64.wrap n = n := by
  rw [IntKind.wrap_i64]; omega
/-! ### 16. Calls -/
def evalAll (fr : Fr) : List Operand → Option (List Value)
  | [] => some []
  | x :: r => match evalF fr x, evalAll fr r with
    | some v, some vs => some (v :: vs)
    | _, _ => none
theorem evalAll_map {ρ : Operand → Value} (hρ : Agrees ρ fr) : ∀ (l : List Operand) {vs : List Value}, evalAll fr l = some vs → l.map ρ = vs := by
  intro l
  induction l with
  | nil => intro vs h; cases h; rfl
  | cons x r ih =>
    intro vs h
    unfold evalAll at h
    split at h
    · rename_i v vs' h1 h2
      cases h
      rw [List.map_cons, hρ _ _ h1, ih h2]
    · cases h
theorem callFunc_enter {f : FuncId} {fn : Func} {args : Array Value} {Q : Next → AH → Prop} (hf : P.funcs[f]? = some fn) (hn : (fn.name == "runtime.NumGoroutine") = false) (hb : fn.body.isNone = false) (h : Q (.enter f args) σ) : awp P ro (callFunc f args) Q σ := by
  unfold callFunc
  show awp P ro (Sem.bind program _) Q σ
  rw [program_bind]
  show awp P ro (match P.funcs[f]? with | none => _ | some fn => _) Q σ
  rw [hf]; dsimp only
  rw [hn, hb]
  exact h
theorem X_call {K : Fr → AH → Prop} {f : FuncId} {fn : Func} {as : Array Operand} {ts : Array TypeId} {vs : List Value} (ho : o.op = .call { callee := .value (.func f), args := as, argTypes := ts }) (hf : P.funcs[f]? = some fn) (hn : (fn.name == "runtime.NumGoroutine") = false) (hb : fn.body.isNone = false)
    (ha : evalAll fr as.toList = some vs) (h : ACalls P B ro f vs.toArray σ fun v σ => K (putF o.dst v fr) σ) : AExec P B ro o K fr σ := by
  intro ρ hρ
  have hm := evalAll_map hρ _ ha
  have hfun : ρ (.func f) = .func (.func f) #[] #[] := hρ _ _ rfl
  have e : execOp ρ o = callFunc f vs.toArray := by
    unfold execOp; rw [ho]
    simp only [resolve, hfun, Deferred.ofValue, pure_def, bind_def, bind_pure', invoke]
    congr 1
    have : as.map ρ = vs.toArray := Array.toList_inj.1 (by rw [Array.toList_map, hm])
    rw [this]; simp
  rw [e]
  exact callFunc_enter hf hn hb h
theorem X_callv {K : Fr → AH → Prop} {f : FuncId} {fn : Func} {as : Array Operand} {ts : Array TypeId} {vs : List Value} {first cap : Array Value} (ho : o.op = .call { callee := .value x, args := as, argTypes := ts }) (hx : evalF fr x = some (.func (.func f) first cap)) (hf : P.funcs[f]? = some fn) (hn : (fn.name == "runtime.NumGoroutine") = false) (hb : fn.body.isNone = false)
    (ha : evalAll fr as.toList = some vs) (h : ACalls P B ro f (first ++ vs.toArray ++ cap) σ fun v σ => K (putF o.dst v fr) σ) : AExec P B ro o K fr σ := by
  intro ρ hρ
  have hm := evalAll_map hρ _ ha
  have e : execOp ρ o = callFunc f (first ++ vs.toArray ++ cap) := by
    unfold execOp; rw [ho]
    simp only [resolve, hρ _ _ hx, Deferred.ofValue, pure_def, bind_def, bind_pure', invoke]
    congr 1
    have : as.map ρ = vs.toArray := Array.toList_inj.1 (by rw [Array.toList_map, hm])
    rw [this]
  rw [e]
  exact callFunc_enter hf hn hb h
theorem X_bi {K : Fr → AH → Prop} {b : Builtin} {as : Array Operand} {ts : Array TypeId} {vs : List Value} {s : Sem Value} (ho : o.op = .call { callee := .builtin b, args := as, argTypes := ts }) (ha : evalAll fr as.toList = some vs) (hb : ∀ cs, builtin b ts o.type cs vs.toArray = (do pure (.value (← s))))
    (h : awp P ro s (fun v σ => K (putF o.dst v fr) σ) σ) : AExec P B ro o K fr σ := by
  refine X_sem (s := s) (fun ρ hρ => ?_) h
  have hm := evalAll_map hρ _ ha
  have : as.map ρ = vs.toArray := Array.toList_inj.1 (by rw [Array.toList_map, hm])
  unfold execOp; rw [ho]
  simp only [resolve, pure_def, bind_def, bind_pure', invoke, this, hb]
end
end Go.Proofs.YthfpmipeejjogaaGreatDoor.SL
