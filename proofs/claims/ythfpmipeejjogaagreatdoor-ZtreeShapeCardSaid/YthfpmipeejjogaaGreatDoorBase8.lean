/- The base, eighth part: more operations; words for the printed texts. Generic over any program. -/
import Derived.Test.YthfpmipeejjogaaGreatDoorBase7
namespace Go.Proofs.YthfpmipeejjogaaGreatDoor.SL
open Go
section
variable {P : Program} {B : World} {ro : AH} {N : Nat} {o : Oper} {fr : Fr} {σ : AH} {x y z : Operand} {v : Value}

/-! ### 17. Slicing -/
def optI (fr : Fr) : Option Operand → Option Int → Prop
  | none, none => True
  | some x, some i => ∃ k, evalF fr x = some (.int k i)
  | _, _ => False
theorem bound_aread {k : IntKind} {i : Int} {y : Nat} {c : BoundsCode} {β : Type} {f : Nat → Sem β} {τ : AH} (h0 : 0 ≤ i) (h1 : i ≤ y) : aread P ro (Sem.bind (Instr.sliceBound (.int k i) y c) f) τ = aread P ro (f i.toNat) τ := by
  unfold Instr.sliceBound
  show aread P ro (Sem.bind (if 0 ≤ i ∧ i ≤ y then pure i.toNat else _) f) τ = _
  rw [if_pos ⟨h0, h1⟩]; rfl
/-- where a cut begins and ends -/
def cutLo (lo : Option Int) : Nat := match lo with | some i => i.toNat | none => 0
def cutHi (hi : Option Int) (len : Nat) : Nat := match hi with | some i => i.toNat | none => len
def cutOk (lo hi : Option Int) (len cap : Nat) : Prop := (match hi with | some i => 0 ≤ i ∧ i ≤ cap | none => True) ∧ (match lo with | some i => 0 ≤ i ∧ i ≤ (cutHi hi len : Int) | none => True)
theorem optI_agrees {ρ : Operand → Value} (hρ : Agrees ρ fr) {a : Option Operand} {i : Option Int} (h : optI fr a i) : (a = none ∧ i = none) ∨ ∃ k j, i = some j ∧ a.map ρ = some (.int k j) := by
  cases a with
  | none => cases i with
    | none => exact .inl ⟨rfl, rfl⟩
    | some j => exact h.elim
  | some x => cases i with
    | none => exact h.elim
    | some j => obtain ⟨k, hk⟩ := h; exact .inr ⟨k, j, rfl, by simp [hρ _ _ hk]⟩
theorem bounds_aread {β : Type} {lo hi : Option Int} {a b : Option Operand} {ρ : Operand → Value} (ha : (a = none ∧ lo = none) ∨ ∃ k j, lo = some j ∧ a.map ρ = some (.int k j)) (hb : (b = none ∧ hi = none) ∨ ∃ k j, hi = some j ∧ b.map ρ = some (.int k j)) {len cap : Nat} {isS : Bool}
    (h : cutOk lo hi len cap) {f : Nat × Nat × Nat → Sem β} {τ : AH} : aread P ro (Sem.bind (Instr.sliceBounds isS len cap (a.map ρ) (b.map ρ) none) f) τ = aread P ro (f (cutLo lo, cutHi hi len, cap)) τ := by
  obtain ⟨h1, h2⟩ := h
  unfold Instr.sliceBounds
  simp only [bind_def, pure_def, bind_pure', bind_assoc']
  rcases hb with ⟨rfl, rfl⟩ | ⟨k, j, rfl, hb⟩
  · simp only [Option.map_none, bind_pure']
    rcases ha with ⟨rfl, rfl⟩ | ⟨k, j, rfl, ha⟩
    · rfl
    · rw [ha]; dsimp only at h2 ⊢
      simp only [bind_assoc']
      rw [bound_aread h2.1 (by simpa [cutHi] using h2.2)]; rfl
  · rw [hb]; dsimp only at h1 ⊢
    simp only [bind_assoc']
    rw [bound_aread h1.1 h1.2]
    rcases ha with ⟨rfl, rfl⟩ | ⟨k, j, rfl, ha⟩
    · rfl
    · rw [ha]; dsimp only at h2 ⊢
      simp only [bind_assoc']
      rw [bound_aread h2.1 (by simpa [cutHi] using h2.2)]; rfl
theorem V_slS {t : TypeId} {a b : Option Operand} {lo hi : Option Int} {s : ByteArray} (ho : o.op = .slice t x a b none) (ht : P.underlying t = some .string) (hx : evalF fr x = some (.string s)) (ha : optI fr a lo) (hb : optI fr b hi) (h : cutOk lo hi s.size s.size) :
    PureEv P ro o fr (.string (s.extract (cutLo lo) (cutHi hi s.size))) := by
  intro ρ hρ
  have e : execOp ρ o = (do pure (.value (← Instr.sliceAt t (.string s) (a.map ρ) (b.map ρ) none))) := by unfold execOp; rw [ho]; simp only [hρ _ _ hx]; rfl
  rw [e]
  show aread P ro (Sem.bind (Instr.sliceAt t (.string s) (a.map ρ) (b.map ρ) none) _) _ = _
  unfold Instr.sliceAt
  simp only [bind_def, bind_assoc']
  rw [underlying_bind _ _ ht]; dsimp only
  unfold Instr.slice
  simp only [bind_def, bind_assoc']
  rw [underlying_bind _ _ ht]; dsimp only
  simp only [Option.isSome_none, Bool.false_eq_true, if_false, bind_assoc', pure_def, bind_pure']
  rw [bounds_aread (optI_agrees hρ ha) (optI_agrees hρ hb) h]; rfl
def cutA (a : Option Addr) (lo cap s : Nat) : Option Addr := if cap = lo then a else a.map (·.add (lo * s))
theorem V_slL {t e : TypeId} {a b : Option Operand} {lo hi : Option Int} {ad : Option Addr} {n c : Nat} {zv : Value} {s bt : Nat} (ho : o.op = .slice t x a b none) (ht : P.underlying t = some (.slice e)) (hz : TyIs P e zv s bt) (hx : evalF fr x = some (.slice ad n c)) (ha : optI fr a lo) (hb : optI fr b hi) (h : cutOk lo hi n c) :
    PureEv P ro o fr (.slice (cutA ad (cutLo lo) c s) (cutHi hi n - cutLo lo) (c - cutLo lo)) := by
  intro ρ hρ
  have e' : execOp ρ o = (do pure (.value (← Instr.sliceAt t (.slice ad n c) (a.map ρ) (b.map ρ) none))) := by unfold execOp; rw [ho]; simp only [hρ _ _ hx]; rfl
  rw [e']
  show aread P ro (Sem.bind (Instr.sliceAt t (.slice ad n c) (a.map ρ) (b.map ρ) none) _) _ = _
  unfold Instr.sliceAt
  simp only [bind_def, bind_assoc']
  rw [underlying_bind _ _ ht]; dsimp only
  unfold Instr.slice
  simp only [bind_def, bind_assoc']
  rw [underlying_bind _ _ ht]; dsimp only
  simp only [bind_assoc', pure_def, bind_pure']
  rw [bounds_aread (optI_agrees hρ ha) (optI_agrees hρ hb) h]
  dsimp only
  rw [aread_size hz]; rfl
theorem optI_none : optI fr none none := trivial
theorem optI_some {k : IntKind} {i : Int} (h : evalF fr x = some (.int k i)) : optI fr (some x) (some i) := ⟨k, h⟩

/-! ### 18. Parts of structs by value; building -/
def placesOk (P : Program) : List Field → List (Nat × Nat) → Prop
  | [], [] => True
  | f :: r, p :: q => (p.1 = f.offset ∧ ∃ zv b, TyIs P f.type zv p.2 b) ∧ placesOk P r q
  | _, _ => False
theorem places_aread {β : Type} {fs : Array Field} {pl : List (Nat × Nat)} (h : placesOk P fs.toList pl) {f : Array (Nat × Nat) → Sem β} {τ : AH} : aread P ro (Sem.bind (fs.mapM fun fd => do pure (fd.offset, ← sizeOf fd.type)) f) τ = aread P ro (f pl.toArray) τ := by
  rw [Array.mapM_eq_mapM_toList]
  show aread P ro (Sem.bind (List.toArray <$> _) f) τ = _
  have gen : ∀ (l : List Field) (pl : List (Nat × Nat)) {γ : Type} (g : List (Nat × Nat) → Sem γ), placesOk P l pl → aread P ro (Sem.bind (l.mapM fun fd => do pure (fd.offset, ← sizeOf fd.type)) g) τ = aread P ro (g pl) τ := by
    intro l
    induction l with
    | nil =>
      intro pl γ g h
      cases pl with
      | nil => rfl
      | cons p q => exact h.elim
    | cons fd r ih =>
      intro pl γ g h
      cases pl with
      | nil => exact h.elim
      | cons p q =>
        obtain ⟨⟨h1, zv, b, h2⟩, h3⟩ := h
        rw [List.mapM_cons]
        show aread P ro (Sem.bind (Sem.bind (Sem.bind (sizeOf fd.type) _) _) g) τ = _
        rw [bind_assoc', bind_assoc', aread_size h2]
        simp only [pure_def, bind_pure', bind_assoc', bind_def]
        show aread P ro (Sem.bind (r.mapM fun fd => do pure (fd.offset, ← sizeOf fd.type)) _) τ = _
        rw [ih q _ h3]
        have : (fd.offset, p.2) = p := by rw [← h1]
        simp only [this]
  have map_bind : ∀ (s : Sem (List (Nat × Nat))), Sem.bind (List.toArray <$> s) f = Sem.bind s fun l => f l.toArray := by
    intro s
    show Sem.bind (Sem.bind s _) f = _
    rw [bind_assoc']; rfl
  rw [map_bind, gen _ _ _ h]
def evalParts (fr : Fr) : List (Nat × Operand) → Option (List (Nat × Value))
  | [] => some []
  | (i, x) :: r => match evalF fr x, evalParts fr r with
    | some v, some vs => some ((i, v) :: vs)
    | _, _ => none
theorem evalParts_map {ρ : Operand → Value} (hρ : Agrees ρ fr) {ps : Array (Nat × Operand)} {vs : List (Nat × Value)} (h : evalParts fr ps.toList = some vs) : (ps.map fun (i, x) => (i, ρ x)).toList = vs := by
  have gen : ∀ (l : List (Nat × Operand)) {vs : List (Nat × Value)}, evalParts fr l = some vs → l.map (fun (i, x) => (i, ρ x)) = vs := by
    intro l
    induction l with
    | nil => intro vs h; cases h; rfl
    | cons p r ih =>
      intro vs h
      obtain ⟨i, x⟩ := p
      unfold evalParts at h
      split at h
      · rename_i v vs' h1 h2
        cases h
        rw [List.map_cons, ih h2]
        simp only [hρ _ _ h1]
      · cases h
  rw [Array.toList_map]; exact gen _ h
theorem V_bld {t : TypeId} {fs : Array Field} {pl : List (Nat × Nat)} {zv : Value} {n b : Nat} {parts : Array (Nat × Operand)} {vs : List (Nat × Value)} {cs : Array Value} (ho : o.op = .build t parts) (ht : P.underlying t = some (.struct fs)) (hz : TyIs P t zv n b) (hp : placesOk P fs.toList pl)
    (hv' : evalParts fr parts.toList = some vs) (hf : Instr.fill (fun i => pl.toArray[i]?) zv.cells vs = some cs) : PureEv P ro o fr (.agg cs) := by
  have hv : ∀ ρ, Agrees ρ fr → (parts.map fun (i, x) => (i, ρ x)).toList = vs := fun ρ hρ => evalParts_map hρ hv'
  intro ρ hρ
  have e : execOp ρ o = (do pure (.value (← Instr.build t (parts.map fun (i, x) => (i, ρ x))))) := by unfold execOp; rw [ho]
  rw [e]
  show aread P ro (Sem.bind (Instr.build t _) _) _ = _
  unfold Instr.build
  simp only [bind_def, bind_assoc']
  rw [aread_zero hz, underlying_bind _ _ ht]
  dsimp only
  simp only [bind_assoc']
  refine (places_aread hp).trans ?_
  rw [hv ρ hρ]
  simp only [hf]; rfl
theorem A_bsl {t e : TypeId} {len : Nat} {zv : Value} {s b : Nat} {parts : Array (Nat × Operand)} {vs : List (Nat × Value)} {cs : Array Value} (ho : o.op = .buildSlice t len parts) (ht : P.underlying t = some (.slice e)) (hs : TyIs P e zv s b) (hlen : len * s ≤ 16777216)
    (hv' : evalParts fr parts.toList = some vs) (hf : Instr.fill (fun i => some (i * s, s)) (zeros zv (len * s)) vs = some cs) : NewEv P ro o fr (.cells cs e) (fun b => .slice (some ⟨b, 0, none⟩) len len) := by
  have hv : ∀ ρ, Agrees ρ fr → (parts.map fun (i, x) => (i, ρ x)).toList = vs := fun ρ hρ => evalParts_map hρ hv'
  intro ρ hρ
  have e' : execOp ρ o = (do pure (.value (← Instr.buildSlice t len (parts.map fun (i, x) => (i, ρ x))))) := by unfold execOp; rw [ho]
  rw [e']
  have hn : newV P (Instr.buildSlice t len (parts.map fun (i, x) => (i, ρ x))) = some (.cells cs e, fun b => Sem.pure (.slice (some ⟨b, 0, none⟩) len len)) := by
    unfold Instr.buildSlice
    simp only [bind_def]
    rw [newV_under ht]
    dsimp only
    try simp only [bind_def]
    rw [newV_size hs]
    rw [if_neg (by omega)]
    by_cases hc : len * s = 0
    · rw [if_pos hc]
      try simp only [pure_def, bind_pure']
      rw [hv ρ hρ]
      have : Instr.fill (fun i => some (i * s, s)) ((Array.range (len * s)).map fun i => (#[] : Array Value)[i % (#[] : Array Value).size]!) vs = some cs := by
        rw [← hf]; congr 1
        simp [zeros, hc]
      simp only [this]; rfl
    · rw [if_neg hc]
      simp only [pure_def, bind_pure']
      rw [newV_zero hs]
      try simp only [bind_pure']
      rw [hv ρ hρ]
      have : Instr.fill (fun i => some (i * s, s)) ((Array.range (len * s)).map fun i => zv.cells[i % zv.cells.size]!) vs = some cs := by rw [zeros_eq]; exact hf
      simp only [this]; rfl
  exact ⟨_, newOf_sem.go _ hn, fun b => rfl⟩

/-! ### 19. Interfaces, functions, equality with nil -/
theorem V_mkf {fn : Fn} {first cap : Array Operand} {fs cs : List Value} (ho : o.op = .makeFunc fn first cap) (hf' : evalAll fr first.toList = some fs) (hc' : evalAll fr cap.toList = some cs) : PureEv P ro o fr (.func fn fs.toArray cs.toArray) := by
  intro ρ hρ
  have hf : first.map ρ = fs.toArray := Array.toList_inj.1 (by rw [Array.toList_map, evalAll_map hρ _ hf'])
  have hc : cap.map ρ = cs.toArray := Array.toList_inj.1 (by rw [Array.toList_map, evalAll_map hρ _ hc'])
  unfold execOp; rw [ho]; simp only [hf, hc]; rfl
theorem equal_unfold (t : TypeId) (a b : Value) : Op.equal t a b = Op.equalIn (9999 + 1) t a b := rfl
theorem binEq {t u : TypeId} {a b : Value} (ho : o.op = .binOp .eql t x y u) (hx : evalF fr x = some a) (hy : evalF fr y = some b) {r : Bool} (hg : eqGuard .eql t x y a b = pure ()) (hb : Go.binOp .eql t a b = (do pure (.bool (← Op.equal t a b))))
    (hr : ∀ τ, aread P ro (Op.equalIn (9999 + 1) t a b) τ = some r) : PureEv P ro o fr (.bool r) := by
  refine V_sem (s := do eqGuard .eql t x y a b; Go.binOp .eql t a b) (fun ρ hρ => ?_) ?_
  · unfold execOp; rw [ho]; simp only [hρ _ _ hx, hρ _ _ hy]
  · rw [hg, hb, equal_unfold]
    have := hr (fun _ => none)
    generalize Op.equalIn (9999 + 1) t a b = s at this
    show aread P ro (Sem.bind s fun b => Sem.pure (Value.bool b)) _ = _
    exact gen s this
where
  gen (s : Sem Bool) {w : Bool} (h : aread P ro s (fun _ => none) = some w) : aread P ro (Sem.bind s fun b => Sem.pure (Value.bool b)) (fun _ => none) = some (.bool w) := by
    induction s with
    | pure a => cases h; rfl
    | load m a k ih =>
      simp only [aread] at h
      simp only [Sem.bind, aread]
      split at h
      · exact ih _ h
      · cases h
    | program k ih => exact ih _ h
    | mark m k ih => exact ih h
    | _ => cases h
theorem binNe {t u : TypeId} {a b : Value} (ho : o.op = .binOp .neq t x y u) (hx : evalF fr x = some a) (hy : evalF fr y = some b) {r : Bool} (hg : eqGuard .neq t x y a b = pure ()) (hb : Go.binOp .neq t a b = (do pure (.bool (!(← Op.equal t a b)))))
    (hr : ∀ τ, aread P ro (Op.equalIn (9999 + 1) t a b) τ = some r) : PureEv P ro o fr (.bool (!r)) := by
  refine V_sem (s := do eqGuard .neq t x y a b; Go.binOp .neq t a b) (fun ρ hρ => ?_) ?_
  · unfold execOp; rw [ho]; simp only [hρ _ _ hx, hρ _ _ hy]
  · rw [hg, hb, equal_unfold]
    have := hr (fun _ => none)
    generalize Op.equalIn (9999 + 1) t a b = s at this
    show aread P ro (Sem.bind s fun b => Sem.pure (Value.bool !b)) _ = _
    exact gen s this
where
  gen (s : Sem Bool) {w : Bool} (h : aread P ro s (fun _ => none) = some w) : aread P ro (Sem.bind s fun b => Sem.pure (Value.bool !b)) (fun _ => none) = some (.bool !w) := by
    induction s with
    | pure a => cases h; rfl
    | load m a k ih =>
      simp only [aread] at h
      simp only [Sem.bind, aread]
      split at h
      · exact ih _ h
      · cases h
    | program k ih => exact ih _ h
    | mark m k ih => exact ih h
    | _ => cases h
theorem eqn_ptr {t e : TypeId} {p : Option Addr} {τ : AH} (ht : P.underlying t = some (.pointer e)) : aread P ro (Op.equalIn (9999 + 1) t (.pointer p) (.pointer none)) τ = some p.isNone := by
  unfold Op.equalIn
  show aread P ro (Sem.bind (underlying t) _) _ = _
  rw [underlying_bind _ _ ht]; cases p <;> rfl
theorem eqn_sl {t e : TypeId} {a : Option Addr} {n c : Nat} {τ : AH} (ht : P.underlying t = some (.slice e)) : aread P ro (Op.equalIn (9999 + 1) t (.slice a n c) (.slice none 0 0)) τ = some a.isNone := by
  unfold Op.equalIn
  show aread P ro (Sem.bind (underlying t) _) _ = _
  rw [underlying_bind _ _ ht]; cases a <;> rfl
theorem V_eqP {t u e : TypeId} {p : Option Addr} (ho : o.op = .binOp .eql t x y u) (ht : P.underlying t = some (.pointer e)) (hx : evalF fr x = some (.pointer p)) (hy : evalF fr y = some (.pointer none)) : PureEv P ro o fr (.bool p.isNone) := binEq ho hx hy rfl (by cases p <;> rfl) fun _ => eqn_ptr ht
theorem V_neP {t u e : TypeId} {p : Option Addr} (ho : o.op = .binOp .neq t x y u) (ht : P.underlying t = some (.pointer e)) (hx : evalF fr x = some (.pointer p)) (hy : evalF fr y = some (.pointer none)) : PureEv P ro o fr (.bool (!p.isNone)) := binNe ho hx hy rfl (by cases p <;> rfl) fun _ => eqn_ptr ht
theorem V_eqL {t u e : TypeId} {a : Option Addr} {n c : Nat} (ho : o.op = .binOp .eql t x y u) (ht : P.underlying t = some (.slice e)) (hx : evalF fr x = some (.slice a n c)) (hy : evalF fr y = some (.slice none 0 0)) : PureEv P ro o fr (.bool a.isNone) := binEq ho hx hy rfl rfl fun _ => eqn_sl ht
theorem V_biP {b : Builtin} {as : Array Operand} {ts : Array TypeId} {vs : List Value} {s : Sem Value} (ho : o.op = .call { callee := .builtin b, args := as, argTypes := ts }) (ha : evalAll fr as.toList = some vs) (hb : ∀ cs, builtin b ts o.type cs vs.toArray = (do pure (.value (← s))))
    (hs : aread P ro s (fun _ => none) = some v) : PureEv P ro o fr v := by
  refine V_sem (s := s) (fun ρ hρ => ?_) hs
  have hm := evalAll_map hρ _ ha
  have : as.map ρ = vs.toArray := Array.toList_inj.1 (by rw [Array.toList_map, hm])
  unfold execOp; rw [ho]
  simp only [resolve, pure_def, bind_def, bind_pure', invoke, this, hb]
theorem V_max2 {as : Array Operand} {ts : Array TypeId} {k : IntKind} {a b : Int} (ho : o.op = .call { callee := .builtin .max, args := as, argTypes := ts }) (ha : evalAll fr as.toList = some [.int k a, .int k b]) : PureEv P ro o fr (.int k (if a < b then b else a)) :=
  V_biP ho ha (fun _ => rfl) rfl

/-! ### 20. Words of the printed texts -/
def nw (ro σ : AH) (ob : Obj) (K : Nat → AH → Prop) : Prop := ∀ b, ro b = none → σ b = none → K b (upd σ b ob)
theorem stN_mono {a : Addr} {K K' : AH → Prop} : ∀ {vs : List Value} {i : Nat} {σ : AH}, stN a K vs i σ → (∀ σ, K σ → K' σ) → stN a K' vs i σ := by
  intro vs
  induction vs with
  | nil => intro i σ h hk; exact hk _ h
  | cons v r ih =>
    intro i σ h hk
    obtain ⟨h0, h1, c, e, fz, h2, h3, h4, h5⟩ := h
    exact ⟨h0, h1, c, e, fz, h2, h3, h4, ih h5 hk⟩
theorem Lnil {ops : Array Oper} {K : Fr → AH → Prop} (h : K fr σ) : AOpsL P B ro N ops (wk K) [] fr σ := ⟨fr, FrLe.refl _, h⟩
theorem thenN {next : Fr → AH → Prop} {Q : Exit → Fr → AH → Prop} (h : next fr σ) : thenQ next Q .normal fr σ := h
theorem thenE {next : Fr → AH → Prop} {Q : Exit → Fr → AH → Prop} {id : Nat} (h : Q (.exit id) fr σ) : thenQ next Q (.exit id) fr σ := h
theorem thenR {next : Fr → AH → Prop} {Q : Exit → Fr → AH → Prop} (h : Q .ret fr σ) : thenQ next Q .ret fr σ := h
theorem blockN {Q : Exit → Fr → AH → Prop} {id : Nat} (h : Q .normal fr σ) : blockQ id Q .normal fr σ := h
theorem blockE {Q : Exit → Fr → AH → Prop} {id : Nat} (h : Q .normal fr σ) : blockQ id Q (.exit id) fr σ := by
  show (if id = id then Q .normal fr σ else Q (.exit id) fr σ); rw [if_pos rfl]; exact h
theorem blockR {Q : Exit → Fr → AH → Prop} {id : Nat} (h : Q .ret fr σ) : blockQ id Q .ret fr σ := h
theorem Lyb {ops : Array Oper} {K : Fr → AH → Prop} {rest : List Oper} {j t : Nat} {want b : Bool} (hg : o.guard = some (j, want)) (hd : dstOk N o.dst = true) (ht : (ops[j]?).bind (·.dst) = some t) (hl : look fr t = some (.bool b)) (e : b = want)
    (h : AExec P B ro o (AOpsL P B ro N ops K rest) fr σ) : AOpsL P B ro N ops K (o :: rest) fr σ := Ly hg hd ht (by rw [hl, e]) h
/-- what follows a test of two parts, proved once -/
theorem LsplitJ {ops : Array Oper} {K : Fr → AH → Prop} {l : List Oper} (m : Nat) (b : Bool) {p : Prop} [Decidable p] {X Y : Prop} (hi : b = true ↔ p) (h : if p then X else Y) (J : Fr → AH → Prop)
    (hy : X → b = true → (∀ fr σ, J fr σ → AOpsL P B ro N ops K (l.drop m) fr σ) → AOpsL P B ro N ops K l fr σ) (hn : Y → b = false → (∀ fr σ, J fr σ → AOpsL P B ro N ops K (l.drop m) fr σ) → AOpsL P B ro N ops K l fr σ)
    (hk : ∀ fr σ, J fr σ → AOpsL P B ro N ops K (l.drop m) fr σ) : AOpsL P B ro N ops K l fr σ := by
  cases e : b with
  | true => rw [if_pos (hi.1 e)] at h; exact hy h e hk
  | false => rw [if_neg (fun q => by rw [hi.2 q] at e; cases e)] at h; exact hn h e hk
/-- the same where the parts only compute -/
theorem Lsplit {ops : Array Oper} {K : Fr → AH → Prop} {l : List Oper} (m : Nat) (b : Bool) (F : Fr)
    (hy : b = true → (∀ fr, FrLe F fr → AOpsL P B ro N ops K (l.drop m) fr σ) → AOpsL P B ro N ops K l fr σ) (hn : b = false → (∀ fr, FrLe F fr → AOpsL P B ro N ops K (l.drop m) fr σ) → AOpsL P B ro N ops K l fr σ)
    (hk : ∀ fr, FrLe F fr → AOpsL P B ro N ops K (l.drop m) fr σ) : AOpsL P B ro N ops K l fr σ := by
  cases e : b with
  | true => exact hy e hk
  | false => exact hn e hk
theorem Lweak {ops : Array Oper} {K : Fr → AH → Prop} (hK : ∀ {fr fr' : Fr} {σ : AH}, FrLe fr fr' → K fr σ → K fr' σ) : ∀ {l : List Oper} {fr fr' : Fr} {σ : AH}, FrLe fr fr' → AOpsL P B ro N ops K l fr σ → AOpsL P B ro N ops K l fr' σ := by
  intro l
  induction l with
  | nil => intro fr fr' σ hl h; exact hK hl h
  | cons o r ih =>
    intro fr fr' σ hl h
    have put : ∀ (d : Option Tmp) (v : Value), FrLe (putF d v fr) (putF d v fr') := by
      intro d v
      cases d with
      | none => exact hl
      | some d =>
        intro i u hi
        rw [look_put] at hi ⊢
        by_cases e : i = d
        · rw [if_pos e] at hi ⊢; exact hi
        · rw [if_neg e] at hi ⊢; exact hl i u hi
    have ag : ∀ {ρ}, Agrees ρ fr' → Agrees ρ fr := by
      intro ρ hρ x v hx
      refine hρ x v ?_
      cases x <;> first | exact hl _ _ hx | exact hx
    have ex : AExec P B ro o (AOpsL P B ro N ops K r) fr σ → AExec P B ro o (AOpsL P B ro N ops K r) fr' σ := by
      intro hx ρ hρ
      refine awp_mono _ (hx ρ (ag hρ)) ?_
      intro n σ' hn
      cases n <;> first | exact ih (put _ _) hn | exact ACalls.mono hn fun v σ h => ih (put _ _) h | exact hn
    obtain ⟨h0, h⟩ := h
    refine ⟨h0, ?_⟩
    split at h
    · exact ex h
    · obtain ⟨t, v, h1, h2, h3⟩ := h
      exact ⟨t, v, h1, hl _ _ h2, h3.imp (fun ⟨a, b⟩ => ⟨a, ex b⟩) (fun ⟨a, b⟩ => ⟨a, ih (put _ _) b⟩)⟩
theorem bnot_iff {b : Bool} {p : Prop} (h : b = true ↔ p) : (!b) = true ↔ ¬ p := by
  cases b <;> simp at h ⊢ <;> simp [h]
theorem band_iff {a b : Bool} {p q : Prop} (h : a = true ↔ p) (k : b = true ↔ q) : (a && b) = true ↔ (p ∧ q) := by
  rw [Bool.and_eq_true, h, k]
theorem bor_iff {a b : Bool} {p q : Prop} (h : a = true ↔ p) (k : b = true ↔ q) : (a || b) = true ↔ (p ∨ q) := by
  rw [Bool.or_eq_true, h, k]
theorem isNone_iff {α : Type} {a : Option α} : a.isNone = true ↔ a = none := by cases a <;> simp
end
end Go.Proofs.YthfpmipeejjogaaGreatDoor.SL
