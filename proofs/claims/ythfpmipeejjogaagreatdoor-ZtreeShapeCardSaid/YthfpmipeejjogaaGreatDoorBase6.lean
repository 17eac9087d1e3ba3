/- The base, sixth part: the operations one by one. Generic over any program. -/
import Derived.Test.YthfpmipeejjogaaGreatDoorBase5
import Derived.Laws.Strings
namespace Go.Proofs.YthfpmipeejjogaaGreatDoor.SL
open Go
section
variable {P : Program} {B : World} {ro : AH} {N : Nat} {o : Oper} {fr : Fr} {σ : AH} {x y z : Operand} {v : Value}

theorem bind_pure' {α β : Type} (a : α) (f : α → Sem β) : (Sem.pure a : Sem α).bind f = f a := rfl
theorem pure_def {α : Type} (a : α) : (pure a : Sem α) = Sem.pure a := rfl
theorem bind_def {α β : Type} (s : Sem α) (f : α → Sem β) : (s >>= f) = s.bind f := rfl
theorem program_bind {β : Type} (f : Program → Sem β) : Sem.bind program f = Sem.program fun p => f p := rfl
theorem underlying_bind {β : Type} (t : TypeId) (f : TypeDesc → Sem β) {d : TypeDesc} (h : P.underlying t = some d) {τ : AH} : aread P ro (Sem.bind (underlying t) f) τ = aread P ro (f d) τ := by
  unfold underlying
  simp only [bind_def, program_bind]
  show aread P ro (Sem.bind (match P.underlying t with | some d => pure d | none => stuck "no such type") f) τ = _
  rw [h]; rfl

/-- A step whose meaning, at these operands, is to give a value that another meaning gives. -/
theorem V_sem {s : Sem Value} {u : Value} (h : ∀ ρ, Agrees ρ fr → execOp ρ o = (do pure (.value (← s)))) (hs : aread P ro s (fun _ => none) = some u) : PureEv P ro o fr u := by
  intro ρ hρ
  rw [h ρ hρ]
  exact aread_bind s hs
where
  aread_bind (s : Sem Value) {u : Value} (hs : aread P ro s (fun _ => none) = some u) : aread P ro (s.bind fun v => Sem.pure (Next.value v)) (fun _ => none) = some (.value u) := by
    induction s with
    | pure a => cases hs; rfl
    | load m a k ih =>
      simp only [aread] at hs
      simp only [Sem.bind, aread]
      split at hs
      · rename_i v hv; exact ih _ hs
      · cases hs
    | program k ih => exact ih _ hs
    | mark m k ih => exact ih hs
    | _ => cases hs
theorem X_sem {K : Fr → AH → Prop} {s : Sem Value} (h : ∀ ρ, Agrees ρ fr → execOp ρ o = (do pure (.value (← s)))) (hs : awp P ro s (fun v σ => K (putF o.dst v fr) σ) σ) : AExec P B ro o K fr σ := by
  intro ρ hρ
  rw [h ρ hρ, awp_bind]
  exact awp_mono _ hs fun _ _ h => h
theorem X_semU {K : Fr → AH → Prop} {s : Sem Unit} (h : ∀ ρ, Agrees ρ fr → execOp ρ o = (do s; pure .skip)) (hs : awp P ro s (fun _ σ => K (putF o.dst undef fr) σ) σ) : AExec P B ro o K fr σ := by
  intro ρ hρ
  rw [h ρ hρ, awp_bind]
  exact awp_mono _ hs fun _ _ h => h

theorem V_move (ho : o.op = .move x) (hx : evalF fr x = some v) : PureEv P ro o fr v := by
  intro ρ hρ; unfold execOp; rw [ho]; simp only [hρ _ _ hx]; rfl
theorem V_asg (ho : o.op = .assign x) (hx : evalF fr x = some v) : PureEv P ro o fr v := by
  intro ρ hρ; unfold execOp; rw [ho]; simp only [hρ _ _ hx]; rfl
theorem V_ext {vs : Array Value} {i : Nat} (ho : o.op = .extract x i) (hx : evalF fr x = some (.tuple vs)) (hv : vs[i]? = some v) : PureEv P ro o fr v := by
  refine V_sem (s := Instr.extract (.tuple vs) i) (fun ρ hρ => ?_) (by unfold Instr.extract; simp only [hv]; rfl)
  unfold execOp; rw [ho]; simp only [hρ _ _ hx]

/-! numbers -/
theorem binI {op : BinOp} {t u : TypeId} {k : IntKind} {a b : Int} (ho : o.op = .binOp op t x y u) (hx : evalF fr x = some (.int k a)) (hy : evalF fr y = some (.int k b)) (hs : aread P ro (Go.binOp op t (.int k a) (.int k b)) (fun _ => none) = some v) : PureEv P ro o fr v := by
  refine V_sem (s := do eqGuard op t x y (.int k a) (.int k b); Go.binOp op t (.int k a) (.int k b)) (fun ρ hρ => ?_) ?_
  · unfold execOp; rw [ho]; simp only [hρ _ _ hx, hρ _ _ hy]
  · unfold eqGuard; cases op <;> exact hs
theorem V_lss {t u : TypeId} {k : IntKind} {a b : Int} (ho : o.op = .binOp .lss t x y u) (hx : evalF fr x = some (.int k a)) (hy : evalF fr y = some (.int k b)) : PureEv P ro o fr (.bool (decide (a < b))) := binI ho hx hy (by simp [Go.binOp, Op.intCmp, pure_def, aread])
theorem V_leq {t u : TypeId} {k : IntKind} {a b : Int} (ho : o.op = .binOp .leq t x y u) (hx : evalF fr x = some (.int k a)) (hy : evalF fr y = some (.int k b)) : PureEv P ro o fr (.bool (decide (a ≤ b))) := binI ho hx hy (by simp [Go.binOp, Op.intCmp, pure_def, aread])
theorem V_gtr {t u : TypeId} {k : IntKind} {a b : Int} (ho : o.op = .binOp .gtr t x y u) (hx : evalF fr x = some (.int k a)) (hy : evalF fr y = some (.int k b)) : PureEv P ro o fr (.bool (decide (b < a))) := binI ho hx hy (by simp [Go.binOp, Op.intCmp, pure_def, aread])
theorem V_geq {t u : TypeId} {k : IntKind} {a b : Int} (ho : o.op = .binOp .geq t x y u) (hx : evalF fr x = some (.int k a)) (hy : evalF fr y = some (.int k b)) : PureEv P ro o fr (.bool (decide (b ≤ a))) := binI ho hx hy (by simp [Go.binOp, Op.intCmp, pure_def, aread])
theorem V_eql {t u : TypeId} {k : IntKind} {a b : Int} (ho : o.op = .binOp .eql t x y u) (hx : evalF fr x = some (.int k a)) (hy : evalF fr y = some (.int k b)) : PureEv P ro o fr (.bool (decide (a = b))) := binI ho hx hy (by simp [Go.binOp, Op.intCmp, pure_def, aread]; rfl)
theorem V_neq {t u : TypeId} {k : IntKind} {a b : Int} (ho : o.op = .binOp .neq t x y u) (hx : evalF fr x = some (.int k a)) (hy : evalF fr y = some (.int k b)) : PureEv P ro o fr (.bool (!decide (a = b))) := binI ho hx hy (by simp [Go.binOp, Op.intCmp, pure_def, aread]; rfl)
theorem V_add {t u : TypeId} {k : IntKind} {a b : Int} (ho : o.op = .binOp .add t x y u) (hx : evalF fr x = some (.int k a)) (hy : evalF fr y = some (.int k b)) : PureEv P ro o fr (.int k (k.wrap (a + b))) := binI ho hx hy (by simp [Go.binOp, Op.intArith, pure_def, aread])
theorem V_sub {t u : TypeId} {k : IntKind} {a b : Int} (ho : o.op = .binOp .sub t x y u) (hx : evalF fr x = some (.int k a)) (hy : evalF fr y = some (.int k b)) : PureEv P ro o fr (.int k (k.wrap (a - b))) := binI ho hx hy (by simp [Go.binOp, Op.intArith, pure_def, aread])
theorem unS {op : UnOp} {t : TypeId} (ho : o.op = .unOp op t x) (hx : evalF fr x = some v) {u : Value} (hs : aread P ro (Op.unary op v) (fun _ => none) = some u) : PureEv P ro o fr u := by
  refine V_sem (s := Op.unary op v) (fun ρ hρ => ?_) hs
  unfold execOp; rw [ho]; simp only [hρ _ _ hx]
theorem V_not {t : TypeId} {b : Bool} (ho : o.op = .unOp .not t x) (hx : evalF fr x = some (.bool b)) : PureEv P ro o fr (.bool (!b)) := unS ho hx rfl
/-! choices -/
theorem V_pickT {u : Value} (ho : o.op = .pick x y z) (hx : evalF fr x = some (.bool true)) (hy : evalF fr y = some u) : PureEv P ro o fr u := by
  intro ρ hρ; unfold execOp; rw [ho]; simp only [hρ _ _ hx, hρ _ _ hy]; rfl
theorem V_pickF {u : Value} (ho : o.op = .pick x y z) (hx : evalF fr x = some (.bool false)) (hz : evalF fr z = some u) : PureEv P ro o fr u := by
  intro ρ hρ; unfold execOp; rw [ho]; simp only [hρ _ _ hx, hρ _ _ hz]; rfl

/-! texts -/
theorem toList_inj {a b : ByteArray} (h : a.toList = b.toList) : a = b := by
  rw [ByteArray.toList_eq, ByteArray.toList_eq] at h
  exact ByteArray.ext (Array.toList_inj.1 h)
theorem binSt {op : BinOp} {t u : TypeId} {a b : ByteArray} (ho : o.op = .binOp op t x y u) (hx : evalF fr x = some (.string a)) (hy : evalF fr y = some (.string b)) (hop : op ≠ .shl ∧ op ≠ .shr) (hs : aread P ro (Op.stringOp op a b) (fun _ => none) = some v) : PureEv P ro o fr v := by
  refine V_sem (s := do eqGuard op t x y (.string a) (.string b); Go.binOp op t (.string a) (.string b)) (fun ρ hρ => ?_) ?_
  · unfold execOp; rw [ho]; simp only [hρ _ _ hx, hρ _ _ hy]
  · unfold eqGuard; cases op <;> first | exact hs | exact absurd rfl hop.1 | exact absurd rfl hop.2
theorem eqS {a b : ByteArray} : (a.toList == b.toList) = decide (a = b) := by
  by_cases h : a = b
  · subst h; simp
  · rw [decide_eq_false h]
    cases e : (a.toList == b.toList) with
    | false => rfl
    | true => exact absurd (toList_inj (by simpa using e)) h
theorem V_eqlS {t u : TypeId} {a b : ByteArray} (ho : o.op = .binOp .eql t x y u) (hx : evalF fr x = some (.string a)) (hy : evalF fr y = some (.string b)) : PureEv P ro o fr (.bool (decide (a = b))) := binSt ho hx hy (by simp) (by simp only [Op.stringOp, eqS]; rfl)
theorem V_neqS {t u : TypeId} {a b : ByteArray} (ho : o.op = .binOp .neq t x y u) (hx : evalF fr x = some (.string a)) (hy : evalF fr y = some (.string b)) : PureEv P ro o fr (.bool (!decide (a = b))) := binSt ho hx hy (by simp) (by simp only [Op.stringOp, eqS]; rfl)
theorem V_cat {t u : TypeId} {a b : ByteArray} (ho : o.op = .binOp .add t x y u) (hx : evalF fr x = some (.string a)) (hy : evalF fr y = some (.string b)) (h : a.size + b.size ≤ 9223372036854775807) : PureEv P ro o fr (.string (a ++ b)) :=
  binSt ho hx hy (by simp) (by unfold Op.stringOp; dsimp only; rw [if_neg (by simp only [IntKind.max, IntKind.signed, IntKind.bits, if_true]; omega)]; rfl)
theorem V_lenS {t : TypeId} {ts : Array TypeId} {as : Array Operand} {a : ByteArray} (ho : o.op = .call { callee := .builtin .len, args := as, argTypes := ts }) (ht : ts[0]? = some t) (hu : P.underlying t = some .string) (ha : as = #[x]) (hx : evalF fr x = some (.string a)) : PureEv P ro o fr (.int .i64 a.size) := by
  refine V_sem (s := Builtin.len_ ts o.type #[.string a]) (fun ρ hρ => ?_) ?_
  · unfold execOp; rw [ho]; subst ha; simp [resolve, invoke, builtin, hρ _ _ hx, pure_def, bind_def, bind_pure']
  · unfold Builtin.len_; simp only [ht, bind_def]; rw [show (#[Value.string a] : Array Value)[0]? = some (.string a) from rfl]; dsimp only; rw [underlying_bind _ _ hu]; rfl
theorem V_lenL {t e : TypeId} {ts : Array TypeId} {as : Array Operand} {a : Option Addr} {n c : Nat} (ho : o.op = .call { callee := .builtin .len, args := as, argTypes := ts }) (ht : ts[0]? = some t) (hu : P.underlying t = some (.slice e)) (ha : as = #[x]) (hx : evalF fr x = some (.slice a n c)) : PureEv P ro o fr (.int .i64 n) := by
  refine V_sem (s := Builtin.len_ ts o.type #[.slice a n c]) (fun ρ hρ => ?_) ?_
  · unfold execOp; rw [ho]; subst ha; simp [resolve, invoke, builtin, hρ _ _ hx, pure_def, bind_def, bind_pure']
  · unfold Builtin.len_; simp only [ht, bind_def]; rw [show (#[Value.slice a n c] : Array Value)[0]? = some (.slice a n c) from rfl]; dsimp only; rw [underlying_bind _ _ hu]; rfl
theorem V_idxS {t : TypeId} {a : ByteArray} {k : IntKind} {i : Int} {b : UInt8} (ho : o.op = .index t x y) (hu : P.underlying t = some .string) (hx : evalF fr x = some (.string a)) (hy : evalF fr y = some (.int k i)) (h0 : 0 ≤ i) (hb : a[i.toNat]? = some b) : PureEv P ro o fr (.int .u8 b.toNat) := by
  refine V_sem (s := Instr.index t (.string a) (.int k i)) (fun ρ hρ => ?_) ?_
  · unfold execOp; rw [ho]; simp only [hρ _ _ hx, hρ _ _ hy]
  · unfold Instr.index
    show aread P ro (Sem.bind (underlying t) _) _ = _
    rw [underlying_bind _ _ hu]
    dsimp only
    rw [if_pos h0, hb]; rfl
end
end Go.Proofs.YthfpmipeejjogaaGreatDoor.SL
