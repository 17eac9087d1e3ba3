/- RwA, StS, LdR, HdA, LcA, Shelf, SnA, DkA, MapL -/
import Derived.HandedShaped
import Derived.LaidMore
import Derived.Lay
import Derived.Stop.Joined
import Derived.Shelf.Strings.Builder1
import Derived.Shelf.Strings.Builder2
import Derived.Shelf.Strings.Trim
import Derived.Shelf.Small.Utf8
import Derived.Shelf.Small.Strs
import Derived.Shelf.Strings.BuilderF
import Derived.Shelf.Strconv.Atoi
import Derived.Shelf.Strconv.Itoa0
import Derived.Shelf.Strconv.Itoa1
import Derived.Shelf.LaysM
import Derived.Shelf.Strconv.Itoa2
import Derived.Shelf.Strconv.Itoa3
import Derived.Shelf.Bytes.GrowSliceCatch
import Derived.Shelf.Bytes.GrowSlice
import Derived.Shelf.Strings.Search1
import Derived.Shelf.Strings.Search2
import Derived.Shelf.Strings.Search3
import Derived.Shelf.Strings.Shaped
import Derived.Shelf.Strings.Prefix
import Derived.Shelf.Strings.Runes
import Derived.Shelf.Strings.AsciiSet
import Derived.Shelf.Bits.Mul64
import Derived.Shelf.Strings.Repeat
import Derived.Shelf.Unicode.DecodeSlow
import Derived.Ground.SlgmProg
import Derived.Shelf.SortM.Plain
import Derived.Shelf.SortM.SortNone
import Derived.Shelf.SlIter.Nil
import Derived.Ground.GgzProg
import Derived.Shelf.Strings.SlTrimAscii
import Derived.Lib.AtoiErrMem
import Derived.Test.YtfobjidchipdaaaGreatDoorRows
import Derived.Test.YtfobjidchipdaaaGreatDoorProg
import Derived.Test.YtfobjidchipdaaaGreatDoorXC
/- Rows of the first form, with listed variables, in a world of its right shape; arguments opened: bytes, whole numbers. -/
namespace Go.Proofs.YtfobjidchipdaaaGreatDoor.Zt
open Go Go.Proofs.YtfobjidchipdaaaGreatDoor.SL Go.ChangeShapes Go.WideShapes Go.ChangeAt Go.RowKit
set_option linter.unusedVariables false
set_option linter.unusedSimpArgs false

theorem wrap {H : Type} {enc : TypeId × Value → H} {a : Assume} {C : Checked} {os : Os} {f : FuncId} {fn : Func} {s : ChangeSpec} {conds : List PathCond} {apart fresh handsOn again : Bool} {X : World → Array Value → Prop}
    (hX : ∀ (w w' : World) (args : Array Value), w.heap = w'.heap → X w args → X w' args)
    (own : ownKnob C.prog.godebug = none) (started : os.Started) (noInit : C.prog.inits.idxOf? f = none) (hfn : C.prog.funcs[f]? = some fn)
    (witness : ∃ (w : World) (tape : Tape) (i : Input), w.os = os ∧ (w.forCall tape i).Shaped C.prog ∧ i.vars = [] ∧ Input.okWide C.prog (w.forCall tape i) .any w.heap.size f i ∧
      ((s.pre enc C.prog fn conds apart (w.forCall tape i).memory i.args ∧ X (w.forCall tape i).memory i.args) ∧ sizedMet enc C.prog fn (OpenSpec.ofChange s) apart (w.forCall tape i).memory i.args) ∧ a.holds C.prog (lone (Frame.enter C.prog f i.args .normal) [] (w.forCall tape i)))
    (contract : ∀ (W : World) (base : Nat) (args : Array Value) (ds gs : List (DataW H)) (before : List MemPlace),
      (∀ (j : Nat) t v, fn.params[j]? = some t → args[j]? = some v → Value.okWide C.prog W .any base t v) →
      DataW.Whole enc C.prog fn.params.toList s.vars apart W args.toList ds gs before →
      conds.all (PathCond.test C.prog ⟨fn.params.toList, ds, s.plain.varTypes C.prog, gs⟩) = true →
      (DataW.weightsEach C.prog (fn.params.toList ++ s.plain.varTypes C.prog) (ds ++ gs)).all (· ≤ reachBytes) = true → X W args → W.ShapedOpen C.prog →
      a.holds C.prog (lone (Frame.enter C.prog f args .normal) [] W) →
      Calls C.prog f args W fun e W' => ∃ v, e = .returned v ∧ s.post enc C.prog fn apart fresh handsOn again W args v W') :
    ReturnsInHanded a C os f .any (fun w args => (s.pre enc C.prog fn conds apart w args ∧ X w args) ∧ sizedMet enc C.prog fn (OpenSpec.ofChange s) apart w args) (s.post enc C.prog fn apart fresh handsOn again) := by
  refine returnsInHanded_of_calls own started noInit witness ?_
  intro w tape i _ hsh _ hok hpre hholds
  obtain ⟨_, _, _, fn', hfn', _, _, _, _, hval⟩ := hok
  have e : fn' = fn := Option.some.inj (hfn'.symm.trans hfn)
  subst e
  obtain ⟨⟨⟨ds, gs, before, hw, hc⟩, hx⟩, hz⟩ := hpre
  have hw' := DataW.Whole.of_heap (w' := w.forCall tape i) (by rfl) hw
  refine (contract (w.forCall tape i) w.heap.size i.args ds gs before hval hw' hc (hz.weights hw) (hX _ _ _ (by rfl) hx) hsh hholds).mono fun e W' ⟨v, he, hp⟩ => ?_
  subst he
  exact ChangeSpec.post_blind hp

theorem var_sees {W w : World} (h : ∀ b o, all W b = some o → w.heap[b]? = some o) {n : String} {cs : Array Value} (hv : W.var? Tryz.prog n = some cs) : w.var? Tryz.prog n = some cs := by
  unfold World.var? at hv ⊢
  obtain ⟨g, hg, hx⟩ := Option.bind_eq_some_iff.1 hv
  rw [hg]
  show (match w.heap[g]? with | some (.cells cs _ _) => some cs | _ => none) = _
  cases hh : W.heap[g]? with
  | none => rw [hh] at hx; cases hx
  | some o => rw [h g o hh]; rw [hh] at hx; exact hx
abbrev LAID : List (String × DataW Unit) := Rows.snapKeepsRow.laid
theorem gPow : Tryz.prog.globalNamed "internal/strconv.uint64pow10" = some 4 := by kernel_rfl
theorem eTab : Tryz.prog.underlying 217 = some (.int .u64) := by kernel_rfl
theorem tPow : (Tryz.prog.globals[4]?).map (·.type) = some 245 := by kernel_rfl
set_option maxRecDepth 100000 in
theorem glob_of {W : World} (hL : laidMetH Tryz.prog LAID W) : Pa.Glob (all W) := by
  rw [MakeChecks.laidMetH_plain _ _ _ (by kernel_rfl)] at hL
  obtain ⟨ps, ⟨g0, t0, cs0, f0, p0, q0, hg0, ht0, hv0, hd0, ⟨g1, t1, cs1, f1, p1, q1, hg1, ht1, hv1, hd1, ⟨g2, t2, cs2, f2, p2, q2, hg2, ht2, hv2, hd2, _, _⟩, _⟩, _⟩, _, _⟩ := hL
  have htab : Lib.TabIs Tryz.prog W "internal/strconv.uint64pow10" .u64 Lib.pow10Tab := by
    obtain rfl := Option.some.inj (gPow.symm.trans hg2)
    obtain rfl := Option.some.inj (tPow.symm.trans ht2)
    unfold Lib.TabIs
    have hd2' : DataW.trod _ Tryz.prog W 0 _ false f2 245 cs2.toList = some (Lib.tabData .u64 Lib.pow10Tab, p2) := hd2
    rw [hv2, ← Lib.cells_of_tab Tryz.underlying245 eTab (by kernel_rfl) (by kernel_rfl) hd2']
  exact ⟨fun w hw => var_sees hw htab⟩
theorem own : ownKnob Tryz.prog.godebug = none := by kernel_rfl
theorem laidOut : laidOutB Tryz.prog = true := by kernel_rfl
theorem c5 : Tryz.prog.cellsOf 5 = 1 := by kernel_rfl
theorem c3 : Tryz.prog.cellsOf 3 = 1 := by kernel_rfl
theorem c22 : Tryz.prog.cellsOf 22 = 1 := by kernel_rfl
theorem c23 : Tryz.prog.cellsOf 23 = 1 := by kernel_rfl
theorem b5 : Tryz.prog.bytesOf 5 = 1 := by kernel_rfl
theorem b3 : Tryz.prog.bytesOf 3 = 8 := by kernel_rfl
theorem u5 : Tryz.prog.underlying 5 = some (.int .u8) := by kernel_rfl
theorem u3' : Tryz.prog.underlying 3 = some (.int .i64) := by kernel_rfl
theorem u4' : Tryz.prog.underlying 4 = some .bool := by kernel_rfl
theorem u23 : Tryz.prog.underlying 23 = some (.slice 3) := by kernel_rfl
/-- a slice of elements of one cell -/
theorem cells_of {α : Type} {W : World} {H : Type} {enc : TypeId × Value → H} {t e b : Nat} {f : α → Value} (z : α) (ht : Tryz.prog.underlying t = some (.slice e)) (he : Tryz.prog.cellsOf e = 1) (hb : Tryz.prog.bytesOf e = b) (hf : ∀ u, SL.Arg Tryz.prog W H enc e [u] → ∃ c, u = f c) {a : Option Addr} {len cap : Nat}
    (h : SL.Arg Tryz.prog W H enc t [.slice a len cap]) : ∃ d : List α, d.length * b ≤ 140737488351232 ∧ SL.Read (all W) (fun _ => none) ⟨a, len, cap⟩ (d.map f) ∧ len ≤ cap := by
  rcases h.slice ht with ⟨rfl, rfl, rfl⟩ | ⟨x, rfl, hl, hbb, hel⟩
  · exact ⟨[], by simp, ⟨rfl, fun _ => rfl, fun p h => by cases h⟩, Nat.le_refl _⟩
  · rw [he] at hel
    rw [hb] at hbb
    have key : ∀ j : Nat, ∃ c : α, j < len → W.cell? (x.add j) = some (f c) := fun j => by
      by_cases hj : j < len
      · obtain ⟨cs, h1, h2, h3⟩ := hel j hj
        match cs, h1 with
        | [u], _ =>
          obtain ⟨c, rfl⟩ := hf u h3
          have := h2 0 (by omega)
          rw [Nat.mul_one, add_zero] at this
          exact ⟨c, fun _ => this⟩
      · exact ⟨z, fun h => absurd h hj⟩
    obtain ⟨g, hg⟩ := Classical.axiomOfChoice key
    refine ⟨(List.range len).map g, ?_, ⟨by simp, (fun h => by cases h), fun p hp i v hv => ?_⟩, hl⟩
    · simp [reachBytes] at hbb ⊢
      exact Nat.le_trans (Nat.mul_le_mul_right b hl) hbb
    cases hp
    have hi : i < len := by
      rcases Nat.lt_or_ge i len with h | h
      · exact h
      · rw [List.getElem?_eq_none (by simpa using h)] at hv; cases hv
    rw [List.getElem?_map, List.getElem?_map, List.getElem?_range hi] at hv
    cases hv
    exact all_cell _ (hg i hi)
theorem bytes_of {W : World} {H : Type} {enc : TypeId × Value → H} {a : Option Addr} {len cap : Nat} (h : SL.Arg Tryz.prog W H enc 22 [.slice a len cap]) : ∃ d : Str, d.length ≤ 140737488351232 ∧ SL.Read (all W) (fun _ => none) ⟨a, len, cap⟩ (d.map vU) := by
  obtain ⟨d, h1, h2, _⟩ := cells_of (f := vU) 0 u30 c5 b5 (fun u hu => hu.u8 u5) h
  exact ⟨d, by omega, h2⟩
theorem ints_of {W : World} {H : Type} {enc : TypeId × Value → H} {a : Option Addr} {len cap : Nat} (h : SL.Arg Tryz.prog W H enc 23 [.slice a len cap]) : ∃ d : List Int, d.length ≤ 17592186043904 ∧ SL.Read (all W) (fun _ => none) ⟨a, len, cap⟩ (d.map vI) := by
  obtain ⟨d, h1, h2, _⟩ := cells_of (f := vI) 0 u23 c3 b3 (fun u hu => Arg.i64 u3' hu) h
  exact ⟨d, by omega, h2⟩
theorem sl_of {W : World} {H : Type} {enc : TypeId × Value → H} {t e : TypeId} {v : Value} (ht : Tryz.prog.underlying t = some (.slice e)) (h : SL.Arg Tryz.prog W H enc t [v]) : ∃ a len cap, v = .slice a len cap := by
  obtain ⟨fuel, d, ps, hf, _⟩ := h
  rcases Go.Deep.open_slice ht hf with ⟨e, _⟩ | ⟨x, l, c, _, _, _, _, e, _⟩
  · simp at e; exact ⟨_, _, _, e⟩
  · simp at e; exact ⟨_, _, _, e⟩
end Go.Proofs.YtfobjidchipdaaaGreatDoor.Zt

/- Steps that change blocks of several classes of roles. Generic over any program. -/
namespace Go.Proofs.YtfobjidchipdaaaGreatDoor.SL
open Go
set_option linter.unusedVariables false
variable {P : Program} {B : World} {ro σ σ' : AH} {tag tag' : Nat → Nat}
def StepS (C : List Nat) (ro : AH) (tag : Nat → Nat) (σ : AH) (tag' : Nat → Nat) (σ' : AH) : Prop := ∃ R : List Nat, (∀ x ∈ R, x % 64 ∈ C) ∧ Step R ro tag σ tag' σ'
theorem Step.s {C R : List Nat} (h : Step R ro tag σ tag' σ') (hR : ∀ x ∈ R, x % 64 ∈ C) : StepS C ro tag σ tag' σ' := ⟨R, hR, h⟩
theorem StepC.s {C : List Nat} {c : Nat} (h : StepC c ro tag σ tag' σ') (hc : c ∈ C) : StepS C ro tag σ tag' σ' := by
  obtain ⟨R, h1, h2⟩ := h
  exact ⟨R, fun x hx => by rw [h1 x hx]; exact hc, h2⟩
theorem StepS.sep {C : List Nat} (h : StepS C ro tag σ tag' σ') : Sep ro σ' := by obtain ⟨_, _, h⟩ := h; exact h.sep
theorem StepS.refl {C : List Nat} (h : Sep ro σ) : StepS C ro tag σ tag σ := ⟨[], by simp, Step.refl h⟩
theorem StepS.trans {C : List Nat} {tag'' : Nat → Nat} {σ'' : AH} (h : StepS C ro tag σ tag' σ') (k : StepS C ro tag' σ' tag'' σ'') : StepS C ro tag σ tag'' σ'' := by
  obtain ⟨R, h1, h2⟩ := h
  obtain ⟨R', k1, k2⟩ := k
  refine ⟨R ++ R', fun x hx => ?_, (h2.mono fun r hr => by simp [hr]).trans (k2.mono fun r hr => by simp [hr])⟩
  rcases List.mem_append.1 hx with h | h
  · exact h1 x h
  · exact k1 x h
theorem StepS.mono {C D : List Nat} (h : StepS C ro tag σ tag' σ') (hd : ∀ c ∈ C, c ∈ D) : StepS D ro tag σ tag' σ' := by
  obtain ⟨R, h1, h2⟩ := h
  exact ⟨R, fun x hx => hd _ (h1 x hx), h2⟩
theorem Row.keepS {C : List Nat} {r : Nat} {e : TypeId} {s : Sl} {l : List Value} (h : Row tag σ r e s l) (k : StepS C ro tag σ tag' σ') (hr : r % 64 ∉ C) : Row tag' σ' r e s l := by
  obtain ⟨R, h1, h2⟩ := k
  exact h.keep h2 fun m => hr (h1 _ m)
theorem StepS.back {C : List Nat} {b : Nat} {τ : AH} (h : StepS C (join ro (one σ b)) tag (del σ b) tag' τ) (hs : Sep ro σ) (hd : Disj (one σ b) τ) (hb : ∃ o, σ b = some o) : StepS C ro tag σ (setTag tag' b (tag b)) (join (one σ b) τ) := by
  obtain ⟨R, h1, h2⟩ := h
  exact ⟨R, h1, h2.back hs hd hb⟩
end Go.Proofs.YtfobjidchipdaaaGreatDoor.SL

/- All blocks of some roles are lent. Generic over any program. -/
namespace Go.Proofs.YtfobjidchipdaaaGreatDoor.SL
open Go
set_option linter.unusedVariables false
variable {P : Program} {B : World} {ro σ σ' : AH} {tag tag' : Nat → Nat}
def inR (tag : Nat → Nat) (L : List Nat) (σ : AH) : AH := fun c => if tag c ∈ L then σ c else none
def outR (tag : Nat → Nat) (L : List Nat) (σ : AH) : AH := fun c => if tag c ∈ L then none else σ c
def tagB (tag tag1 : Nat → Nat) (L : List Nat) (σ : AH) : Nat → Nat := fun c => if (inR tag L σ c).isSome then tag c else tag1 c
variable {L : List Nat}
theorem lent_roles (tag : Nat → Nat) (L : List Nat) {K : AH → AH → Prop} (h : K (inR tag L σ) (outR tag L σ)) : lent σ K := by
  refine ⟨_, _, fun c o hc => ?_, ?_, h⟩
  · unfold inR at hc; unfold outR
    split at hc
    · rename_i e; rw [if_pos e]
    · cases hc
  · funext c; unfold join inR outR
    by_cases e : tag c ∈ L
    · simp only [e, if_true]; cases σ c <;> rfl
    · simp [e]
theorem rd_lentR (b : Nat) (hs : Sep ro σ) : rd (join ro (inR tag L σ)) (outR tag L σ) b = rd ro σ b := by
  unfold rd join inR outR
  cases h : ro b with
  | some o => rfl
  | none =>
    simp only
    by_cases e : tag b ∈ L
    · simp only [e, if_true]; cases σ b <;> rfl
    · simp [e]
theorem Sep.lentR (hs : Sep ro σ) : Sep (join ro (inR tag L σ)) (outR tag L σ) := by
  intro c o hc
  unfold outR at hc
  split at hc
  · cases hc
  · rename_i e
    unfold join inR
    rw [hs c o hc]; simp [e]
theorem Row.outR {r : Nat} {e : TypeId} {s : Sl} {l : List Value} (h : Row tag σ r e s l) (hr : r ∉ L) : Row tag (SL.outR tag L σ) r e s l := by
  rcases h with h | ⟨c, cs, ha, ht, hs, hx⟩
  · exact .inl h
  · refine .inr ⟨c, cs, ha, ht, ?_, hx⟩
    unfold SL.outR; rw [if_neg (by rw [ht]; exact hr)]; exact hs
theorem MapIs.outR {r b : Nat} {m : KV} (h : MapIs tag σ r b m) (hr : r ∉ L) : MapIs tag (SL.outR tag L σ) r b m := by
  obtain ⟨es, clock, hb, x⟩ := h.obj
  exact ⟨h.tg, es, clock, by unfold SL.outR; rw [if_neg (by rw [h.tg]; exact hr)]; exact hb, x⟩
theorem acell_lentR {a : Addr} (hs : Sep ro σ) : acell (join ro (inR tag L σ)) (outR tag L σ) a = acell ro σ a := by
  unfold acell; rw [rd_lentR _ hs]
theorem Row.lendR {r : Nat} {e : TypeId} {s : Sl} {l : List Value} {p : Addr} {τ : AH} {i : Nat} {v : Value} (h : Row tag σ r e s l) (hs : Sep ro σ) (hr : r ∈ L) (hp : s.a = some p) (hv : l[i]? = some v) : acell (join ro (inR tag L σ)) τ (p.add i) = some v := by
  rcases h with ⟨e, _⟩ | ⟨c, cs, ha, ht, hb, hln, hc, hle, hg⟩
  · rw [e] at hp; cases hp
  · rw [ha] at hp; cases hp
    have hi : i < l.length := by
      rcases Nat.lt_or_ge i l.length with h | h
      · exact h
      · rw [List.getElem?_eq_none h] at hv; cases hv
    rw [add_add, Nat.zero_add]
    have : join ro (inR tag L σ) c = some (.cells cs e) := by unfold join inR; rw [hs c _ hb]; simp [ht, hr, hb]
    unfold acell rd
    simp only [this, cellOf]
    rw [← hv, ← hg i hi]; rfl
theorem Read.lentR {s : Sl} {l : List Value} (h : Read ro σ s l) (hs : Sep ro σ) : Read (join ro (inR tag L σ)) (SL.outR tag L σ) s l :=
  ⟨h.1, h.2.1, fun p hp i v hv => by rw [acell_lentR hs]; exact h.2.2 p hp i v hv⟩
theorem inR_some {c : Nat} {o : Obj} (h : inR tag L σ c = some o) : tag c ∈ L ∧ σ c = some o := by
  unfold inR at h
  split at h
  · exact ⟨by assumption, h⟩
  · cases h
theorem tagB_out {tag1 : Nat → Nat} {c : Nat} (h : inR tag L σ c = none) : tagB tag tag1 L σ c = tag1 c := by unfold tagB; rw [h]; rfl
theorem tagB_in {tag1 : Nat → Nat} {c : Nat} {o : Obj} (h : inR tag L σ c = some o) : tagB tag tag1 L σ c = tag c := by unfold tagB; rw [h]; rfl
theorem Row.backR {tag1 : Nat → Nat} {τ : AH} {r : Nat} {e : TypeId} {s : Sl} {l : List Value} (h : Row tag1 τ r e s l) (hd : Disj (inR tag L σ) τ) : Row (tagB tag tag1 L σ) (join (inR tag L σ) τ) r e s l := by
  rcases h with h | ⟨c, cs, ha, ht, hs, hx⟩
  · exact .inl h
  · have hn : inR tag L σ c = none := by
      cases e : inR tag L σ c with
      | none => rfl
      | some o => have := hd c o e; rw [hs] at this; cases this
    exact .inr ⟨c, cs, ha, by rw [tagB_out hn]; exact ht, by unfold join; rw [hn]; exact hs, hx⟩
theorem MapIs.backR {tag1 : Nat → Nat} {τ : AH} {r b : Nat} {m : KV} (h : MapIs tag1 τ r b m) (hd : Disj (inR tag L σ) τ) : MapIs (tagB tag tag1 L σ) (join (inR tag L σ) τ) r b m := by
  obtain ⟨es, clock, hb, x⟩ := h.obj
  have hn : inR tag L σ b = none := by
    cases e : inR tag L σ b with
    | none => rfl
    | some o => have := hd b o e; rw [hb] at this; cases this
  exact ⟨by rw [tagB_out hn]; exact h.tg, es, clock, by unfold join; rw [hn]; exact hb, x⟩
theorem Step.backR {tag1 : Nat → Nat} {R : List Nat} {τ : AH} (h : Step R (join ro (inR tag L σ)) tag (outR tag L σ) tag1 τ) (hs : Sep ro σ) (hd : Disj (inR tag L σ) τ) : Step R ro tag σ (tagB tag tag1 L σ) (join (inR tag L σ) τ) := by
  have split' : ∀ c o, σ c = some o → inR tag L σ c = some o ∨ (inR tag L σ c = none ∧ outR tag L σ c = some o) := fun c o hc => by
    unfold inR outR
    by_cases e : tag c ∈ L
    · left; rw [if_pos e]; exact hc
    · right; rw [if_neg e, if_neg e]; exact ⟨rfl, hc⟩
  refine ⟨fun c o hc hn => ?_, fun c o hc => ?_, fun c o hc => ?_⟩
  · rcases split' c o hc with h1 | ⟨h1, h2⟩
    · exact ⟨tagB_in h1, by unfold join; rw [h1]⟩
    · obtain ⟨t1, t2⟩ := h.keep c o h2 hn
      exact ⟨by rw [tagB_out h1]; exact t1, by unfold join; rw [h1]; exact t2⟩
  · rcases split' c o hc with h1 | ⟨h1, h2⟩
    · exact ⟨tagB_in h1, o, by unfold join; rw [h1]⟩
    · obtain ⟨t1, o', t2⟩ := h.old c o h2
      exact ⟨by rw [tagB_out h1]; exact t1, o', by unfold join; rw [h1]; exact t2⟩
  · rcases join_some hc with h1 | ⟨h1, h2⟩
    · exact hs c o (inR_some h1).2
    · exact (join_none (h.sep c o h2)).1
theorem StepS.backR {tag1 : Nat → Nat} {C : List Nat} {τ : AH} (h : StepS C (join ro (inR tag L σ)) tag (outR tag L σ) tag1 τ) (hs : Sep ro σ) (hd : Disj (inR tag L σ) τ) : StepS C ro tag σ (tagB tag tag1 L σ) (join (inR tag L σ) τ) := by
  obtain ⟨R, h1, h2⟩ := h
  exact ⟨R, h1, h2.backR hs hd⟩
end Go.Proofs.YtfobjidchipdaaaGreatDoor.SL

/- Rows in blocks that nobody changes, wherever they begin: read only, or owned. Generic over any program. -/
namespace Go.Proofs.YtfobjidchipdaaaGreatDoor.SL
open Go
set_option linter.unusedVariables false
variable {P : Program} {B : World} {ro σ σ' : AH} {tag tag' : Nat → Nat} {L : List Nat}
/-- the cells of a slice, in an object of one role -/
def Held (tag : Nat → Nat) (σ : AH) (q : Nat) (s : Sl) (l : List Value) : Prop :=
  s.len = l.length ∧ ((s.a = none ∧ l = []) ∨ ∃ p o, s.a = some p ∧ tag p.block = q ∧ σ p.block = some o ∧ ∀ i v, l[i]? = some v → cellOf (p.add i) (some o) = some v)
theorem Held.nil (q : Nat) : Held tag σ q ⟨none, 0, 0⟩ [] := ⟨rfl, .inl ⟨rfl, rfl⟩⟩
theorem add_block (p : Addr) (i : Nat) : (p.add i).block = p.block := by
  cases i with
  | zero => rfl
  | succ i => rfl
theorem Held.keep {R : List Nat} {q : Nat} {s : Sl} {l : List Value} (h : Held tag σ q s l) (k : Step R ro tag σ tag' σ') (hq : q ∉ R) : Held tag' σ' q s l := by
  obtain ⟨h1, h2 | ⟨p, o, h2, h3, h4, h5⟩⟩ := h
  · exact ⟨h1, .inl h2⟩
  · obtain ⟨e1, e2⟩ := k.keep _ _ h4 (by rw [h3]; exact hq)
    exact ⟨h1, .inr ⟨p, o, h2, e1.trans h3, e2, h5⟩⟩
theorem Held.keepS {C : List Nat} {q : Nat} {s : Sl} {l : List Value} (h : Held tag σ q s l) (k : StepS C ro tag σ tag' σ') (hq : q % 64 ∉ C) : Held tag' σ' q s l := by
  obtain ⟨R, h1, h2⟩ := k
  exact h.keep h2 fun m => hq (h1 _ m)
theorem Held.read {q : Nat} {s : Sl} {l : List Value} (h : Held tag σ q s l) (hs : Sep ro σ) : Read ro σ s l := by
  obtain ⟨h1, h2 | ⟨p, o, h2, h3, h4, h5⟩⟩ := h
  · exact ⟨h1, fun _ => h2.2, fun p hp => by rw [h2.1] at hp; cases hp⟩
  · refine ⟨h1, (fun e => by rw [h2] at e; cases e), fun p' hp' i v hv => ?_⟩
    rw [h2] at hp'; cases hp'
    unfold acell rd
    rw [add_block, hs _ _ h4, h4]
    exact h5 i v hv
theorem Row.held {r : Nat} {e : TypeId} {s : Sl} {l : List Value} (h : Row tag σ r e s l) : Held tag σ r s l := by
  rcases h with ⟨rfl, rfl⟩ | ⟨b, cs, ha, ht, hb, hln, hc, hle, hg⟩
  · exact Held.nil r
  · refine ⟨hln, .inr ⟨_, _, ha, ht, hb, fun i v hv => ?_⟩⟩
    have hi : i < l.length := by
      rcases Nat.lt_or_ge i l.length with h | h
      · exact h
      · rw [List.getElem?_eq_none h] at hv; cases hv
    rw [add_add, Nat.zero_add]
    simp only [cellOf]
    rw [← hv, ← hg i hi]; rfl
theorem Held.outR {q : Nat} {s : Sl} {l : List Value} (h : Held tag σ q s l) (hq : q ∉ L) : Held tag (SL.outR tag L σ) q s l := by
  obtain ⟨h1, h2 | ⟨p, o, h2, h3, h4, h5⟩⟩ := h
  · exact ⟨h1, .inl h2⟩
  · exact ⟨h1, .inr ⟨p, o, h2, h3, by unfold SL.outR; rw [if_neg (by rw [h3]; exact hq)]; exact h4, h5⟩⟩
theorem Held.backR {tag1 : Nat → Nat} {τ : AH} {q : Nat} {s : Sl} {l : List Value} (h : Held tag1 τ q s l) (hd : Disj (inR tag L σ) τ) : Held (tagB tag tag1 L σ) (join (inR tag L σ) τ) q s l := by
  obtain ⟨h1, h2 | ⟨p, o, h2, h3, h4, h5⟩⟩ := h
  · exact ⟨h1, .inl h2⟩
  · have hn : inR tag L σ p.block = none := by
      cases e : inR tag L σ p.block with
      | none => rfl
      | some o => have := hd _ o e; rw [h4] at this; cases this
    exact ⟨h1, .inr ⟨p, o, h2, by rw [tagB_out hn]; exact h3, by unfold join; rw [hn]; exact h4, h5⟩⟩
theorem Held.del {q b : Nat} {s : Sl} {l : List Value} (h : Held tag σ q s l) (hb : tag b ≠ q) : Held tag (SL.del σ b) q s l := by
  obtain ⟨h1, h2 | ⟨p, o, h2, h3, h4, h5⟩⟩ := h
  · exact ⟨h1, .inl h2⟩
  · exact ⟨h1, .inr ⟨p, o, h2, h3, by unfold SL.del; rw [if_neg (fun e => hb (by rw [← e]; exact h3))]; exact h4, h5⟩⟩
/-- data: among what is only read, or held in blocks of the role 6 -/
def Data (ro : AH) (tag : Nat → Nat) (σ : AH) (s : Sl) (l : List Value) : Prop := Read ro (fun _ => none) s l ∨ Held tag σ 6 s l
theorem Data.len {s : Sl} {l : List Value} (h : Data ro tag σ s l) : s.len = l.length := by
  rcases h with h | h
  · exact h.1
  · exact h.1
theorem Data.read {s : Sl} {l : List Value} (h : Data ro tag σ s l) (hs : Sep ro σ) : Read ro σ s l := by
  rcases h with h | h
  · exact h.keep
  · exact h.read hs
theorem Data.keep {R : List Nat} {s : Sl} {l : List Value} (h : Data ro tag σ s l) (k : Step R ro tag σ tag' σ') (h6 : 6 ∉ R) : Data ro tag' σ' s l := by
  rcases h with h | h
  · exact .inl h
  · exact .inr (h.keep k h6)
theorem Data.keepS {C : List Nat} {s : Sl} {l : List Value} (h : Data ro tag σ s l) (k : StepS C ro tag σ tag' σ') (h6 : 6 ∉ C) : Data ro tag' σ' s l := by
  rcases h with h | h
  · exact .inl h
  · exact .inr (h.keepS k h6)
theorem read_more {ψ : AH} {s : Sl} {l : List Value} (h : Read ro (fun _ => none) s l) : Read (join ro ψ) (fun _ => none) s l := by
  refine ⟨h.1, h.2.1, fun p hp i v hv => ?_⟩
  have := h.2.2 p hp i v hv
  unfold acell rd at this ⊢
  cases hr : ro (p.add i).block with
  | none => rw [hr] at this; simp [cellOf] at this
  | some o => rw [hr] at this; unfold join; rw [hr]; exact this
theorem Data.outR {s : Sl} {l : List Value} (h : Data ro tag σ s l) (h6 : 6 ∉ L) : Data (join ro (inR tag L σ)) tag (SL.outR tag L σ) s l := by
  rcases h with h | h
  · exact .inl (read_more h)
  · exact .inr (h.outR h6)
theorem Data.del {b : Nat} {s : Sl} {l : List Value} (h : Data ro tag σ s l) (hb : tag b ≠ 6) : Data (join ro (one σ b)) tag (SL.del σ b) s l := by
  rcases h with h | h
  · exact .inl (read_more h)
  · exact .inr (h.del hb)
end Go.Proofs.YtfobjidchipdaaaGreatDoor.SL

/- Texts to bytes; slices.ContainsFunc over bytes; strings.CutPrefix. -/
namespace Go.Proofs.YtfobjidchipdaaaGreatDoor.Zt
open Go Go.Proofs.YtfobjidchipdaaaGreatDoor.SL Go.Proofs.YtfobjidchipdaaaGreatDoor.G Go.Proofs.YtfobjidchipdaaaGreatDoor.Pa
set_option linter.unusedSimpArgs false
set_option linter.unusedVariables false
set_option maxRecDepth 100000
variable {B : World} {ro σ σ' : AH} {tag tag' : Nat → Nat}
theorem awp_s2b {l : Str} {K : Value → AH → Prop} (hs : SL.Sep ro σ) (hK : ∀ s tag' σ', (∀ R, Step R ro tag σ tag' σ') → Held tag' σ' 6 s (l.map vU) → K (Sl.v s) σ') : awp Tryz.prog ro (convert 9 22 (.string (S l))) K σ := by
  unfold convert
  simp only [bind_def]
  rw [awp_underlying u9, awp_underlying u30]
  simp only
  rw [awp_underlying u5'']
  simp only
  unfold Conv.stringToBytes
  simp only [bind_def]
  refine awp_choose rfl fun n => ?_
  have hsz : (S l).size = l.length := by rw [← L_len, L_S]
  have hcut : (S l).size ≤ (Question.appendCap (S l).size 0 5).cut n := by simp only [Question.cut]; omega
  generalize (Question.appendCap (S l).size 0 5).cut n = N at hcut
  show ∀ b, ro b = none → σ b = none → awp Tryz.prog ro (Sem.bind (markStringish ⟨b, 0, none⟩) fun _ => Sem.pure (Value.slice (some ⟨b, 0, none⟩) (S l).size N)) K (upd σ b _)
  intro b hro hb
  unfold markStringish
  show ∃ o, rd ro (upd σ b _) b = some o ∧ _
  refine ⟨_, by unfold rd; rw [hro]; exact upd_same _ _ _, ?_⟩
  show (1 : Nat) ≠ 0 ∧ ∃ o, upd σ b _ b = some o ∧ _
  refine ⟨by decide, _, upd_same _ _ _, ?_⟩
  rw [upd_upd]
  refine hK ⟨some ⟨b, 0, none⟩, (S l).size, N⟩ (setTag tag b 6) _ (fun _ => Step.fresh hs hro hb) ⟨by simp [hsz], .inr ⟨_, _, rfl, by simp [setTag], upd_same _ _ _, fun i v hv => ?_⟩⟩
  have hi : i < l.length := by
    rcases Nat.lt_or_ge i l.length with h | h
    · exact h
    · rw [List.getElem?_eq_none (by simpa using h)] at hv; cases hv
  rw [add_add, Nat.zero_add]
  rw [← hv]
  show (Array.map (fun b => Value.int IntKind.u8 (b.toNat : Int)) (S l).data ++ Array.replicate (N - (S l).size) (Value.int IntKind.u8 0))[i]? = _
  rw [Array.getElem?_append_left (by simp [S]; omega)]
  simp [S, vU]

theorem containsFunc_ok {s : Sl} {l : Str} {f : UInt8 → Bool} {fv : Value} {Q : Bool → AH → Prop} (h : SL.Read ro σ s (l.map vU)) (hl : l.length < 4611686018427387904)
    (hcall : ∀ c ∈ l, ∀ K : Value → AH → Prop, K (.bool (f c)) σ → callV Tryz.prog B ro fv [vU c] σ K) (hQ : Q (l.any f) σ) : c_slices_ContainsFunc_byte_byte B ro s fv σ Q := by
  refine slices_ContainsFunc_byte_byte_ok fun _ => ?_
  unfold f_slices_ContainsFunc_byte_byte
  refine slices_IndexFunc_byte_byte_ok fun _ => ?_
  unfold f_slices_IndexFunc_byte_byte
  have hln : s.len = l.length := by rw [h.1, List.length_map]
  suffices ∀ (m j : Nat), j + m = l.length → (l.take j).any f = false → lfpD (l2_slices_IndexFunc_byte_byte B ro s fv fun x σ => Q (decide (0 ≤ x)) σ) (j : Int) σ from this _ 0 (Nat.zero_add _) rfl
  intro m
  induction m with
  | zero =>
    intro j hj hn
    refine lfpD.intro ?_
    unfold l2_slices_IndexFunc_byte_byte
    rw [if_neg (by omega)]
    unfold j1_slices_IndexFunc_byte_byte
    rw [List.take_of_length_le (by omega)] at hn
    rw [hn] at hQ
    exact hQ
  | succ m ih =>
    intro j hj hn
    have hjl : j < l.length := by omega
    refine lfpD.intro ?_
    unfold l2_slices_IndexFunc_byte_byte
    rw [if_pos (by omega)]
    obtain ⟨p, hp⟩ : ∃ p, s.a = some p := by
      cases ha : s.a with
      | none => have := h.2.1 ha; simp at this; subst this; simp at hjl
      | some p => exact ⟨p, rfl⟩
    refine ⟨p, hp, by omega, by omega, (l[j].toNat : Int), ?_, ?_⟩
    · rw [Int.toNat_natCast, Nat.mul_one]
      refine h.2.2 p hp j _ ?_
      rw [List.getElem?_map, List.getElem?_eq_getElem hjl]; rfl
    · refine hcall _ (List.getElem_mem hjl) _ ⟨f l[j], rfl, ?_⟩
      by_cases c : f l[j] = true
      · rw [if_pos c]
        have : l.any f = true := List.any_eq_true.2 ⟨_, List.getElem_mem hjl, c⟩
        rw [this] at hQ
        show Q (decide ((0 : Int) ≤ (j : Int))) σ
        rw [show decide ((0 : Int) ≤ (j : Int)) = true by simp]
        exact hQ
      · rw [if_neg c, Pa.inc j (by omega)]
        refine ih (j + 1) (by omega) ?_
        rw [List.take_add_one, List.getElem?_eq_getElem hjl, List.any_append, hn]
        simpa using c

/-- strings.CutPrefix -/
def cutPre (a p : Str) : Str × Bool := if p.isPrefixOf a then (a.drop p.length, true) else (a, false)
theorem shasPrefix_ok {a p : ByteArray} {Q : Bool → AH → Prop} (hQ : Q ((L p).isPrefixOf (L a)) σ) : c_stringslite_HasPrefix B ro a p σ Q := by
  refine stringslite_HasPrefix_ok fun _ => ?_
  unfold f_stringslite_HasPrefix j1_stringslite_HasPrefix
  by_cases h : p.size ≤ a.size
  · rw [if_pos (by omega)]
    refine ⟨⟨⟨by omega, by omega⟩, trivial⟩, ?_⟩
    have e : decide (a.extract 0 (Int.toNat (p.size : Int)) = p) = (L p).isPrefixOf (L a) := by
      rw [Int.toNat_natCast, Bool.eq_iff_iff, decide_eq_true_iff, List.isPrefixOf_iff_prefix, List.prefix_iff_eq_take]
      constructor
      · intro h'; conv => lhs; rw [← h']
        rw [← S_L a, S_extract]; simp [L_len]
      · intro h'
        apply L_inj
        rw [← S_L a, S_extract]; simp only [L_S, List.drop_zero]
        rw [L_len] at h'; exact h'.symm
    rw [e]; exact hQ
  · rw [if_neg (by omega)]
    have e : (L p).isPrefixOf (L a) = false := by
      rw [Bool.eq_false_iff]
      intro h'
      have := (List.isPrefixOf_iff_prefix.1 h').length_le
      rw [L_len, L_len] at this; exact h this
    rw [e] at hQ; exact hQ
theorem cutPrefix_ok {a p : Str} {Q : ByteArray → Bool → AH → Prop} (hQ : Q (S (cutPre a p).1) (cutPre a p).2 σ) : c_strings_CutPrefix B ro (S a) (S p) σ Q := by
  refine strings_CutPrefix_ok fun _ => ?_
  unfold f_strings_CutPrefix
  refine stringslite_CutPrefix_ok fun _ => ?_
  unfold f_stringslite_CutPrefix
  refine shasPrefix_ok ?_
  rw [L_S, L_S]
  unfold cutPre at hQ
  by_cases c : p.isPrefixOf a = true
  · rw [if_neg (by simpa using c)]
    rw [if_pos c] at hQ
    have hl := (List.isPrefixOf_iff_prefix.1 c).length_le
    have hsz : ∀ x : Str, (S x).size = x.length := fun x => by rw [← L_len, L_S]
    refine ⟨⟨trivial, by omega, by simp only [cutHi, hsz]; omega⟩, ?_⟩
    rw [Int.toNat_natCast, S_extract, hsz, hsz, List.take_length]
    exact hQ
  · rw [if_pos (by simpa using c)]
    rw [if_neg c] at hQ
    exact hQ
end Go.Proofs.YtfobjidchipdaaaGreatDoor.Zt

/-
  DERIVED: THE SHELF's CONTRACTS AT THIS DUMP, IN PLAIN WORDS (tools/lay-plain.mjs out of 'TryzShelfCut.lean', which tools/lay-shelf.mjs wrote): THE SAME DECLARATIONS UNDER THE SAME NAMES: 'import', 'namespace', 'open', 'def', 'theorem' AND NOTHING ELSE: no command of the shelf's: FOR A HAND-IN. Each laying: the table of numbers ('.._ren') and one theorem, a field a fact of the dump's own or the kernel's comparison; each contract: ONE APPLICATION.
-/
namespace Go.Proofs
open Go.Shelf
def Tryz.lays160_ren : Go.Shelf.Ren := ⟨fun | 160 => 85 | 232 => 114 | 231 => 113 | 227 => 115 | 234 => 117 | 233 => 116 | 236 => 119 | 235 => 118 | 228 => 141 | 271 => 144 | 151 => 143 | 197 => 142 | 120 => 173 | 152 => 172 | 260 => 171 | 137 => 193 | 119 => 194 | 224 => 177 | 225 => 176 | 217 => 175 | 266 => 195 | n => n, fun | 9 => 9 | 4 => 4 | 3 => 3 | 5 => 5 | 117 => 185 | 116 => 184 | 0 => 0 | 124 => 188 | 21 => 21 | 105 => 212 | 46 => 176 | 119 => 257 | 139 => 260 | 138 => 259 | n => n, fun | 3 => 5 | 4 => 6 | n => n⟩
theorem Tryz.lays160 : Go.Proofs.Lays.n160 Tryz.prog Tryz.lays160_ren := {
  mixed := by kernel_rfl
  f119 := Tryz.func194.trans (congrArg some (by kernel_rfl))
  f120 := Tryz.func173.trans (congrArg some (by kernel_rfl))
  f137 := Tryz.func193.trans (congrArg some (by kernel_rfl))
  f151 := Tryz.func143.trans (congrArg some (by kernel_rfl))
  f152 := Tryz.func172.trans (congrArg some (by kernel_rfl))
  f160 := Tryz.func85.trans (congrArg some (by kernel_rfl))
  f197 := Tryz.func142.trans (congrArg some (by kernel_rfl))
  f217 := Tryz.func175.trans (congrArg some (by kernel_rfl))
  f224 := Tryz.func177.trans (congrArg some (by kernel_rfl))
  f225 := Tryz.func176.trans (congrArg some (by kernel_rfl))
  f227 := Tryz.func115.trans (congrArg some (by kernel_rfl))
  f228 := Tryz.func141.trans (congrArg some (by kernel_rfl))
  f231 := Tryz.func113.trans (congrArg some (by kernel_rfl))
  f232 := Tryz.func114.trans (congrArg some (by kernel_rfl))
  f233 := Tryz.func116.trans (congrArg some (by kernel_rfl))
  f234 := Tryz.func117.trans (congrArg some (by kernel_rfl))
  f235 := Tryz.func118.trans (congrArg some (by kernel_rfl))
  f236 := Tryz.func119.trans (congrArg some (by kernel_rfl))
  f260 := Tryz.func171.trans (congrArg some (by kernel_rfl))
  f266 := Tryz.func195.trans (congrArg some (by kernel_rfl))
  f271 := Tryz.func144.trans (congrArg some (by kernel_rfl))
  t0 := Tryz.underlying0
  a0 := Tryz.isAgg0
  z0 := Tryz.sizeOf0
  v0 := Tryz.zeroValue0
  t3 := Tryz.underlying3
  a3 := Tryz.isAgg3
  z3 := Tryz.sizeOf3
  v3 := Tryz.zeroValue3
  t4 := Tryz.underlying4
  a4 := Tryz.isAgg4
  z4 := Tryz.sizeOf4
  v4 := Tryz.zeroValue4
  t5 := Tryz.underlying5
  a5 := Tryz.isAgg5
  z5 := Tryz.sizeOf5
  v5 := Tryz.zeroValue5
  t9 := Tryz.underlying9
  a9 := Tryz.isAgg9
  z9 := Tryz.sizeOf9
  v9 := Tryz.zeroValue9
  t21 := Tryz.underlying21
  a21 := Tryz.isAgg21
  z21 := Tryz.sizeOf21
  v21 := Tryz.zeroValue21
  t46 := Tryz.underlying176
  a46 := Tryz.isAgg176
  z46 := Tryz.sizeOf176
  v46 := Tryz.zeroValue176
  t105 := Tryz.underlying212
  a105 := Tryz.isAgg212
  z105 := Tryz.sizeOf212
  v105 := Tryz.zeroValue212
  t116 := Tryz.underlying184
  a116 := Tryz.isAgg184
  z116 := Tryz.sizeOf184
  t117 := Tryz.underlying185
  a117 := Tryz.isAgg185
  z117 := Tryz.sizeOf185
  v117 := Tryz.zeroValue185
  t119 := Tryz.underlying257
  a119 := Tryz.isAgg257
  z119 := Tryz.sizeOf257
  t124 := Tryz.underlying188
  a124 := Tryz.isAgg188
  z124 := Tryz.sizeOf188
  v124 := Tryz.zeroValue188
  t138 := Tryz.underlying259
  a138 := Tryz.isAgg259
  z138 := Tryz.sizeOf259
  v138 := Tryz.zeroValue259
  t139 := Tryz.underlying260
  a139 := Tryz.isAgg260
  z139 := Tryz.sizeOf260
  v139 := Tryz.zeroValue260
  g3 := by kernel_rfl
  g4 := by kernel_rfl }
def Tryz.lays172_ren : Go.Shelf.Ren := ⟨fun | 172 => 84 | 244 => 111 | 245 => 112 | 247 => 136 | 279 => 137 | 280 => 138 | 281 => 139 | 282 => 140 | 287 => 168 | 316 => 169 | 171 => 75 | 205 => 170 | 321 => 191 | 322 => 192 | 243 => 101 | 246 => 130 | 283 => 153 | 284 => 154 | 285 => 155 | 286 => 156 | 129 => 167 | 317 => 181 | 318 => 182 | 319 => 183 | 320 => 184 | 337 => 197 | 338 => 198 | n => n, fun | 9 => 9 | 3 => 3 | 75 => 152 | 76 => 153 | 4 => 4 | 5 => 5 | 167 => 206 | 37 => 22 | 0 => 0 | 85 => 207 | 2 => 2 | 168 => 209 | 53 => 217 | 175 => 234 | 46 => 176 | 210 => 238 | 127 => 220 | 145 => 256 | 143 => 254 | 21 => 21 | 171 => 221 | 173 => 224 | 212 => 245 | 51 => 175 | 20 => 20 | 213 => 246 | 232 => 266 | 233 => 267 | 80 => 132 | n => n, fun | 15 => 1 | 16 => 2 | 17 => 4 | 18 => 7 | 19 => 8 | n => n⟩
theorem Tryz.lays172 : Go.Proofs.Lays.n172 Tryz.prog Tryz.lays172_ren := {
  mixed := by kernel_rfl
  f129 := Tryz.func167.trans (congrArg some (by kernel_rfl))
  f171 := Tryz.func75.trans (congrArg some (by kernel_rfl))
  f172 := Tryz.func84.trans (congrArg some (by kernel_rfl))
  f205 := Tryz.func170.trans (congrArg some (by kernel_rfl))
  f243 := Tryz.func101.trans (congrArg some (by kernel_rfl))
  f244 := Tryz.func111.trans (congrArg some (by kernel_rfl))
  f245 := Tryz.func112.trans (congrArg some (by kernel_rfl))
  f246 := Tryz.func130.trans (congrArg some (by kernel_rfl))
  f247 := Tryz.func136.trans (congrArg some (by kernel_rfl))
  f279 := Tryz.func137.trans (congrArg some (by kernel_rfl))
  f280 := Tryz.func138.trans (congrArg some (by kernel_rfl))
  f281 := Tryz.func139.trans (congrArg some (by kernel_rfl))
  f282 := Tryz.func140.trans (congrArg some (by kernel_rfl))
  f283 := Tryz.func153.trans (congrArg some (by kernel_rfl))
  f284 := Tryz.func154.trans (congrArg some (by kernel_rfl))
  f285 := Tryz.func155.trans (congrArg some (by kernel_rfl))
  f286 := Tryz.func156.trans (congrArg some (by kernel_rfl))
  f287 := Tryz.func168.trans (congrArg some (by kernel_rfl))
  f316 := Tryz.func169.trans (congrArg some (by kernel_rfl))
  f317 := Tryz.func181.trans (congrArg some (by kernel_rfl))
  f318 := Tryz.func182.trans (congrArg some (by kernel_rfl))
  f319 := Tryz.func183.trans (congrArg some (by kernel_rfl))
  f320 := Tryz.func184.trans (congrArg some (by kernel_rfl))
  f321 := Tryz.func191.trans (congrArg some (by kernel_rfl))
  f322 := Tryz.func192.trans (congrArg some (by kernel_rfl))
  f337 := Tryz.func197.trans (congrArg some (by kernel_rfl))
  f338 := Tryz.func198.trans (congrArg some (by kernel_rfl))
  t0 := Tryz.underlying0
  a0 := Tryz.isAgg0
  z0 := Tryz.sizeOf0
  v0 := Tryz.zeroValue0
  t2 := Tryz.underlying2
  a2 := Tryz.isAgg2
  z2 := Tryz.sizeOf2
  v2 := Tryz.zeroValue2
  t3 := Tryz.underlying3
  a3 := Tryz.isAgg3
  z3 := Tryz.sizeOf3
  v3 := Tryz.zeroValue3
  t4 := Tryz.underlying4
  a4 := Tryz.isAgg4
  z4 := Tryz.sizeOf4
  v4 := Tryz.zeroValue4
  t5 := Tryz.underlying5
  a5 := Tryz.isAgg5
  z5 := Tryz.sizeOf5
  v5 := Tryz.zeroValue5
  t9 := Tryz.underlying9
  a9 := Tryz.isAgg9
  z9 := Tryz.sizeOf9
  v9 := Tryz.zeroValue9
  t20 := Tryz.underlying20
  a20 := Tryz.isAgg20
  z20 := Tryz.sizeOf20
  v20 := Tryz.zeroValue20
  t21 := Tryz.underlying21
  a21 := Tryz.isAgg21
  z21 := Tryz.sizeOf21
  v21 := Tryz.zeroValue21
  t37 := Tryz.underlying22
  a37 := Tryz.isAgg22
  z37 := Tryz.sizeOf22
  v37 := Tryz.zeroValue22
  t46 := Tryz.underlying176
  a46 := Tryz.isAgg176
  z46 := Tryz.sizeOf176
  v46 := Tryz.zeroValue176
  t51 := Tryz.underlying175
  a51 := Tryz.isAgg175
  z51 := Tryz.sizeOf175
  v51 := Tryz.zeroValue175
  t53 := Tryz.underlying217
  a53 := Tryz.isAgg217
  z53 := Tryz.sizeOf217
  v53 := Tryz.zeroValue217
  t75 := Tryz.underlying152
  a75 := Tryz.isAgg152
  z75 := Tryz.sizeOf152
  v75 := Tryz.zeroValue152
  t76 := Tryz.underlying153
  a76 := Tryz.isAgg153
  z76 := Tryz.sizeOf153
  v76 := Tryz.zeroValue153
  t85 := Tryz.underlying207
  a85 := Tryz.isAgg207
  z85 := Tryz.sizeOf207
  v85 := Tryz.zeroValue207
  t127 := Tryz.underlying220
  a127 := Tryz.isAgg220
  z127 := Tryz.sizeOf220
  v127 := Tryz.zeroValue220
  t143 := Tryz.underlying254
  a143 := Tryz.isAgg254
  z143 := Tryz.sizeOf254
  v143 := Tryz.zeroValue254
  t145 := Tryz.underlying256
  a145 := Tryz.isAgg256
  z145 := Tryz.sizeOf256
  v145 := Tryz.zeroValue256
  t167 := Tryz.underlying206
  a167 := Tryz.isAgg206
  z167 := Tryz.sizeOf206
  v167 := Tryz.zeroValue206
  t168 := Tryz.underlying209
  a168 := Tryz.isAgg209
  z168 := Tryz.sizeOf209
  v168 := Tryz.zeroValue209
  t171 := Tryz.underlying221
  a171 := Tryz.isAgg221
  z171 := Tryz.sizeOf221
  v171 := Tryz.zeroValue221
  t173 := Tryz.underlying224
  a173 := Tryz.isAgg224
  z173 := Tryz.sizeOf224
  v173 := Tryz.zeroValue224
  t175 := Tryz.underlying234
  a175 := Tryz.isAgg234
  z175 := Tryz.sizeOf234
  v175 := Tryz.zeroValue234
  t210 := Tryz.underlying238
  a210 := Tryz.isAgg238
  z210 := Tryz.sizeOf238
  v210 := Tryz.zeroValue238
  t212 := Tryz.underlying245
  a212 := Tryz.isAgg245
  z212 := Tryz.sizeOf245
  v212 := Tryz.zeroValue245
  t213 := Tryz.underlying246
  a213 := Tryz.isAgg246
  z213 := Tryz.sizeOf246
  t232 := Tryz.underlying266
  a232 := Tryz.isAgg266
  z232 := Tryz.sizeOf266
  v232 := Tryz.zeroValue266
  t233 := Tryz.underlying267
  a233 := Tryz.isAgg267
  z233 := Tryz.sizeOf267
  v233 := Tryz.zeroValue267
  g15 := by kernel_rfl
  g16 := by kernel_rfl
  g17 := by kernel_rfl
  g18 := by kernel_rfl
  g19 := by kernel_rfl }
open Go.RowKit in
/-- strconv.Atoi: "Atoi is equivalent to ParseInt(s, 10, 0), converted to type int.": AT A DECIMAL NUMERAL OF AT MOST 18 BYTES: its value, and a nil error. The world behind the call: the one new row that the library's '[]byte(s)' lays. (LAID: no walk: one application.) -/
theorem Tryz.strconv_Atoi (s : ByteArray) (n : Int) (hl : s.size ≤ 18) (h : Lib.atoi s.data.toList = some n) (w : World) :
    Calls Tryz.prog 84 #[.string s] w fun e w' => e = .returned (.tuple #[.int .i64 n, .nilIface]) ∧ ∃ t, w' = Lib.bytesWorld w 5 t := Any.strconv_Atoi Tryz.lays172 s n hl h w
def Tryz.laysM171_ren : Go.Shelf.Ren := ⟨fun | 171 => 75 | 243 => 101 | 246 => 130 | 283 => 153 | 284 => 154 | 285 => 155 | 286 => 156 | 129 => 167 | 317 => 181 | 318 => 182 | 319 => 183 | 320 => 184 | 337 => 197 | 338 => 198 | n => n, fun | 3 => 3 | 9 => 9 | 2 => 2 | 4 => 4 | 171 => 221 | 0 => 0 | 53 => 217 | 37 => 22 | 5 => 5 | 173 => 224 | 212 => 245 | 51 => 175 | 20 => 20 | 213 => 246 | 46 => 176 | 232 => 266 | 233 => 267 | n => n, fun | 17 => 4 | 18 => 7 | 19 => 8 | n => n⟩
theorem Tryz.laysM171 : Go.Proofs.LaysM.n171 Tryz.prog Tryz.laysM171_ren := {
  mixed := by kernel_rfl
  f129 := Tryz.func167.trans (congrArg some (by kernel_rfl))
  f171 := Tryz.func75.trans (congrArg some (by kernel_rfl))
  f243 := Tryz.func101.trans (congrArg some (by kernel_rfl))
  f246 := Tryz.func130.trans (congrArg some (by kernel_rfl))
  f283 := Tryz.func153.trans (congrArg some (by kernel_rfl))
  f284 := Tryz.func154.trans (congrArg some (by kernel_rfl))
  f285 := Tryz.func155.trans (congrArg some (by kernel_rfl))
  f286 := Tryz.func156.trans (congrArg some (by kernel_rfl))
  f317 := Tryz.func181.trans (congrArg some (by kernel_rfl))
  f318 := Tryz.func182.trans (congrArg some (by kernel_rfl))
  f319 := Tryz.func183.trans (congrArg some (by kernel_rfl))
  f320 := Tryz.func184.trans (congrArg some (by kernel_rfl))
  f337 := Tryz.func197.trans (congrArg some (by kernel_rfl))
  f338 := Tryz.func198.trans (congrArg some (by kernel_rfl))
  t0 := Tryz.underlying0
  a0 := Tryz.isAgg0
  z0 := Tryz.sizeOf0
  v0 := Tryz.zeroValue0
  t2 := Tryz.underlying2
  a2 := Tryz.isAgg2
  z2 := Tryz.sizeOf2
  v2 := Tryz.zeroValue2
  t3 := Tryz.underlying3
  a3 := Tryz.isAgg3
  z3 := Tryz.sizeOf3
  v3 := Tryz.zeroValue3
  t4 := Tryz.underlying4
  a4 := Tryz.isAgg4
  z4 := Tryz.sizeOf4
  v4 := Tryz.zeroValue4
  t5 := Tryz.underlying5
  a5 := Tryz.isAgg5
  z5 := Tryz.sizeOf5
  v5 := Tryz.zeroValue5
  t9 := Tryz.underlying9
  a9 := Tryz.isAgg9
  z9 := Tryz.sizeOf9
  v9 := Tryz.zeroValue9
  t20 := Tryz.underlying20
  a20 := Tryz.isAgg20
  z20 := Tryz.sizeOf20
  v20 := Tryz.zeroValue20
  t37 := Tryz.underlying22
  a37 := Tryz.isAgg22
  z37 := Tryz.sizeOf22
  v37 := Tryz.zeroValue22
  t46 := Tryz.underlying176
  a46 := Tryz.isAgg176
  z46 := Tryz.sizeOf176
  v46 := Tryz.zeroValue176
  t51 := Tryz.underlying175
  a51 := Tryz.isAgg175
  z51 := Tryz.sizeOf175
  v51 := Tryz.zeroValue175
  t53 := Tryz.underlying217
  a53 := Tryz.isAgg217
  z53 := Tryz.sizeOf217
  v53 := Tryz.zeroValue217
  t171 := Tryz.underlying221
  a171 := Tryz.isAgg221
  z171 := Tryz.sizeOf221
  v171 := Tryz.zeroValue221
  t173 := Tryz.underlying224
  a173 := Tryz.isAgg224
  z173 := Tryz.sizeOf224
  v173 := Tryz.zeroValue224
  t212 := Tryz.underlying245
  a212 := Tryz.isAgg245
  z212 := Tryz.sizeOf245
  v212 := Tryz.zeroValue245
  t213 := Tryz.underlying246
  a213 := Tryz.isAgg246
  z213 := Tryz.sizeOf246
  t232 := Tryz.underlying266
  a232 := Tryz.isAgg266
  z232 := Tryz.sizeOf266
  v232 := Tryz.zeroValue266
  t233 := Tryz.underlying267
  a233 := Tryz.isAgg267
  z233 := Tryz.sizeOf267
  v233 := Tryz.zeroValue267
  g17 := by kernel_rfl
  g18 := by kernel_rfl
  g19 := by kernel_rfl
  i0 := by kernel_rfl
  i2 := by kernel_rfl
  i3 := by kernel_rfl
  i4 := by kernel_rfl
  i5 := by kernel_rfl
  i9 := by kernel_rfl
  i20 := by kernel_rfl
  i37 := by kernel_rfl
  i46 := by kernel_rfl
  i51 := by kernel_rfl
  i53 := by kernel_rfl
  i171 := by kernel_rfl
  i173 := by kernel_rfl
  i212 := by kernel_rfl
  i232 := by kernel_rfl
  i233 := by kernel_rfl
  m17 := by kernel_rfl
  m18 := by kernel_rfl
  m19 := by kernel_rfl }
open Go.RowKit Go.Sort Go.Lib in
/-- strconv.Itoa: "Itoa is equivalent to FormatInt(int64(i), 10).": i's DECIMAL NUMERAL ('Lib.itoa': a '-' where i is negative, then the digits), FOR EVERY int. The world behind the call: the world before it, new blocks behind the heap (the library's 'var a [24]byte'), draws. (LAID: no walk: one application.) -/
theorem Tryz.strconv_Itoa (n : Int) (h0 : -9223372036854775808 ≤ n) (h1 : n ≤ 9223372036854775807) (w : World) (htab : Lib.TabIs Tryz.prog w "internal/strconv.uint64pow10" .u64 Lib.pow10Tab) :
    Calls Tryz.prog 75 #[.int .i64 n] w fun e w' => e = .returned (.string ⟨(Lib.itoa n).toArray⟩) ∧ ∃ k os, w' = grow (w.drewN k) os := Any.strconv_Itoa Tryz.laysM171 n h0 h1 w htab
def Tryz.keys82_ren : Go.Shelf.Ren := ⟨fun | 7 => 82 | 10 => 109 | n => n, fun | 23 => 37 | 26 => 9 | 3 => 102 | 28 => 147 | 0 => 0 | 27 => 146 | 33 => 98 | 4 => 4 | n => n, fun | n => n⟩
theorem Tryz.keys82 : Go.Proofs.SlLaysZ.n7 Tryz.prog Tryz.keys82_ren := {
  mixed := by kernel_rfl
  f7 := ⟨Tryz.f82.name, by decide, Tryz.func82.trans (congrArg some (by kernel_rfl))⟩
  f10 := ⟨Tryz.f109.name, by decide, Tryz.func109.trans (congrArg some (by kernel_rfl))⟩
  t0 := Tryz.underlying0
  a0 := Tryz.isAgg0
  z0 := Tryz.sizeOf0
  v0 := Tryz.zeroValue0
  t4 := Tryz.underlying4
  a4 := Tryz.isAgg4
  z4 := Tryz.sizeOf4
  v4 := Tryz.zeroValue4
  t23 := Tryz.underlying37
  a23 := Tryz.isAgg37
  z23 := Tryz.sizeOf37
  v23 := Tryz.zeroValue37
  t26 := Tryz.underlying9
  a26 := Tryz.isAgg9
  z26 := Tryz.sizeOf9
  v26 := Tryz.zeroValue9
  t27 := Tryz.underlying146
  a27 := Tryz.isAgg146
  z27 := Tryz.sizeOf146
  v27 := Tryz.zeroValue146
  t28 := Tryz.underlying147
  a28 := Tryz.isAgg147
  z28 := Tryz.sizeOf147
  v28 := Tryz.zeroValue147
  t33 := Tryz.underlying98
  a33 := Tryz.isAgg98
  z33 := Tryz.sizeOf98
  v33 := Tryz.zeroValue98 }
def Tryz.sorted81_ren : Go.Shelf.Ren := ⟨fun | 6 => 81 | 8 => 107 | 9 => 108 | 11 => 132 | 13 => 134 | 12 => 133 | 23 => 166 | 24 => 167 | 14 => 157 | 15 => 158 | 16 => 159 | 17 => 160 | 18 => 161 | 19 => 162 | 20 => 163 | 21 => 164 | 22 => 165 | 25 => 185 | 26 => 186 | 27 => 187 | 28 => 188 | 29 => 189 | 30 => 190 | 31 => 199 | n => n, fun | 26 => 9 | 28 => 147 | 24 => 83 | 0 => 0 | 3 => 3 | 37 => 176 | 48 => 175 | 50 => 217 | 4 => 4 | 40 => 228 | 39 => 227 | 45 => 193 | 5 => 5 | 9 => 9 | 51 => 247 | 55 => 251 | 57 => 263 | 58 => 264 | 33 => 98 | n => n, fun | n => n⟩
theorem Tryz.sorted81 : Go.Proofs.SlLaysZ.n6 Tryz.prog Tryz.sorted81_ren := {
  mixed := by kernel_rfl
  f6 := ⟨Tryz.f81.name, by decide, Tryz.func81.trans (congrArg some (by kernel_rfl))⟩
  f8 := ⟨Tryz.f107.name, by decide, Tryz.func107.trans (congrArg some (by kernel_rfl))⟩
  f11 := ⟨Tryz.f132.name, by decide, Tryz.func132.trans (congrArg some (by kernel_rfl))⟩
  t0 := Tryz.underlying0
  a0 := Tryz.isAgg0
  z0 := Tryz.sizeOf0
  v0 := Tryz.zeroValue0
  t24 := Tryz.underlying83
  a24 := Tryz.isAgg83
  z24 := Tryz.sizeOf83
  v24 := Tryz.zeroValue83
  t26 := Tryz.underlying9
  a26 := Tryz.isAgg9
  z26 := Tryz.sizeOf9
  v26 := Tryz.zeroValue9
  t28 := Tryz.underlying147
  a28 := Tryz.isAgg147
  z28 := Tryz.sizeOf147
  v28 := Tryz.zeroValue147
  i26 := by kernel_rfl }
def Tryz.sort108_ren : Go.Shelf.Ren := ⟨fun | 6 => 108 | 8 => 134 | 9 => 133 | 19 => 166 | 20 => 167 | 21 => 157 | 22 => 158 | 23 => 159 | 24 => 160 | 25 => 161 | 26 => 162 | 27 => 163 | 28 => 164 | 29 => 165 | 36 => 185 | 31 => 186 | 32 => 187 | 37 => 188 | 38 => 189 | 39 => 190 | 41 => 199 | n => n, fun | 27 => 83 | 29 => 9 | 3 => 3 | 32 => 176 | 26 => 83 | 0 => 0 | 44 => 175 | 46 => 217 | 4 => 4 | 36 => 228 | 35 => 227 | 41 => 193 | 5 => 5 | 9 => 9 | 53 => 247 | 57 => 251 | 63 => 263 | 64 => 264 | n => n, fun | n => n⟩
theorem Tryz.sort108 : Go.Proofs.SlLaysM.n6 Tryz.prog Tryz.sort108_ren := {
  mixed := by kernel_rfl
  f6 := ⟨Tryz.f108.name, by decide, Tryz.func108.trans (congrArg some (by kernel_rfl))⟩
  f8 := Tryz.func134.trans (congrArg some (by kernel_rfl))
  f9 := ⟨Tryz.f133.name, by decide, Tryz.func133.trans (congrArg some (by kernel_rfl))⟩
  f19 := Tryz.func166.trans (congrArg some (by kernel_rfl))
  f20 := Tryz.func167.trans (congrArg some (by kernel_rfl))
  f21 := ⟨Tryz.f157.name, by decide, Tryz.func157.trans (congrArg some (by kernel_rfl))⟩
  f22 := ⟨Tryz.f158.name, by decide, Tryz.func158.trans (congrArg some (by kernel_rfl))⟩
  f23 := ⟨Tryz.f159.name, by decide, Tryz.func159.trans (congrArg some (by kernel_rfl))⟩
  f24 := ⟨Tryz.f160.name, by decide, Tryz.func160.trans (congrArg some (by kernel_rfl))⟩
  f25 := ⟨Tryz.f161.name, by decide, Tryz.func161.trans (congrArg some (by kernel_rfl))⟩
  f26 := ⟨Tryz.f162.name, by decide, Tryz.func162.trans (congrArg some (by kernel_rfl))⟩
  f27 := ⟨Tryz.f163.name, by decide, Tryz.func163.trans (congrArg some (by kernel_rfl))⟩
  f28 := ⟨Tryz.f164.name, by decide, Tryz.func164.trans (congrArg some (by kernel_rfl))⟩
  f29 := ⟨Tryz.f165.name, by decide, Tryz.func165.trans (congrArg some (by kernel_rfl))⟩
  f31 := Tryz.func186.trans (congrArg some (by kernel_rfl))
  f32 := Tryz.func187.trans (congrArg some (by kernel_rfl))
  f36 := ⟨Tryz.f185.name, by decide, Tryz.func185.trans (congrArg some (by kernel_rfl))⟩
  f37 := ⟨Tryz.f188.name, by decide, Tryz.func188.trans (congrArg some (by kernel_rfl))⟩
  f38 := ⟨Tryz.f189.name, by decide, Tryz.func189.trans (congrArg some (by kernel_rfl))⟩
  f39 := ⟨Tryz.f190.name, by decide, Tryz.func190.trans (congrArg some (by kernel_rfl))⟩
  f41 := ⟨Tryz.f199.name, by decide, Tryz.func199.trans (congrArg some (by kernel_rfl))⟩
  t0 := Tryz.underlying0
  a0 := Tryz.isAgg0
  z0 := Tryz.sizeOf0
  v0 := Tryz.zeroValue0
  t3 := Tryz.underlying3
  a3 := Tryz.isAgg3
  z3 := Tryz.sizeOf3
  v3 := Tryz.zeroValue3
  t4 := Tryz.underlying4
  a4 := Tryz.isAgg4
  z4 := Tryz.sizeOf4
  v4 := Tryz.zeroValue4
  t5 := Tryz.underlying5
  a5 := Tryz.isAgg5
  z5 := Tryz.sizeOf5
  v5 := Tryz.zeroValue5
  t9 := Tryz.underlying9
  a9 := Tryz.isAgg9
  z9 := Tryz.sizeOf9
  v9 := Tryz.zeroValue9
  t26 := Tryz.underlying83
  a26 := Tryz.isAgg83
  z26 := Tryz.sizeOf83
  v26 := Tryz.zeroValue83
  t27 := Tryz.underlying83
  a27 := Tryz.isAgg83
  z27 := Tryz.sizeOf83
  v27 := Tryz.zeroValue83
  t29 := Tryz.underlying9
  a29 := Tryz.isAgg9
  z29 := Tryz.sizeOf9
  v29 := Tryz.zeroValue9
  t32 := Tryz.underlying176
  a32 := Tryz.isAgg176
  z32 := Tryz.sizeOf176
  v32 := Tryz.zeroValue176
  t35 := Tryz.underlying227
  a35 := Tryz.isAgg227
  z35 := Tryz.sizeOf227
  v35 := Tryz.zeroValue227
  t36 := Tryz.underlying228
  a36 := Tryz.isAgg228
  z36 := Tryz.sizeOf228
  v36 := Tryz.zeroValue228
  t41 := Tryz.underlying193
  a41 := Tryz.isAgg193
  z41 := Tryz.sizeOf193
  v41 := Tryz.zeroValue193
  t44 := Tryz.underlying175
  a44 := Tryz.isAgg175
  z44 := Tryz.sizeOf175
  v44 := Tryz.zeroValue175
  t46 := Tryz.underlying217
  a46 := Tryz.isAgg217
  z46 := Tryz.sizeOf217
  v46 := Tryz.zeroValue217
  t53 := Tryz.underlying247
  a53 := Tryz.isAgg247
  z53 := Tryz.sizeOf247
  v53 := Tryz.zeroValue247
  t57 := Tryz.underlying251
  a57 := Tryz.isAgg251
  z57 := Tryz.sizeOf251
  v57 := Tryz.zeroValue251
  t63 := Tryz.underlying263
  a63 := Tryz.isAgg263
  z63 := Tryz.sizeOf263
  v63 := Tryz.zeroValue263
  t64 := Tryz.underlying264
  a64 := Tryz.isAgg264
  z64 := Tryz.sizeOf264
  v64 := Tryz.zeroValue264 }
open Go.RowKit Go.Maps Go.Sort in
theorem Tryz.sorts81 (m : Nat) : AnyZ.SortsIn Tryz.prog Tryz.sorted81_ren Fence.wide m :=
  ⟨fun blk off cap ss W hH hblk hsz => callsIn_wide.2 (AnyM.slices_Sort_string Tryz.sort108 blk off cap ss W hH hblk hsz),
   fun p cap W => callsIn_wide.2 (AnyM.slices_Sort_string_none Tryz.sort108 p cap W)⟩
open Go.RowKit Go.Maps Go.Sort in
theorem Tryz.maps_Keys_82 (mb : Option Nat) (W : World) : CallsIn Fence.wide 5 Tryz.prog 82 #[.map mb] W fun e w' => e = .returned (.func (.func 109) #[] #[.pointer (some ⟨W.heap.size, 0, none⟩)]) ∧ w' = W.alloc (.cells #[.map mb] 37) :=
  AnyZ.keys_in Tryz.keys82 Fence.wide 5 trivial rfl mb W
end Go.Proofs

/- Numerals, digits read, texts trimmed: the library under snapshots and logs; structs of numbers compared. -/
namespace Go.Proofs.YtfobjidchipdaaaGreatDoor.Sn
open Go Go.Proofs.YtfobjidchipdaaaGreatDoor.SL Go.Proofs.YtfobjidchipdaaaGreatDoor.G Go.Proofs.YtfobjidchipdaaaGreatDoor.Pa
set_option linter.unusedSimpArgs false
set_option linter.unusedVariables false
set_option maxRecDepth 100000
variable {B : World} {ro σ σ' : AH} {tag tag' : Nat → Nat}
theorem itoa_ok {n : Nat} {Q : ByteArray → AH → Prop} (g : Glob ro) (hn : n < 9223372036854775808) (hQ : Q (S (Lib.decDigits n)) σ) : c_strconv_Itoa B ro (n : Int) σ Q := by
  refine ACalls.of_calls fun w hw hsep => ?_
  refine (Tryz.strconv_Itoa (n : Int) (by omega) (by omega) w (g.tab w (sees_ro hw))).mono ?_
  rintro e w' ⟨he, k, os, rfl⟩
  have hb : Go.RowKit.Below w.heap.size w (Go.Sort.grow (w.drewN k) os) := ⟨rfl, rfl, rfl, by simp [Go.Sort.grow, World.drewN], fun b hb => by
    simp only [Go.Sort.grow, World.drewN]
    rw [Array.getElem?_append_left hb]⟩
  refine ⟨_, fun _ => none, he, hb, News.none _ _, S (Lib.decDigits n), ?_, ?_⟩
  · rw [Lib.itoa_nonneg]; rfl
  · rw [join_none_right]; exact hQ
theorem atoi_ok {l : Str} {n : Int} {Q : Int → Value → AH → Prop} (hl : l.length ≤ 18) (h : Lib.atoi l = some n) (hQ : Q n .nilIface σ) : c_strconv_Atoi B ro (S l) σ Q := by
  refine ACalls.of_calls fun w hw hsep => ?_
  refine (Tryz.strconv_Atoi (S l) n hl h w).mono ?_
  rintro e w' ⟨he, t, rfl⟩
  refine ⟨_, fun _ => none, he, ?_, News.none _ _, n, .nilIface, rfl, ?_⟩
  · exact Lib.bytesWorld_below _ _ _
  · rw [join_none_right]; exact hQ
theorem trim_ok {l cs : Str} {Q : ByteArray → AH → Prop} (hl : l.length ≤ 9223372036854775807) (hc : cs.length < 4294967281) (ha : ∀ c ∈ cs, c.toNat < 128) (hQ : Q (S (Lib.trimS l cs)) σ) : c_strings_Trim B ro (S l) (S cs) σ Q := by
  refine ACalls.of_calls fun w hw hsep => ?_
  refine (Any.strings_Trim_laid Tryz.lays160 (by kernel_rfl) (S l) (S cs) w (by rw [← L_len, L_S]; exact hl) (by rw [← L_len, L_S]; exact hc) (fun j b hb => ha b (List.mem_of_getElem? hb))).mono ?_
  rintro e w' ⟨he, hb⟩
  exact ⟨_, fun _ => none, he, hb, News.none _ _, _, rfl, by rw [join_none_right]; exact hQ⟩
theorem aread_bind {α β : Type} {P : Program} (s : Sem α) (f : α → Sem β) {τ : AH} {a : α} (h : aread P ro s τ = some a) : aread P ro (Sem.bind s f) τ = aread P ro (f a) τ := by
  induction s with
  | pure x => cases h; rfl
  | load m x k ih =>
    simp only [aread] at h
    simp only [Sem.bind, aread]
    split at h
    · exact ih _ h
    · cases h
  | program k ih => exact ih _ h
  | mark m k ih => exact ih h
  | _ => cases h
theorem eqint {k : Nat} {a b : Int} {τ : AH} : aread Tryz.prog ro (Op.equalIn (k + 1) 3 (.int .i64 a) (.int .i64 b)) τ = some (decide (a = b)) := by
  unfold Op.equalIn
  show aread Tryz.prog ro (Sem.bind (underlying 3) _) _ = _
  rw [underlying_bind _ _ (by kernel_rfl : Tryz.prog.underlying 3 = some (.int .i64))]
  show some (a == b) = _
  by_cases e : a = b
  · subst e; simp
  · simp [e]
theorem g87 : Tryz.prog.eqGuardType Tryz.prog.depth 87 = false := by kernel_rfl
theorem st87 : Tryz.prog.stoodInHeld 87 = false := by kernel_rfl
theorem u87 : ∃ n1 n2 : Field, Tryz.prog.underlying 87 = some (.struct #[n1, n2]) ∧ n1.type = 3 ∧ n1.offset = 0 ∧ n2.type = 3 ∧ n2.offset = 1 ∧ n1.name ≠ "_" ∧ n2.name ≠ "_" := ⟨_, _, Tryz.underlying87, rfl, rfl, rfl, rfl, by decide, by decide⟩
theorem partI {cs : Array Value} {i : Nat} {n : Int} {τ : AH} (h : cs[i]? = some (.int .i64 n)) : aread Tryz.prog ro (part 3 cs i) τ = some (.int .i64 n) := by
  unfold part
  show aread Tryz.prog ro (Sem.bind (isAgg 3) _) τ = _
  rw [aread_isAgg (by kernel_rfl : Tryz.prog.underlying 3 = some (.int .i64))]
  simp only [h]
  rfl
theorem eq87 {k : Nat} {a b c d : Int} {τ : AH} : aread Tryz.prog ro (Op.equalIn (k + 2) 87 (.agg #[.int .i64 a, .int .i64 b]) (.agg #[.int .i64 c, .int .i64 d])) τ = some (decide (a = c ∧ b = d)) := by
  obtain ⟨n1, n2, hu, h1, h2, h3, h4, h5, h6⟩ := u87
  unfold Op.equalIn
  show aread Tryz.prog ro (Sem.bind (underlying 87) _) _ = _
  rw [underlying_bind _ _ hu]
  show aread Tryz.prog ro (if Tryz.prog.stoodInHeld 87 = true then _ else _) τ = _
  rw [st87, if_neg (by simp)]
  show aread Tryz.prog ro (Sem.bind (forIn #[n1, n2] _ _) _) τ = _
  have p : ∀ {β : Type} (cs : Array Value) (i : Nat) (n : Int) (f : Value → Sem β), cs[i]? = some (.int .i64 n) → aread Tryz.prog ro (part 3 cs i >>= f) τ = aread Tryz.prog ro (f (.int .i64 n)) τ := fun cs i n f h => aread_bind _ _ (partI h)
  have q : ∀ {β : Type} (x y : Int) (f : Bool → Sem β), aread Tryz.prog ro (Op.equalIn (k + 1) 3 (.int .i64 x) (.int .i64 y) >>= f) τ = aread Tryz.prog ro (f (decide (x = y))) τ := fun x y f => aread_bind _ _ eqint
  rw [← Array.forIn_toList]
  by_cases e1 : a = c
  · by_cases e2 : b = d
    · rw [show decide (a = c ∧ b = d) = true by simp [e1, e2]]
      refine (aread_bind _ _ (a := ((none, ()) : Option Bool × Unit)) ?_).trans rfl
      rw [List.forIn_cons]
      refine (aread_bind _ _ (a := .yield ((none, ()) : Option Bool × Unit)) ?_).trans ?_
      · rw [if_pos h5, h1, h2, p _ _ a _ rfl, p _ _ c _ rfl, q]; simp only [e1]; simp; rfl
      · show aread Tryz.prog ro (forIn [n2] _ _) τ = _
        rw [List.forIn_cons]
        refine (aread_bind _ _ (a := .yield ((none, ()) : Option Bool × Unit)) ?_).trans ?_
        · rw [if_pos h6, h3, h4, p _ _ b _ rfl, p _ _ d _ rfl, q]; simp only [e2]; simp; rfl
        · rfl
    · rw [show decide (a = c ∧ b = d) = false by simp [e1, e2]]
      refine (aread_bind _ _ (a := ((some false, ()) : Option Bool × Unit)) ?_).trans rfl
      rw [List.forIn_cons]
      refine (aread_bind _ _ (a := .yield ((none, ()) : Option Bool × Unit)) ?_).trans ?_
      · rw [if_pos h5, h1, h2, p _ _ a _ rfl, p _ _ c _ rfl, q]; simp only [e1]; simp; rfl
      · show aread Tryz.prog ro (forIn [n2] _ _) τ = _
        rw [List.forIn_cons]
        refine (aread_bind _ _ (a := .done ((some false, ()) : Option Bool × Unit)) ?_).trans ?_
        · rw [if_pos h6, h3, h4, p _ _ b _ rfl, p _ _ d _ rfl, q]; simp only [e2]; simp; rfl
        · rfl
  · rw [show decide (a = c ∧ b = d) = false by simp [e1]]
    refine (aread_bind _ _ (a := ((some false, ()) : Option Bool × Unit)) ?_).trans rfl
    rw [List.forIn_cons]
    refine (aread_bind _ _ (a := .done ((some false, ()) : Option Bool × Unit)) ?_).trans ?_
    · rw [if_pos h5, h1, h2, p _ _ a _ rfl, p _ _ c _ rfl, q]; simp only [e1]; simp; rfl
    · rfl
theorem ne87 {a b c d : Int} {x y : Operand} {K : Value → AH → Prop} (h : K (.bool (!decide (a = c ∧ b = d))) σ) : awp Tryz.prog ro (do eqGuard .neq 87 x y (.agg #[.int .i64 a, .int .i64 b]) (.agg #[.int .i64 c, .int .i64 d]); Go.binOp .neq 87 (.agg #[.int .i64 a, .int .i64 b]) (.agg #[.int .i64 c, .int .i64 d])) K σ := by
  refine awp_at_aread _ ?_ h
  refine (aread_bind _ _ (a := ()) ?_).trans ?_
  · show aread Tryz.prog ro (if (!(Tryz.prog.eqGuardType Tryz.prog.depth 87)) = true then _ else _) σ = _
    rw [g87, if_pos (by simp)]
    rfl
  · show aread Tryz.prog ro (Sem.bind (Op.equal 87 _ _) fun b => Sem.pure (Value.bool !b)) σ = _
    rw [equal_unfold, aread_bind _ _ eq87]; rfl
theorem nil_eq {v : Value} {K : Value → AH → Prop} (h : K (.bool true) σ) : awp Tryz.prog ro (do eqGuard .eql 152 (.tmp 23) (.const v) .nilIface .nilIface; Go.binOp .eql 152 .nilIface .nilIface) K σ := by
  refine awp_at_aread _ ?_ h
  refine (aread_bind _ _ (a := ()) rfl).trans ?_
  show aread Tryz.prog ro (Sem.bind (Op.equal 152 _ _) fun b => Sem.pure (Value.bool b)) σ = _
  rw [equal_unfold]
  refine (aread_bind _ _ (a := true) ?_).trans rfl
  unfold Op.equalIn
  show aread Tryz.prog ro (Sem.bind (underlying 152) _) _ = _
  rw [underlying_bind _ _ Tryz.underlying152]
  rfl
end Go.Proofs.YtfobjidchipdaaaGreatDoor.Sn

/- Files by their names, as a disk has them: the list of pairs, and how it lies in memory. -/
namespace Go.Proofs.YtfobjidchipdaaaGreatDoor.Dk
open Go Go.Proofs.YtfobjidchipdaaaGreatDoor.SL
set_option linter.unusedSimpArgs false
set_option linter.unusedVariables false
variable {P : Program} {B : World} {ro σ σ' : AH} {tag tag' : Nat → Nat}

/-! ### lists of names and what belongs to them -/
section
variable {β : Type}
def aput : List (Str × β) → Str → β → List (Str × β)
  | [], k, v => [(k, v)]
  | (k', v') :: r, k, v => if k = k' then (k, v) :: r else (k', v') :: aput r k v
def adel : List (Str × β) → Str → List (Str × β)
  | [], _ => []
  | (k', v') :: r, k => if k = k' then r else (k', v') :: adel r k
theorem mem_lookup : ∀ {ps : List (Str × β)} {k : Str} {x : β}, ps.lookup k = some x → (k, x) ∈ ps := by
  intro ps
  induction ps with
  | nil => intro k x h; cases h
  | cons p ps ih =>
    intro k x h
    obtain ⟨k', v'⟩ := p
    rw [List.lookup_cons] at h
    by_cases e : k = k'
    · subst e; simp at h; subst h; simp
    · rw [show (k == k') = false by simpa using e] at h
      exact List.mem_cons_of_mem _ (ih h)
theorem lookup_key {ps : List (Str × β)} {k : Str} : ps.lookup k = none ↔ k ∉ ps.map (·.1) := by
  rw [List.lookup_eq_none_iff]
  constructor
  · intro h hm
    obtain ⟨p, hp, e⟩ := List.mem_map.1 hm
    have := h p hp
    simp at this; exact this e.symm
  · intro h p hp
    simp
    intro e
    exact h (List.mem_map.2 ⟨p, hp, e.symm⟩)
theorem lookup_mem {ps : List (Str × β)} (hn : (ps.map (·.1)).Nodup) {k : Str} {x : β} (h : (k, x) ∈ ps) : ps.lookup k = some x := by
  induction ps with
  | nil => cases h
  | cons p ps ih =>
    obtain ⟨k', v'⟩ := p
    rw [List.map_cons, List.nodup_cons] at hn
    rw [List.lookup_cons]
    rcases List.mem_cons.1 h with h | h
    · cases h; simp
    · have e : k ≠ k' := fun e => hn.1 (by rw [← e]; exact List.mem_map.2 ⟨_, h, rfl⟩)
      rw [show (k == k') = false by simpa using e]
      exact ih hn.2 h
theorem lookup_aput {ps : List (Str × β)} {k : Str} {v : β} (j : Str) : (aput ps k v).lookup j = if j = k then some v else ps.lookup j := by
  induction ps with
  | nil =>
    show List.lookup j [(k, v)] = _
    rw [List.lookup_cons]
    by_cases e : j = k
    · simp [e]
    · rw [show (j == k) = false by simpa using e, if_neg e]
  | cons p ps ih =>
    obtain ⟨k', v'⟩ := p
    unfold aput
    by_cases c : k = k'
    · rw [if_pos c]
      subst c
      rw [List.lookup_cons, List.lookup_cons]
      by_cases e : j = k
      · simp [e]
      · rw [show (j == k) = false by simpa using e, if_neg e]
    · rw [if_neg c, List.lookup_cons, List.lookup_cons, ih]
      by_cases e : j = k'
      · subst e
        simp
        intro h; exact absurd h.symm c
      · rw [show (j == k') = false by simpa using e]
theorem aput_new {ps : List (Str × β)} {k : Str} {v : β} (h : ps.lookup k = none) : aput ps k v = ps ++ [(k, v)] := by
  induction ps with
  | nil => rfl
  | cons p ps ih =>
    obtain ⟨k', v'⟩ := p
    rw [List.lookup_cons] at h
    by_cases e : k = k'
    · subst e; simp at h
    · rw [show (k == k') = false by simpa using e] at h
      unfold aput
      rw [if_neg e, ih h]; rfl
theorem aput_keys {ps : List (Str × β)} {k : Str} {v x : β} (h : ps.lookup k = some x) : (aput ps k v).map (·.1) = ps.map (·.1) := by
  induction ps with
  | nil => cases h
  | cons p ps ih =>
    obtain ⟨k', v'⟩ := p
    rw [List.lookup_cons] at h
    unfold aput
    by_cases e : k = k'
    · subst e; simp
    · rw [show (k == k') = false by simpa using e] at h
      rw [if_neg e, List.map_cons, List.map_cons, ih h]
theorem aput_nodup {ps : List (Str × β)} {k : Str} {v : β} (hn : (ps.map (·.1)).Nodup) : ((aput ps k v).map (·.1)).Nodup := by
  cases h : ps.lookup k with
  | some x => rw [aput_keys h]; exact hn
  | none =>
    rw [aput_new h, List.map_append, List.nodup_append]
    refine ⟨hn, by simp, ?_⟩
    intro x hx y hy e
    simp at hy
    exact lookup_key.1 h (by rw [← hy, ← e]; exact hx)
theorem mem_aput {ps : List (Str × β)} {k : Str} {v : β} (hn : (ps.map (·.1)).Nodup) {p : Str × β} (h : p ∈ aput ps k v) : p = (k, v) ∨ (p ∈ ps ∧ p.1 ≠ k) := by
  have h1 := lookup_mem (aput_nodup hn) (k := p.1) (x := p.2) h
  rw [lookup_aput] at h1
  split at h1
  · rename_i e; left; cases h1; exact Prod.ext e rfl
  · rename_i e; exact .inr ⟨mem_lookup h1, e⟩
theorem adel_sub (ps : List (Str × β)) (k : Str) : (adel ps k).Sublist ps := by
  induction ps with
  | nil => exact List.Sublist.refl _
  | cons p ps ih =>
    obtain ⟨k', v'⟩ := p
    unfold adel
    split
    · exact List.sublist_cons_self ..
    · exact ih.cons_cons _
theorem adel_nodup {ps : List (Str × β)} {k : Str} (hn : (ps.map (·.1)).Nodup) : ((adel ps k).map (·.1)).Nodup := List.Nodup.sublist ((adel_sub ps k).map _) hn
theorem adel_no {ps : List (Str × β)} {k : Str} (h : ps.lookup k = none) : adel ps k = ps := by
  induction ps with
  | nil => rfl
  | cons p ps ih =>
    obtain ⟨k', v'⟩ := p
    rw [List.lookup_cons] at h
    by_cases e : k = k'
    · subst e; simp at h
    · rw [show (k == k') = false by simpa using e] at h
      unfold adel
      rw [if_neg e, ih h]
theorem lookup_adel {ps : List (Str × β)} {k : Str} (hn : (ps.map (·.1)).Nodup) (j : Str) : (adel ps k).lookup j = if j = k then none else ps.lookup j := by
  induction ps with
  | nil => show none = _; split <;> rfl
  | cons p ps ih =>
    obtain ⟨k', v'⟩ := p
    rw [List.map_cons, List.nodup_cons] at hn
    unfold adel
    by_cases c : k = k'
    · rw [if_pos c]
      subst c
      by_cases e : j = k
      · subst e; rw [if_pos rfl]; exact lookup_key.2 hn.1
      · rw [if_neg e, List.lookup_cons, show (j == k) = false by simpa using e]
    · rw [if_neg c, List.lookup_cons, List.lookup_cons, ih hn.2]
      by_cases e : j = k'
      · subst e
        simp
        intro h; exact absurd h.symm c
      · rw [show (j == k') = false by simpa using e]
theorem mem_adel {ps : List (Str × β)} {k : Str} (hn : (ps.map (·.1)).Nodup) {p : Str × β} (h : p ∈ adel ps k) : p ∈ ps ∧ p.1 ≠ k := by
  have h1 := lookup_mem (adel_nodup hn) (k := p.1) (x := p.2) h
  rw [lookup_adel hn] at h1
  split at h1
  · cases h1
  · rename_i e; exact ⟨mem_lookup h1, e⟩
end

/-- a file: its bytes, how many of them are safe -/
structure Fl where
  b : Str
  safe : Nat
abbrev Fs := List (Str × Fl)
abbrev Ps := List (Str × Nat × Fl)
abbrev vI (x : Int) : Value := .int .i64 x
abbrev vU (c : UInt8) : Value := .int .u8 c.toNat
abbrev ptr (b : Nat) : Value := .pointer (some ⟨b, 0, none⟩)
def kvp (p : Str × Nat × Fl) : Str × Value := (p.1, ptr p.2.1)
def pfs (ps : Ps) : Fs := ps.map fun p => (p.1, p.2.2)
theorem kvp_put (ps : Ps) (k : Str) (b : Nat) (f : Fl) : mput (ps.map kvp) k (ptr b) = (aput ps k (b, f)).map kvp := by
  induction ps with
  | nil => rfl
  | cons p ps ih =>
    obtain ⟨k', b', f'⟩ := p
    rw [List.map_cons]
    unfold kvp mput aput
    split
    · rfl
    · rw [List.map_cons]; congr 1
theorem kvp_del (ps : Ps) (k : Str) : mdel (ps.map kvp) k = (adel ps k).map kvp := by
  induction ps with
  | nil => rfl
  | cons p ps ih =>
    obtain ⟨k', b', f'⟩ := p
    rw [List.map_cons]
    unfold kvp mdel adel
    split
    · rfl
    · rw [List.map_cons]; congr 1
theorem kvp_same {ps : Ps} {k : Str} {b : Nat} {f f' : Fl} (h : ps.lookup k = some (b, f)) : (aput ps k (b, f')).map kvp = ps.map kvp := by
  induction ps with
  | nil => cases h
  | cons p ps ih =>
    obtain ⟨k', b', g⟩ := p
    rw [List.lookup_cons] at h
    unfold aput
    by_cases e : k = k'
    · subst e; simp at h; obtain ⟨rfl, rfl⟩ := h; rw [if_pos rfl]; rfl
    · rw [show (k == k') = false by simpa using e] at h
      rw [if_neg e, List.map_cons, List.map_cons, ih h]
theorem kvp_lookup (ps : Ps) (k : Str) : (ps.map kvp).lookup k = (ps.lookup k).map fun x => ptr x.1 := by
  induction ps with
  | nil => rfl
  | cons p ps ih =>
    obtain ⟨k', b', g⟩ := p
    rw [List.map_cons]
    unfold kvp
    rw [List.lookup_cons, List.lookup_cons]
    by_cases e : k = k'
    · subst e; simp
    · rw [show (k == k') = false by simpa using e]; exact ih
theorem pfs_put (ps : Ps) (k : Str) (b : Nat) (f : Fl) : pfs (aput ps k (b, f)) = aput (pfs ps) k f := by
  induction ps with
  | nil => rfl
  | cons p ps ih =>
    obtain ⟨k', b', f'⟩ := p
    unfold pfs at ih ⊢
    rw [List.map_cons]
    unfold aput
    split
    · rfl
    · rw [List.map_cons]; congr 1
theorem pfs_del (ps : Ps) (k : Str) : pfs (adel ps k) = adel (pfs ps) k := by
  induction ps with
  | nil => rfl
  | cons p ps ih =>
    obtain ⟨k', b', f'⟩ := p
    unfold pfs at ih ⊢
    rw [List.map_cons]
    unfold adel
    split
    · rfl
    · rw [List.map_cons]; congr 1
theorem pfs_lookup (ps : Ps) (k : Str) : (pfs ps).lookup k = (ps.lookup k).map (·.2) := by
  induction ps with
  | nil => rfl
  | cons p ps ih =>
    obtain ⟨k', b', g⟩ := p
    unfold pfs at ih ⊢
    rw [List.map_cons, List.lookup_cons, List.lookup_cons]
    by_cases e : k = k'
    · subst e; simp
    · rw [show (k == k') = false by simpa using e]; exact ih
theorem pfs_keys (ps : Ps) : (pfs ps).map (·.1) = ps.map (·.1) := by unfold pfs; rw [List.map_map]; rfl

/-- a row that may have less room than its block -/
def RowC (tag : Nat → Nat) (σ : AH) (r : Nat) (e : TypeId) (s : Sl) (l : List Value) : Prop := ∃ c, Row tag σ r e ⟨s.a, s.len, c⟩ l ∧ s.len ≤ s.cap ∧ s.cap ≤ c
theorem _root_.Go.Proofs.YtfobjidchipdaaaGreatDoor.SL.Row.c {r : Nat} {e : TypeId} {s : Sl} {l : List Value} (h : Row tag σ r e s l) : RowC tag σ r e s l := ⟨s.cap, h, by have := SL.Row.capAt h; rw [SL.Row.len h]; exact this, Nat.le_refl _⟩
theorem RowC.len {r : Nat} {e : TypeId} {s : Sl} {l : List Value} (h : RowC tag σ r e s l) : s.len = l.length := by obtain ⟨c, h, _⟩ := h; exact h.len
theorem RowC.keep {R : List Nat} {r : Nat} {e : TypeId} {s : Sl} {l : List Value} (h : RowC tag σ r e s l) (k : Step R ro tag σ tag' σ') (hr : r ∉ R) : RowC tag' σ' r e s l := by
  obtain ⟨c, h, x⟩ := h; exact ⟨c, h.keep k hr, x⟩
theorem RowC.read {r : Nat} {e : TypeId} {s : Sl} {l : List Value} (h : RowC tag σ r e s l) (hs : Sep ro σ) : SL.Read ro σ s l := by
  obtain ⟨c, h, _⟩ := h; exact h.read hs
theorem awp_appendC {r : Nat} {e t : TypeId} {s s2 : Sl} {l l2 : List Value} {zv : Value} {bytes : Nat} {ty : TypeId} {Q : Value → AH → Prop} (h : RowC tag σ r e s l) (hs : Sep ro σ) (h2 : SL.Read ro σ s2 l2)
    (ht : P.underlying t = some (.slice e)) (hz : TyIs P e zv 1 bytes) (hzc : zv.cells = #[zv]) (hv : ∀ v ∈ l2, storable v = true) (hb : (l.length + l2.length) * bytes ≤ 140737488355328) (hb0 : 0 < bytes)
    (hK : ∀ s' tag' σ', (∀ R, s.len = s.cap ∨ r ∈ R → Step R ro tag σ tag' σ') → RowC tag' σ' r e s' (l ++ l2) → Q (Sl.v s') σ') :
    awp P ro (Builtin.append_ #[t, t] ty #[Sl.v s, Sl.v s2]) Q σ := by
  obtain ⟨i, hi, hiz, his, hib⟩ := hz
  have hz : TyIs P e zv 1 bytes := ⟨i, hi, hiz, his, hib⟩
  have g0 : (#[t, t] : Array TypeId)[0]? = some t := rfl
  have g1 : (#[t, t] : Array TypeId)[1]? = some t := rfl
  have g2 : (#[Value.slice s.a s.len s.cap, Value.slice s2.a s2.len s2.cap] : Array Value)[0]? = some (Value.slice s.a s.len s.cap) := rfl
  have g3 : (#[Value.slice s.a s.len s.cap, Value.slice s2.a s2.len s2.cap] : Array Value)[1]? = some (Value.slice s2.a s2.len s2.cap) := rfl
  have hln := h2.1
  have hld : ∀ {β : Type} (f : Array Value → Sem β) (Q : β → AH → Prop), awp P ro (f l2.toArray) Q σ → awp P ro (Sem.bind (Builtin.firstCells 1 s2.len (.slice s2.a s2.len s2.cap)) f) Q σ := by
    intro β f Q hf
    cases hsa : s2.a with
    | none =>
      rw [h2.2.1 hsa] at hf
      exact hf
    | some p =>
      rw [show Sem.bind (Builtin.firstCells 1 s2.len (.slice (some p) s2.len s2.cap)) f = (loadCells p (s2.len * 1)) >>= f from rfl, awp_bind, Nat.mul_one, hln]
      exact awp_loadCells l2 0 #[] (cellsAt_of 0 fun j v hj => by rw [Nat.zero_add]; exact h2.2.2 p hsa j v hj) (by simpa using hf)
  unfold Builtin.append_
  simp only [Sl.v, bind_def, pure_def, g0, g1, g2, g3]
  rw [awp_underlying ht]
  simp only []
  rw [awp_size hz]
  rw [awp_underlying ht]
  simp only [bind_pure', Builtin.lenOf, bind_def, pure_def, Bool.false_eq_true, if_false, Bool.not_false, if_true, false_or]
  split
  · rename_i hroom
    refine hld _ _ ?_
    have h' := h
    obtain ⟨cc, hR, hc1, hc2⟩ := h
    rcases hR with ⟨heq, rfl⟩ | ⟨b, cs, ha, htg, hbk, hln1, hcp, hle, hg⟩
    · obtain ⟨sa, sl, sc⟩ := s
      simp only [Sl.mk.injEq] at heq
      obtain ⟨rfl, rfl, rfl⟩ := heq
      simp only at hroom hc1 hc2
      have hsc : sc = 0 := by omega
      subst hsc
      have h0 : l2 = [] := List.eq_nil_of_length_eq_zero (by omega)
      subst h0
      have hs2 : s2.len = 0 := hln
      show Q (.slice none (0 + s2.len) 0) σ
      rw [hs2]
      exact hK ⟨none, 0, 0⟩ tag σ (fun _ _ => Step.refl hs) ⟨0, .inl ⟨rfl, rfl⟩, Nat.le_refl _, Nat.le_refl _⟩
    · simp only at ha hln1 hcp hle
      by_cases h0 : l2 = []
      · subst h0
        have hs2 : s2.len = 0 := hln
        simp only [ha]
        show Q (Value.slice (some ⟨b, 0, none⟩) (s.len + s2.len) s.cap) σ
        rw [hs2, Nat.add_zero]
        have := hK s tag σ (fun _ _ => Step.refl hs) (by rw [List.append_nil]; exact h')
        unfold Sl.v at this
        rw [ha] at this; exact this
      have hpos := List.length_pos_iff.2 h0
      simp only [ha]
      show awp P ro (storeCells (Addr.add ⟨b, 0, none⟩ (s.len * 1)) l2 >>= fun _ => Sem.pure (Value.slice (some ⟨b, 0, none⟩) (s.len + s2.len) s.cap)) Q σ
      rw [awp_bind, add_add, Nat.mul_one, Nat.zero_add]
      refine awp_storeCells l2 0 σ (stN_blk l2 cs 0 σ hbk (by omega) hv fun cs' c1 c2 c3 => ?_)
      show Q (Value.slice (some ⟨b, 0, none⟩) (s.len + s2.len) s.cap) _
      refine hK ⟨some ⟨b, 0, none⟩, s.len + s2.len, s.cap⟩ tag _ (fun R hR => (step_obj hs htg hbk).mono fun x hx => by rw [List.mem_singleton] at hx; rw [hx]; exact hR.resolve_left (by omega)) ⟨cc, .inr ⟨b, cs', rfl, htg, upd_same _ _ _, by simp [hln1, hln], by rw [c1]; exact hcp, by simp only; omega, fun i hi => ?_⟩, hroom, hc2⟩
      simp at hi
      rcases Nat.lt_or_ge i l.length with hh | hh
      · rw [c2 i (by omega), List.getElem?_append_left hh]; exact hg i hh
      · rw [List.getElem?_append_right hh]
        have := c3 (i - l.length) _ (List.getElem?_eq_getElem (by omega))
        rw [List.getElem?_eq_getElem (by omega), ← this]
        congr 1; omega
  · rename_i hroom
    rw [awp_typeInfo hi]
    rw [if_neg (by rw [hib]; omega)]
    rw [awp_typeInfo hi]
    have hl := h.len
    rw [if_neg (by rw [hib]; have := growslice_fits (need := s.len + s2.len) (old := s.cap) (bytes := bytes) (by omega) (by rw [hl, hln]; exact hb); omega)]
    refine awp_choose rfl (fun n => ?_)
    rw [awp_typeInfo hi]
    refine awp_askRoom ?_
    have hcut : s.len + s2.len ≤ (Question.appendCap (s.len + s2.len) s.cap e).cut n := by simp only [Question.cut]; omega
    generalize (Question.appendCap (s.len + s2.len) s.cap e).cut n = N at hcut
    obtain ⟨cc, hR, hc1, hc2⟩ := h
    refine Eq.mpr (congrArg (fun x => awp P ro (Sem.bind x _) Q σ) (show Builtin.firstCells 1 s.len (.slice s.a s.len s.cap) = Builtin.firstCells 1 s.len (.slice s.a s.len cc) from by cases s.a <;> rfl)) ?_
    refine awp_first hR hs ?_
    refine hld _ _ ?_
    rw [awp_zero hz]
    rw [hzc]
    show ∀ b, ro b = none → σ b = none → Q (Value.slice (some ⟨b, 0, none⟩) (s.len + s2.len) N) (upd σ b _)
    intro b hro hb
    refine hK ⟨some ⟨b, 0, none⟩, s.len + s2.len, N⟩ (setTag tag b r) _ (fun _ _ => Step.fresh hs hro hb) ⟨N, .inr ⟨b, _, rfl, by simp [setTag], upd_same _ _ _, by simp [hl, hln], ?_, hcut, fun i hi => ?_⟩, hcut, Nat.le_refl _⟩
    · simp [Builtin.zeroCells]; omega
    · simp at hi
      rw [Array.getElem?_append_left (by simp; omega)]
      simp

/-- a file in memory: its block and its bytes -/
def FileAt (tf : TypeId) (tag : Nat → Nat) (σ : AH) (r b : Nat) (f : Fl) : Prop :=
  ∃ s : Sl, Row tag σ (r + 64 * (2 * b + 2)) tf ⟨some ⟨b, 0, none⟩, 2, 2⟩ [Sl.v s, vI f.safe] ∧ RowC tag σ (r + 64 * (2 * b + 3)) 5 s (f.b.map vU)
theorem FileAt.keep {tf : TypeId} {R : List Nat} {r b : Nat} {f : Fl} (h : FileAt tf tag σ r b f) (k : Step R ro tag σ tag' σ') (h1 : r + 64 * (2 * b + 2) ∉ R) (h2 : r + 64 * (2 * b + 3) ∉ R) : FileAt tf tag' σ' r b f := by
  obtain ⟨s, a, c⟩ := h
  exact ⟨s, a.keep k h1, c.keep k h2⟩
/-- a disk in memory -/
structure DiskAt (td tf : TypeId) (tag : Nat → Nat) (σ : AH) (r T M : Nat) (cap : Int) (ps : Ps) : Prop where
  keys : (ps.map (·.1)).Nodup
  nd : (ps.map (·.2.1)).Nodup
  cell : Row tag σ r td ⟨some ⟨T, 0, none⟩, 2, 2⟩ [.map (some M), vI cap]
  map : MapIs tag σ (r + 64) M (ps.map kvp)
  nodes : ∀ p ∈ ps, FileAt tf tag σ r p.2.1 p.2.2
theorem DiskAt.keep {td tf : TypeId} {R : List Nat} {r T M : Nat} {cap : Int} {ps : Ps} (h : DiskAt td tf tag σ r T M cap ps) (k : Step R ro tag σ tag' σ') (hR : ∀ x ∈ R, x % 64 ≠ r % 64) : DiskAt td tf tag' σ' r T M cap ps :=
  ⟨h.keys, h.nd, h.cell.keep k fun m => hR _ m rfl, h.map.keep k fun m => hR _ m (by omega), fun p hp => (h.nodes p hp).keep k (fun m => hR _ m (by omega)) fun m => hR _ m (by omega)⟩
theorem inj_of {α γ : Type} {f : α → γ} : ∀ {l : List α}, (l.map f).Nodup → ∀ {x y : α}, x ∈ l → y ∈ l → f x = f y → x = y := by
  intro l
  induction l with
  | nil => intro _ x y h; cases h
  | cons a l ih =>
    intro hn x y hx hy e
    rw [List.map_cons, List.nodup_cons] at hn
    rcases List.mem_cons.1 hx with e1 | hx'
    · rcases List.mem_cons.1 hy with e2 | hy'
      · rw [e1, e2]
      · exact absurd (by rw [← e1, e]; exact List.mem_map.2 ⟨y, hy', rfl⟩) hn.1
    · rcases List.mem_cons.1 hy with e2 | hy'
      · exact absurd (by rw [← e2, ← e]; exact List.mem_map.2 ⟨x, hx', rfl⟩) hn.1
      · exact ih hn.2 hx' hy' e
/-- a file changes where it stands -/
theorem DiskAt.write {td tf : TypeId} {R : List Nat} {r T M b : Nat} {cap : Int} {ps : Ps} {k : Str} {f f' : Fl} (h : DiskAt td tf tag σ r T M cap ps) (hk : ps.lookup k = some (b, f)) (st : Step R ro tag σ tag' σ')
    (hR : ∀ x ∈ R, x = r + 64 * (2 * b + 2) ∨ x = r + 64 * (2 * b + 3)) (hf : FileAt tf tag' σ' r b f') : DiskAt td tf tag' σ' r T M cap (aput ps k (b, f')) := by
  have hm := mem_lookup hk
  refine ⟨aput_nodup h.keys, ?_, h.cell.keep st fun m => ?_, ?_, fun p hp => ?_⟩
  · have e : (aput ps k (b, f')).map (·.2.1) = ps.map (·.2.1) := by
      clear h hm
      induction ps with
      | nil => cases hk
      | cons p ps ih =>
        obtain ⟨k', b', g⟩ := p
        rw [List.lookup_cons] at hk
        unfold aput
        by_cases e : k = k'
        · subst e; simp at hk; obtain ⟨rfl, rfl⟩ := hk; rw [if_pos rfl]; rfl
        · rw [show (k == k') = false by simpa using e] at hk
          rw [if_neg e, List.map_cons, List.map_cons, ih hk]
    rw [e]; exact h.nd
  · have := hR _ m; omega
  · rw [kvp_same hk]; exact h.map.keep st fun m => by have := hR _ m; omega
  · rcases mem_aput h.keys hp with rfl | ⟨hp, hne⟩
    · exact hf
    · have hb : p.2.1 ≠ b := fun e => hne (by have := inj_of h.nd hp hm e; rw [this])
      exact (h.nodes p hp).keep st (fun m => by have := hR _ m; omega) fun m => by have := hR _ m; omega
theorem nodup_put {ps : Ps} {k : Str} {b : Nat} {f : Fl} : (ps.map (·.2.1)).Nodup → (∀ p ∈ ps, p.2.1 ≠ b) → ((aput ps k (b, f)).map (·.2.1)).Nodup := by
  induction ps with
  | nil => intro _ _; simp [aput]
  | cons p ps ih =>
    intro hn hb
    obtain ⟨k', b', g⟩ := p
    rw [List.map_cons, List.nodup_cons] at hn
    unfold aput
    split
    · rw [List.map_cons, List.nodup_cons]
      refine ⟨fun hm => ?_, hn.2⟩
      obtain ⟨p, hp, e⟩ := List.mem_map.1 hm
      exact hb p (by simp [hp]) e
    · rw [List.map_cons, List.nodup_cons]
      refine ⟨fun hm => ?_, ih hn.2 fun p hp => hb p (by simp [hp])⟩
      have sub : ∀ (l : Ps) x, x ∈ (aput l k (b, f)).map (·.2.1) → x = b ∨ x ∈ l.map (·.2.1) := by
        intro l
        induction l with
        | nil => intro x hx; simp [aput] at hx; exact .inl hx
        | cons q l ih =>
          intro x hx
          obtain ⟨k2, b2, g2⟩ := q
          unfold aput at hx
          split at hx
          · simp only [List.map_cons, List.mem_cons] at hx ⊢
            rcases hx with h | h
            · exact .inl h
            · exact .inr (.inr h)
          · simp only [List.map_cons, List.mem_cons] at hx ⊢
            rcases hx with h | h
            · exact .inr (.inl h)
            · rcases ih x h with h | h
              · exact .inl h
              · exact .inr (.inr h)
      rcases sub ps _ hm with h | h
      · exact hb (k', b', g) (by simp) h
      · exact hn.1 h
/-- a file under a name -/
theorem DiskAt.put {td tf : TypeId} {R : List Nat} {r T M b : Nat} {cap : Int} {ps : Ps} {k : Str} {f : Fl} (h : DiskAt td tf tag σ r T M cap ps) (hnb : ∀ p ∈ ps, p.2.1 ≠ b) (st : Step R ro tag σ tag' σ')
    (hR : ∀ x ∈ R, x = r + 64 ∨ x = r + 64 * (2 * b + 2) ∨ x = r + 64 * (2 * b + 3)) (hf : FileAt tf tag' σ' r b f) (hm : MapIs tag' σ' (r + 64) M (mput (ps.map kvp) k (ptr b))) : DiskAt td tf tag' σ' r T M cap (aput ps k (b, f)) := by
  refine ⟨aput_nodup h.keys, nodup_put h.nd hnb, h.cell.keep st fun m => ?_, ?_, fun p hp => ?_⟩
  · have := hR _ m; omega
  · rw [kvp_put ps k b f] at hm; exact hm
  · rcases mem_aput h.keys hp with rfl | ⟨hp, hne⟩
    · exact hf
    · have hb := hnb p hp
      exact (h.nodes p hp).keep st (fun m => by have := hR _ m; omega) fun m => by have := hR _ m; omega
theorem DiskAt.free {td tf : TypeId} {r T M b : Nat} {cap : Int} {ps : Ps} (h : DiskAt td tf tag σ r T M cap ps) (hb : σ b = none) : ∀ p ∈ ps, p.2.1 ≠ b := fun p hp e => by
  obtain ⟨s, hr, _⟩ := h.nodes p hp
  obtain ⟨_, o, ho⟩ := hr.tagOf
  rw [e, hb] at ho; cases ho
/-- a file goes -/
theorem DiskAt.rem {td tf : TypeId} {R : List Nat} {r T M : Nat} {cap : Int} {ps : Ps} {k : Str} (h : DiskAt td tf tag σ r T M cap ps) (st : Step R ro tag σ tag' σ') (hR : ∀ x ∈ R, x = r + 64)
    (hm : MapIs tag' σ' (r + 64) M (mdel (ps.map kvp) k)) : DiskAt td tf tag' σ' r T M cap (adel ps k) := by
  refine ⟨adel_nodup h.keys, List.Nodup.sublist ((adel_sub ps k).map _) h.nd, h.cell.keep st fun m => ?_, ?_, fun p hp => ?_⟩
  · have := hR _ m; omega
  · rw [kvp_del] at hm; exact hm
  · exact (h.nodes p ((adel_sub ps k).subset hp)).keep st (fun m => by have := hR _ m; omega) fun m => by have := hR _ m; omega
end Go.Proofs.YtfobjidchipdaaaGreatDoor.Dk

/- A range over a map by an invariant: the pairs come in some order. Generic over any program. -/
namespace Go.Proofs.YtfobjidchipdaaaGreatDoor.SL
open Go
set_option linter.unusedSimpArgs false
set_option linter.unusedVariables false
variable {P : Program} {B : World} {ro σ σ' : AH} {tag tag' : Nat → Nat}
def kvE (e : MapEntry) : Str × Value := (match e.key with | .string s => L s | _ => [], e.val)
theorem kvE_map : ∀ {l : List MapEntry} {m : KV}, l.map entV = m.map pairV → l.map kvE = m ∧ ∀ e ∈ l, e.key = .string (S (kvE e).1) := by
  intro l
  induction l with
  | nil => intro m h; cases m with
    | nil => exact ⟨rfl, fun e h => by cases h⟩
    | cons p m => cases h
  | cons e l ih =>
    intro m h
    cases m with
    | nil => cases h
    | cons p m =>
      simp only [List.map_cons, List.cons.injEq] at h
      obtain ⟨h1, h2⟩ := h
      obtain ⟨i1, i2⟩ := ih h2
      have hk : e.key = .string (S p.1) := congrArg Prod.fst h1
      have hv : e.val = p.2 := congrArg Prod.snd h1
      have he : kvE e = p := by unfold kvE; rw [hk, hv]; simp
      refine ⟨by rw [List.map_cons, he, i1], fun x hx => ?_⟩
      rcases List.mem_cons.1 hx with rfl | hx
      · rw [he]; exact hk
      · exact i2 x hx
theorem map_loop {T : Type} {F : Addr → T → AH → (T → AH → Prop) → Prop} {t kt et ty : TypeId} {r M : Nat} {m : KV} {R : List Nat} {s0 : T} (ht : P.underlying t = some (.map kt et)) (hm : MapIs tag σ r M m) (hs : Sep ro σ) (hR : r ∉ R) (h0 : 0 ∉ R) (hr0 : r ≠ 0)
    (J : KV → T → (Nat → Nat) → AH → Prop) {E : T → AH → Prop} {G : T → Value → Value → AH → (T → AH → Prop) → Prop}
    (hF : ∀ p s σ Y, awp P ro (Instr.next (.pointer (some p)) false ty) (fun v σ => (v = .tuple #[.bool false] ∧ E s σ) ∨ (∃ (a b : Value), v = .tuple #[.bool true, a, b] ∧ awp P ro (Instr.entry (.pointer (some p))) (fun v σ => ∃ a b, v = .tuple #[a, b] ∧ G s a b σ Y) σ)) σ → F p s σ Y)
    (hJ : ∀ d s tag σ tag' σ', J d s tag σ → Step [0] ro tag σ tag' σ' → J d s tag' σ')
    (hend : ∀ d s tag σ, d.Perm m → SL.Sep ro σ → J d s tag σ → E s σ)
    (hstep : ∀ d p q s tag σ Y, (d ++ p :: q).Perm m → SL.Sep ro σ → J d s tag σ → MapIs tag σ r M m → (∀ s' tag' σ', Step R ro tag σ tag' σ' → J (d ++ [p]) s' tag' σ' → Y s' σ') → G s (.string (S p.1)) p.2 σ Y)
    (h : J [] s0 tag σ) : awp P ro (Instr.range t (.map (some M))) (fun v σ => ∃ p : Addr, v = .pointer (some p) ∧ lfpD (F p) s0 σ) σ := by
  refine awp_range_map ht hm hs fun es clock x hM hes hbn hro hx => ?_
  refine ⟨_, rfl, ?_⟩
  obtain ⟨k1, k2⟩ := kvE_map hes
  have hxM : x ≠ M := fun e => by rw [e, hM] at hx; cases hx
  suffices ∀ (n : Nat) (D rest : List MapEntry) (seen : Array Nat) (s : T) (tag1 : Nat → Nat) (σ1 : AH), rest.length = n → (D ++ rest).Perm es.toList → (∀ e ∈ D, seen.contains e.born = true) → (∀ e ∈ rest, seen.contains e.born = false) →
      SL.Sep ro σ1 → tag1 x = 0 → σ1 x = some (.mapIter (some M) clock seen clock) → tag1 M = r → σ1 M = some (.map es clock) → J (D.map kvE) s tag1 σ1 → lfpD (F ⟨x, 0, none⟩) s σ1 from by
    have st1 : Step [0] ro tag σ (setTag tag x 0) (upd σ x (.mapIter (some M) clock #[] clock)) := Step.fresh hs hro hx
    exact this _ [] es.toList #[] s0 _ _ rfl (List.Perm.refl _) (fun e h => by cases h) (fun e _ => by simp) st1.sep (by simp [setTag]) (upd_same _ _ _) (by simp [setTag, hxM.symm]; exact hm.tg) (by rw [upd_ne _ _ hxM.symm]; exact hM) (hJ _ _ _ _ _ _ h st1)
  intro n
  induction n with
  | zero =>
    intro D rest seen s tag1 σ1 hn hp hD hrest hs1 htx hit htm hmp hA
    obtain rfl := List.length_eq_zero_iff.1 hn
    rw [List.append_nil] at hp
    refine lfpD.intro (hF _ _ _ _ ?_)
    refine awp_next_map hit hmp hs1 hbn (fun hall => .inl ⟨rfl, hend _ s tag1 σ1 ?_ hs1 hA⟩) fun e he hne => ?_
    · have := hp.map kvE; rwa [k1] at this
    · have := hD e (hp.mem_iff.2 he); rw [hne] at this; cases this
  | succ n ih =>
    intro D rest seen s tag1 σ1 hn hp hD hrest hs1 htx hit htm hmp hA
    refine lfpD.intro (hF _ _ _ _ ?_)
    refine awp_next_map hit hmp hs1 hbn (fun hall => ?_) fun e he hne => ?_
    · exfalso
      cases rest with
      | nil => simp at hn
      | cons e rest =>
        have h1 := hall e (hp.mem_iff.1 (by simp))
        have h2 := hrest e (by simp)
        rw [h1] at h2; cases h2
    · refine .inr ⟨_, _, rfl, ?_⟩
      have st2 : Step [0] ro tag1 σ1 tag1 (upd σ1 x (.mapIter (some M) clock (seen.push e.born) clock)) := step_obj hs1 htx hit
      have hmp2 : upd σ1 x (.mapIter (some M) clock (seen.push e.born) clock) M = some (.map es clock) := by rw [upd_ne _ _ hxM.symm]; exact hmp
      refine awp_entry_map (upd_same _ _ _) hmp2 st2.sep hbn he ?_
      refine ⟨e.key, e.val, rfl, ?_⟩
      have hin : e ∈ rest := by
        rcases List.mem_append.1 (hp.mem_iff.2 he) with h | h
        · have := hD e h; rw [hne] at this; cases this
        · exact h
      obtain ⟨a, b, rfl⟩ := List.append_of_mem hin
      have hp2 : (D ++ e :: (a ++ b)).Perm es.toList := (List.Perm.append_left D List.perm_middle.symm).trans hp
      rw [k2 e he, show e.val = (kvE e).2 from rfl]
      have hnd : ((D ++ e :: (a ++ b)).map (·.born)).Nodup := (hp2.map _).nodup_iff.2 hbn.nd
      refine hstep (D.map kvE) (kvE e) ((a ++ b).map kvE) s tag1 _ _ ?_ st2.sep (hJ _ _ _ _ _ _ hA st2) ⟨htm, es, clock, hmp2, hes, hbn⟩ fun s' tag2 σ2 st3 hJ2 => ?_
      · have := hp2.map kvE
        rw [k1] at this
        simpa using this
      · have e1 := st3.keep x _ (upd_same _ _ _) (by rw [htx]; exact h0)
        have e2 := st3.keep M _ hmp2 (by rw [htm]; exact hR)
        refine ih (D ++ [e]) (a ++ b) (seen.push e.born) s' tag2 σ2 (by simp at hn ⊢; omega) (by simpa using hp2) (fun y hy => ?_) (fun y hy => ?_) st3.sep (e1.1.trans htx) e1.2 (e2.1.trans htm) e2.2 (by simpa using hJ2)
        · rcases List.mem_append.1 hy with h | h
          · have := hD y h; simp at this ⊢; exact .inl this
          · rw [List.mem_singleton.1 h]; simp
        · have h1 : seen.contains y.born = false := hrest y (by simp at hy ⊢; rcases hy with h | h <;> simp [h])
          have h2 : y.born ≠ e.born := by
            rw [List.map_append, List.map_cons, List.nodup_append] at hnd
            have := (List.nodup_cons.1 hnd.2.1).1
            intro hh
            exact this (by rw [← hh]; exact List.mem_map.2 ⟨y, hy, rfl⟩)
          rw [← Bool.not_eq_true] at h1 ⊢
          simp at h1 ⊢
          exact ⟨h1, h2⟩
end Go.Proofs.YtfobjidchipdaaaGreatDoor.SL
