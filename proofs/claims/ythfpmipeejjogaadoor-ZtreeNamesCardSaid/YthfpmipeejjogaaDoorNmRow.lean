/- Sequential nodes of one name get names that rise, each once, whatever is deleted between: for every name and every list. No condition beside what the card says of the package variables, which are as the program's text lays them. -/
import Derived.SevenTiedAt
import Derived.HandedShaped
import Derived.LaidMore
import Derived.Lay
import Derived.Stop.Joined
import Derived.Test.YthfpmipeejjogaaDoorRows
import Derived.Test.YthfpmipeejjogaaDoorCards
import Derived.Test.YthfpmipeejjogaaDoorTie
import Derived.Test.YthfpmipeejjogaaDoorXE
namespace Go.Proofs.YthfpmipeejjogaaDoor.Zt
open Go Go.Proofs.YthfpmipeejjogaaDoor.SL Go.ChangeShapes Go.WideShapes Go.ChangeAt Go.RowKit
set_option linter.unusedVariables false

theorem wrap {H : Type} {enc : TypeId × Value → H} {a : Assume} {C : Checked} {os : Os} {f : FuncId} {fn : Func} {s : ChangeSpec} {conds : List PathCond} {apart fresh handsOn again : Bool} {X : World → Array Value → Prop}
    (hX : ∀ (w w' : World) (args : Array Value), w.heap = w'.heap → X w args → X w' args)
    (own : ownKnob C.prog.godebug = none) (started : os.Started) (noInit : C.prog.inits.idxOf? f = none) (hfn : C.prog.funcs[f]? = some fn)
    (witness : ∃ (w : World) (tape : Tape) (i : Input), w.os = os ∧ (w.forCall tape i).Shaped C.prog ∧ i.vars = [] ∧ Input.okWide C.prog (w.forCall tape i) .any w.heap.size f i ∧
      ((s.pre enc C.prog fn conds apart (w.forCall tape i).memory i.args ∧ X (w.forCall tape i).memory i.args) ∧ sizedMet enc C.prog fn (OpenSpec.ofChange s) apart (w.forCall tape i).memory i.args) ∧ a.holds C.prog (lone (Frame.enter C.prog f i.args .normal) [] (w.forCall tape i)))
    (contract : ∀ (W : World) (base : Nat) (args : Array Value) (ds gs : List (DataW H)) (before : List MemPlace),
      (∀ (j : Nat) t v, fn.params[j]? = some t → args[j]? = some v → Value.okWide C.prog W .any base t v) →
      DataW.Whole enc C.prog fn.params.toList s.vars apart W args.toList ds gs before →
      conds.all (PathCond.test C.prog ⟨fn.params.toList, ds, s.plain.varTypes C.prog, gs⟩) = true →
      (DataW.weightsEach C.prog (fn.params.toList ++ s.plain.varTypes C.prog) (ds ++ gs)).all (· ≤ reachBytes) = true → X W args → W.ShapedOpen C.prog →
      a.holds C.prog (lone (Frame.enter C.prog f args .normal) [] W) →
      Calls C.prog f args W fun e W' => ∃ v, e = .returned v ∧ s.post enc C.prog fn apart fresh handsOn again W args v W') :
    ReturnsInHanded a C os f .any (fun w args => (s.pre enc C.prog fn conds apart w args ∧ X w args) ∧ sizedMet enc C.prog fn (OpenSpec.ofChange s) apart w args) (s.post enc C.prog fn apart fresh handsOn again) := by
  refine returnsInHanded_of_calls own started noInit witness ?_
  intro w tape i _ hsh _ hok hpre hholds
  obtain ⟨_, _, _, fn', hfn', _, _, _, _, hval⟩ := hok
  have e : fn' = fn := Option.some.inj (hfn'.symm.trans hfn)
  subst e
  obtain ⟨⟨⟨ds, gs, before, hw, hc⟩, hx⟩, hz⟩ := hpre
  have hw' := DataW.Whole.of_heap (w' := w.forCall tape i) (by rfl) hw
  refine (contract (w.forCall tape i) w.heap.size i.args ds gs before hval hw' hc (hz.weights hw) (hX _ _ _ (by rfl) hx) hsh hholds).mono fun e W' ⟨v, he, hp⟩ => ?_
  subst he
  exact ChangeSpec.post_blind hp

theorem var_sees {W w : World} (h : ∀ b o, all W b = some o → w.heap[b]? = some o) {n : String} {cs : Array Value} (hv : W.var? Tryd.prog n = some cs) : w.var? Tryd.prog n = some cs := by
  unfold World.var? at hv ⊢
  obtain ⟨g, hg, hx⟩ := Option.bind_eq_some_iff.1 hv
  rw [hg]
  show (match w.heap[g]? with | some (.cells cs _ _) => some cs | _ => none) = _
  cases hh : W.heap[g]? with
  | none => rw [hh] at hx; cases hx
  | some o => rw [h g o hh]; rw [hh] at hx; exact hx
theorem n4 : Tryd.prog.underlying 4 = some .bool := by kernel_rfl
theorem n22 : Tryd.prog.underlying 22 = some (.slice 4) := by kernel_rfl
theorem c4 : Tryd.prog.cellsOf 4 = 1 := by kernel_rfl
theorem trod_lt' {H : Type} {enc : TypeId × Value → H} {W : World} {t : TypeId} {v : Value} {d : DataW H} {p : List MemPlace} (h : DataW.Trod enc Tryd.prog W 0 (fun _ => true) true t v d p) : ∀ x ∈ p, x.block < W.heap.size := by
  obtain ⟨m, hm⟩ := h; exact DataW.trod_lt m _ _ _ hm
theorem bools_of {W : World} {H : Type} {enc : TypeId × Value → H} {a : Option Addr} {len cap : Nat} (h : SL.Arg Tryd.prog W H enc 22 [.slice a len cap]) : ∃ gs : List Bool, SL.Read (all W) (fun _ => none) ⟨a, len, cap⟩ (gs.map Value.bool) := by
  rcases h.slice n22 with ⟨rfl, rfl, rfl⟩ | ⟨x, rfl, hl, hb, hel⟩
  · exact ⟨[], rfl, fun _ => rfl, fun p h => by cases h⟩
  · rw [c4] at hel
    have key : ∀ j : Nat, ∃ c : Bool, j < len → W.cell? (x.add j) = some (.bool c) := fun j => by
      by_cases hj : j < len
      · obtain ⟨cs, h1, h2, h3⟩ := hel j hj
        match cs, h1 with
        | [v], _ =>
          obtain ⟨c, rfl⟩ := SL.Arg.bool n4 h3
          have := h2 0 (by decide)
          rw [Nat.mul_one, add_zero] at this
          exact ⟨c, fun _ => this⟩
      · exact ⟨false, fun h => absurd h hj⟩
    obtain ⟨f, hf⟩ := Classical.axiomOfChoice key
    refine ⟨(List.range len).map f, by simp, (fun h => by cases h), fun p hp i v hv => ?_⟩
    cases hp
    have hi : i < len := by
      rcases Nat.lt_or_ge i len with h | h
      · exact h
      · rw [List.getElem?_eq_none (by simpa using h)] at hv; cases hv
    rw [List.getElem?_map, List.getElem?_map, List.getElem?_range hi] at hv
    cases hv
    exact all_cell _ (hf i hi)
abbrev LAID : List (String × DataW Unit) := Rows.ztreeNamesRow.laid
theorem gPow : Tryd.prog.globalNamed "internal/strconv.uint64pow10" = some 1 := by kernel_rfl
theorem eTab : Tryd.prog.underlying 73 = some (.int .u64) := by kernel_rfl
theorem tPow : (Tryd.prog.globals[1]?).map (·.type) = some 90 := by kernel_rfl
theorem glob_of {W : World} (hsh : W.ShapedOpen Tryd.prog) (hL : laidMetH Tryd.prog LAID W) : Pa.Glob (all W) := by
  rw [MakeChecks.laidMetH_plain _ _ _ (by kernel_rfl)] at hL
  obtain ⟨ps, ⟨g0, t0, cs0, f0, p0, q0, hg0, ht0, hv0, hd0, ⟨g1, t1, cs1, f1, p1, q1, hg1, ht1, hv1, hd1, ⟨g2, t2, cs2, f2, p2, q2, hg2, ht2, hv2, hd2, _, _⟩, _⟩, _⟩, _, _⟩ := hL
  have htab : Lib.TabIs Tryd.prog W "internal/strconv.uint64pow10" .u64 Lib.pow10Tab := by
    obtain rfl := Option.some.inj (gPow.symm.trans hg2)
    obtain rfl := Option.some.inj (tPow.symm.trans ht2)
    unfold Lib.TabIs
    have hd2' : DataW.trod _ Tryd.prog W 0 _ false f2 90 cs2.toList = some (Lib.tabData .u64 Lib.pow10Tab, p2) := hd2
    rw [hv2, ← Lib.cells_of_tab Tryd.underlying90 eTab (by kernel_rfl) (by kernel_rfl) hd2']
  refine ⟨?_, fun w hw => var_sees hw htab⟩
  obtain ⟨m, hm⟩ := Tryd.laysM146.s1_3 W hsh
  have hm : W.cell? ⟨0, 0, none⟩ = some (.int .i64 m) := hm
  rw [cell?_eq] at hm
  cases hh : W.heap[0]? with
  | none => simp only at hm; rw [hh] at hm; cases hm
  | some o => simp only at hm; rw [hh] at hm; exact ⟨m, o, hh, hm⟩

theorem own : ownKnob Tryd.prog.godebug = none := by kernel_rfl
theorem laidOut : laidOutB Tryd.prog = true := by kernel_rfl
set_option maxRecDepth 100000 in
theorem lifted (os : Os) (started : os.Started) (H : Type) (enc : TypeId × Value → H) :
    ReturnsInHanded {} Tryd.checked os 3 .any (fun w args => (Rows.ztreeNamesSpec.pre enc Tryd.prog Tryd.f3 [] false w args ∧ laidMetH Tryd.prog LAID w) ∧ sizedMet enc Tryd.prog Tryd.f3 (OpenSpec.ofChange Rows.ztreeNamesSpec) false w args)
      (Rows.ztreeNamesSpec.post enc Tryd.prog Tryd.f3 false true false false) := by
  refine wrap (C := Tryd.checked) (X := fun w _ => laidMetH Tryd.prog LAID w) (fun _ _ _ hh h => h.of_heap hh) own started (by kernel_rfl) Tryd.func3
    (ChangeSpec.witness_shaped (enc := enc) (C := Tryd.checked) (os := os) (X := fun w _ => laidMetH Tryd.prog LAID w) false (World.laidAll Tryd.prog os LAID) #[.string ByteArray.empty, .slice none 0 0] 8 (World.laidAll_os _ _ _)
      (World.shaped_of_ZipB (by kernel_rfl) (by kernel_rfl)) (by kernel_rfl) (by kernel_rfl) (by kernel_rfl)
      (by rw [MakeChecks.laidMetH_plain _ _ _ (by kernel_rfl)]; exact laidMet_laidAll _ (by kernel_rfl) (by kernel_rfl))) ?_
  intro W base args ds gs before hval0 hW _ hsz0 hL hsh _
  have hval : ∀ (j : Nat) t v, Tryd.f3.params[j]? = some t → args[j]? = some v → Value.okWide Tryd.prog W .any base t v := hval0
  have hsz : (DataW.weightsEach Tryd.prog (Tryd.f3.params.toList ++ Rows.ztreeNamesSpec.plain.varTypes Tryd.prog) (ds ++ gs)).all (· ≤ reachBytes) = true := hsz0
  have hW' := hW
  obtain ⟨p, q, hA0, hV, rfl, hfz, hnd⟩ := hW
  have hA : DataW.TrodAll enc Tryd.prog W 0 (fun _ => true) true Tryd.f3.params.toList args.toList ds p := hA0
  rw [Tryd.params3] at hA hval hsz
  obtain ⟨v0, vs0, d0, ds0, p0, q0, hargs, rfl, rfl, h0, r0⟩ := trodAll_cons hA
  obtain ⟨v1, vs1, d1, ds1, p1, q1, rfl, rfl, rfl, h1, r1⟩ := trodAll_cons r0
  obtain ⟨rfl, rfl, rfl⟩ := trodAll_nil r1
  obtain rfl : args = #[v0, v1] := by cases args; simp_all
  obtain ⟨rfl, rfl⟩ := trodVars_none hV
  obtain ⟨s, rfl⟩ := okWide_string Zt.u9 (hval 0 9 v0 rfl rfl)
  obtain ⟨a1, len1, cap1, rfl⟩ := okWide_slice Zt.n22 (hval 1 22 v1 rfl rfl)
  have harg : SL.Arg Tryd.prog W H enc 22 [.slice a1 len1 cap1] := by
    obtain ⟨m, hm⟩ := h1
    exact ⟨m, d1, p1, hm, SL.weightsEach_get (i := 1) rfl rfl hsz⟩
  obtain ⟨gs, hG⟩ := bools_of harg
  have hc : SL.ACalls Tryd.prog W (all W) 3 #[.string s, Sl.v ⟨a1, len1, cap1⟩] (fun _ => none) fun v _ => v = .bool true :=
    SL.ACalls.mono (names_ok (B := W) (σ := fun _ => none) (glob_of hsh hL) hG) fun v σ ⟨r, hv, hr⟩ => by rw [hv, hr]
  refine (calls_of hc).mono fun e W' ⟨⟨v, he, hv⟩, bel⟩ => ?_
  subst hv
  subst he
  exact ⟨_, rfl, _, _, _, [], _, [], hW', trodAll_mk1 (shut_bool Zt.n4 _), (trodAll_cons_mk (Below.trod laidOut (by kernel_rfl) (of_decide_eq_true (by kernel_rfl)) h0 bel (trod_lt' h0)) (trodAll_cons_mk (Below.trod laidOut (by kernel_rfl) (of_decide_eq_true (by kernel_rfl)) h1 bel (trod_lt' h1)) trodAll_mk0)), rfl, bel.frame _, fun h => by cases h⟩
theorem over : Rows.ztreeNamesRow.holds Tryd.pinned (OpenSpec.ofChange Rows.ztreeNamesSpec) :=
  OpenClaim.holds_of_wide 3 Tryd.f3 rfl rfl rfl rfl rfl rfl rfl ⟨rfl, rfl, rfl, rfl, rfl⟩ rfl rfl rfl rfl rfl (by kernel_rfl) Tryd.func3 (by kernel_rfl)
    (of_decide_eq_true (by kernel_rfl)) (by unfold Func.isWrapper; first | (rw [if_pos (by decide +kernel)]; kernel_rfl) | (rw [if_neg (by decide +kernel)]; exact ⟨rfl, rfl⟩))
    (fun os started H enc _ => lifted os started H enc)
end Go.Proofs.YthfpmipeejjogaaDoor.Zt
namespace Go.Proofs.YthfpmipeejjogaaDoor
open Go
/-- The card, for the claim. -/
theorem ztreeNames_holds : Rows.ZtreeNamesCardSaid :=
  Claim7.holds_tied_plain_at .later [] [.data, .data, .data, .data, .pinned] true (true, "1842d8c37e396c29bef211a41ac0ace5755934ccb3ae598328fd11e1c719355c") false
    Zt.over (fun _ h => by cases h) (by kernel_rfl) (fun _ h => by cases h) ztreeNames_row_tie rfl ⟨rfl, rfl⟩ (by kernel_rfl) rfl
    (fun f fn hf hfn => by
      obtain rfl : f = 3 := Option.some.inj ((show Tryd.prog.funcNamed "althing/althinglaw07.ZtreeNames" = some 3 by kernel_rfl).symm.trans hf) |>.symm
      obtain rfl : fn = Tryd.f3 := (Option.some.inj (Tryd.func3.symm.trans hfn)).symm
      exact ⟨by kernel_rfl, fun j t ht => by
        rw [Tryd.params3] at ht
        have hm : t ∈ [9, 22] := by simpa using Array.mem_of_getElem? ht
        have hall : ([9, 22].all fun u => !Tryd.prog.wantsStandIn u) = true := by kernel_rfl
        exact (show Tryd.prog.wantsStandIn t = false by simpa using List.all_eq_true.1 hall t hm)⟩)
    (by kernel_rfl)
end Go.Proofs.YthfpmipeejjogaaDoor
#print axioms Go.Proofs.YthfpmipeejjogaaDoor.ztreeNames_holds
