/- Chunks come back in any order, and as often as one wants, and put together again they are the snapshot; and how many are missing is said right: for every input. No condition beside what the card says of the package variables, which are as the program's text lays them. -/
import Derived.SevenTiedAt
import Derived.Test.YtfobjidchipdaaaGreatDoorRows
import Derived.Test.YtfobjidchipdaaaGreatDoorCards
import Derived.Test.YtfobjidchipdaaaGreatDoorTie
import Derived.Test.YtfobjidchipdaaaGreatDoorXL
namespace Go.Proofs.YtfobjidchipdaaaGreatDoor.Zt
open Go Go.Proofs.YtfobjidchipdaaaGreatDoor.SL Go.ChangeShapes Go.WideShapes Go.ChangeAt Go.RowKit
set_option linter.unusedVariables false
theorem u65 : ∃ fs, Tryz.prog.underlying 65 = some (.struct fs) ∧ fs.toList.map (fun f => (f.type, f.offset)) = [(3, 0), (22, 1), (3, 2), (23, 3)] := ⟨_, Tryz.underlying65, rfl⟩
theorem c65 : Tryz.prog.cellsOf 65 = 4 := by kernel_rfl
set_option maxRecDepth 100000 in
theorem order_of {W : World} {H : Type} {enc : TypeId × Value → H} {cs : List Value} (h : SL.Arg Tryz.prog W H enc 65 cs) :
    ∃ (n1 n2 : Int) (s1 s4 : Sl) (d : Str) (ws : List Int), cs = [vI n1, Sl.v s1, vI n2, Sl.v s4] ∧ SL.Read (all W) (fun _ => none) s1 (d.map vU) ∧ SL.Read (all W) (fun _ => none) s4 (ws.map vI) ∧ d.length ≤ 140737488351232 ∧ ws.length ≤ 17592186043904 := by
  obtain ⟨fs, hu, hfs⟩ := u65
  obtain ⟨hl, hel⟩ := h.struct hu
  rw [c65] at hl
  match cs, hl with
  | [v0, v1, v2, v3], _ =>
    have get : ∀ i t o, ([(3, 0), (22, 1), (3, 2), (23, 3)] : List (TypeId × Nat))[i]? = some (t, o) → SL.Arg Tryz.prog W H enc t (([v0, v1, v2, v3].drop o).take (Tryz.prog.cellsOf t)) := fun i t o hi => by
      rw [← hfs, List.getElem?_map] at hi
      obtain ⟨f, hf, e⟩ := Option.map_eq_some_iff.1 hi
      have := hel i f hf
      simp only [Prod.mk.injEq] at e
      rw [e.1, e.2] at this
      exact this
    have a0 := get 0 _ _ rfl
    have a1 := get 1 _ _ rfl
    have a2 := get 2 _ _ rfl
    have a3 := get 3 _ _ rfl
    rw [c3] at a0 a2
    rw [c22] at a1
    rw [c23] at a3
    obtain ⟨x0, rfl⟩ := Arg.i64 u3' a0
    obtain ⟨x2, rfl⟩ := Arg.i64 u3' a2
    obtain ⟨p1, l1, k1, rfl⟩ := sl_of u30 a1
    obtain ⟨p3, l3, k3, rfl⟩ := sl_of u23 a3
    obtain ⟨d1, e1, g1⟩ := bytes_of a1
    obtain ⟨ws, e3, g3⟩ := ints_of a3
    exact ⟨x0, x2, ⟨p1, l1, k1⟩, ⟨p3, l3, k3⟩, d1, ws, rfl, g1, g3, e1, e3⟩
set_option maxRecDepth 100000 in
theorem lifted (os : Os) (started : os.Started) (H : Type) (enc : TypeId × Value → H) :
    ReturnsInHanded {} Tryz.checked os 5 .any (fun w args => (Rows.snapBackSpec.pre enc Tryz.prog Tryz.f5 [] false w args ∧ laidMetH Tryz.prog LAIDC w) ∧ sizedMet enc Tryz.prog Tryz.f5 (OpenSpec.ofChange Rows.snapBackSpec) false w args)
      (Rows.snapBackSpec.post enc Tryz.prog Tryz.f5 false true false false) := by
  refine wrap (C := Tryz.checked) (X := fun w _ => laidMetH Tryz.prog LAIDC w) (fun _ _ _ hh h => h.of_heap hh) own started (by kernel_rfl) Tryz.func5
    (ChangeSpec.witness_shaped (enc := enc) (C := Tryz.checked) (os := os) (X := fun w _ => laidMetH Tryz.prog LAIDC w) false (World.laidAll Tryz.prog os LAIDC) #[.agg #[.int .i64 0, .slice none 0 0, .int .i64 0, .slice none 0 0]] 8 (World.laidAll_os _ _ _)
      (World.shaped_of_ZipB (by kernel_rfl) (by kernel_rfl)) (by kernel_rfl) (by kernel_rfl) (by kernel_rfl)
      (by rw [MakeChecks.laidMetH_plain _ _ _ (by kernel_rfl)]; exact laidMet_laidAll _ (by kernel_rfl) (by kernel_rfl))) ?_
  intro W base args ds gs before hval0 hW _ hsz0 hL hsh _
  have hval : ∀ (j : Nat) t v, Tryz.f5.params[j]? = some t → args[j]? = some v → Value.okWide Tryz.prog W .any base t v := hval0
  have hsz : (DataW.weightsEach Tryz.prog (Tryz.f5.params.toList ++ Rows.snapBackSpec.plain.varTypes Tryz.prog) (ds ++ gs)).all (· ≤ reachBytes) = true := hsz0
  have hW' := hW
  obtain ⟨p, q, hA0, hV, rfl, hfz, hnd⟩ := hW
  have hA : DataW.TrodAll enc Tryz.prog W 0 (fun _ => true) true Tryz.f5.params.toList args.toList ds p := hA0
  rw [Tryz.params5] at hA hval hsz
  obtain ⟨v0, d0, rfl, rfl, h0⟩ := trodAll_one hA
  obtain ⟨rfl, rfl⟩ := trodVars_none hV
  obtain ⟨fs, hu, _⟩ := u65
  obtain ⟨cs, rfl, _⟩ := okWide_struct hu (hval 0 65 v0 rfl rfl)
  have k0 := h0
  have lt0 : ∀ x ∈ p, x.block < W.heap.size := by obtain ⟨m, hm⟩ := k0; exact DataW.trod_lt m _ _ _ hm
  have harg : SL.Arg Tryz.prog W H enc 65 cs.toList := by
    obtain ⟨m, hm⟩ := k0
    exact ⟨m, d0, p, hm, SL.weightsEach_get (i := 0) rfl rfl hsz⟩
  obtain ⟨n1, n2, s1, s4, d, ws, ecs, g1, g3, e1, e3⟩ := order_of harg
  obtain rfl : cs = #[vI n1, Sl.v s1, vI n2, Sl.v s4] := by cases cs; simp_all
  have hc : SL.ACalls Tryz.prog W (all W) 5 #[.agg #[vI n1, Sl.v s1, vI n2, Sl.v s4]] (fun _ => none) fun v _ => v = .bool true :=
    SL.ACalls.mono (Sn.back_ok (B := W) (σ := fun _ => none) (glob_ofC hL) g1 g3 (by omega) (by omega)) fun v σ ⟨r, hv, hr⟩ => by rw [hv, hr]
  refine (calls_of hc).mono fun e W' ⟨⟨v, he, hv⟩, bel⟩ => ?_
  subst hv
  subst he
  exact ⟨_, rfl, _, _, _, [], _, [], hW', trodAll_mk1 (shut_bool Zt.u4' _), (trodAll_cons_mk (Below.trod laidOut (by kernel_rfl) (of_decide_eq_true (by kernel_rfl)) k0 bel lt0) trodAll_mk0), rfl, bel.frame _, fun h => by cases h⟩
theorem over : Rows.snapBackRow.holds Tryz.pinned (OpenSpec.ofChange Rows.snapBackSpec) :=
  OpenClaim.holds_of_wide 5 Tryz.f5 rfl rfl rfl rfl rfl rfl rfl ⟨rfl, rfl, rfl, rfl, rfl⟩ rfl rfl rfl rfl rfl (by kernel_rfl) Tryz.func5 (by kernel_rfl)
    (of_decide_eq_true (by kernel_rfl)) (by unfold Func.isWrapper; first | (rw [if_pos (by decide +kernel)]; kernel_rfl) | (rw [if_neg (by decide +kernel)]; exact ⟨rfl, rfl⟩))
    (fun os started H enc _ => lifted os started H enc)
end Go.Proofs.YtfobjidchipdaaaGreatDoor.Zt
namespace Go.Proofs.YtfobjidchipdaaaGreatDoor
open Go
/-- The card, for the claim. -/
theorem snapBack_holds : Rows.SnapBackCardSaid :=
  Claim7.holds_tied_plain_at .later [] [.data, .data, .data, .data, .sentinel, .sentinel, .sentinel, .pinned] true (true, "0b6ed476258cfae761cb51e7b5ba6357136c1bc4836148a81dc250e68601b9af") true
    Zt.over (fun _ h => by cases h) (by kernel_rfl) (fun _ h => by cases h) snapBack_row_tie rfl ⟨rfl, rfl⟩ (by kernel_rfl) rfl
    (fun f fn hf hfn => by
      obtain rfl : f = 5 := Option.some.inj ((show Tryz.prog.funcNamed "althing/althinglaw05.SnapBack" = some 5 by kernel_rfl).symm.trans hf) |>.symm
      obtain rfl : fn = Tryz.f5 := (Option.some.inj (Tryz.func5.symm.trans hfn)).symm
      exact ⟨by kernel_rfl, fun j t ht => by
        rw [Tryz.params5] at ht
        have hm : t ∈ [65] := by simpa using Array.mem_of_getElem? ht
        have hall : ([65].all fun u => !Tryz.prog.wantsStandIn u) = true := by kernel_rfl
        exact (show Tryz.prog.wantsStandIn t = false by simpa using List.all_eq_true.1 hall t hm)⟩)
    (by kernel_rfl)
end Go.Proofs.YtfobjidchipdaaaGreatDoor
#print axioms Go.Proofs.YtfobjidchipdaaaGreatDoor.snapBack_holds
