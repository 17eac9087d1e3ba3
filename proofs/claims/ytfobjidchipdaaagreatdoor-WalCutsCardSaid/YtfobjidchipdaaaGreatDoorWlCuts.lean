/- Truncating a log takes away no record with that index or a greater one: for every input. No condition beside what the card says of the package variables, which are as the program's text lays them. -/
import Derived.SevenTiedAt
import Derived.Test.YtfobjidchipdaaaGreatDoorRows
import Derived.Test.YtfobjidchipdaaaGreatDoorCards
import Derived.Test.YtfobjidchipdaaaGreatDoorTie
import Derived.Test.YtfobjidchipdaaaGreatDoorXM
namespace Go.Proofs.YtfobjidchipdaaaGreatDoor.Zt
open Go Go.Proofs.YtfobjidchipdaaaGreatDoor.SL Go.ChangeShapes Go.WideShapes Go.ChangeAt Go.RowKit
set_option linter.unusedVariables false
set_option maxRecDepth 100000 in
theorem lifted (os : Os) (started : os.Started) (H : Type) (enc : TypeId × Value → H) :
    ReturnsInHanded {} Tryz.checked os 8 .any (fun w args => (Rows.walCutsSpec.pre enc Tryz.prog Tryz.f8 [] false w args ∧ laidMetH Tryz.prog LAID w) ∧ sizedMet enc Tryz.prog Tryz.f8 (OpenSpec.ofChange Rows.walCutsSpec) false w args)
      (Rows.walCutsSpec.post enc Tryz.prog Tryz.f8 false true false false) := by
  refine wrap (C := Tryz.checked) (X := fun w _ => laidMetH Tryz.prog LAID w) (fun _ _ _ hh h => h.of_heap hh) own started (by kernel_rfl) Tryz.func8
    (ChangeSpec.witness_shaped (enc := enc) (C := Tryz.checked) (os := os) (X := fun w _ => laidMetH Tryz.prog LAID w) false (World.laidAll Tryz.prog os LAID) #[.int .i64 0, .slice none 0 0, .int .i64 0] 8 (World.laidAll_os _ _ _)
      (World.shaped_of_ZipB (by kernel_rfl) (by kernel_rfl)) (by kernel_rfl) (by kernel_rfl) (by kernel_rfl)
      (by rw [MakeChecks.laidMetH_plain _ _ _ (by kernel_rfl)]; exact laidMet_laidAll _ (by kernel_rfl) (by kernel_rfl))) ?_
  intro W base args ds gs before hval0 hW _ hsz0 hL hsh _
  have hval : ∀ (j : Nat) t v, Tryz.f8.params[j]? = some t → args[j]? = some v → Value.okWide Tryz.prog W .any base t v := hval0
  have hsz : (DataW.weightsEach Tryz.prog (Tryz.f8.params.toList ++ Rows.walCutsSpec.plain.varTypes Tryz.prog) (ds ++ gs)).all (· ≤ reachBytes) = true := hsz0
  have hW' := hW
  obtain ⟨p, q, hA0, hV, rfl, hfz, hnd⟩ := hW
  have hA : DataW.TrodAll enc Tryz.prog W 0 (fun _ => true) true Tryz.f8.params.toList args.toList ds p := hA0
  rw [Tryz.params8] at hA hval hsz
  obtain ⟨v0, vs0, d0, ds0, p0, q0, hargs, rfl, rfl, h0, r0⟩ := trodAll_cons hA
  obtain ⟨v1, vs1, d1, ds1, p1, q1, rfl, rfl, rfl, h1, r1⟩ := trodAll_cons r0
  obtain ⟨v2, vs2, d2, ds2, p2, q2, rfl, rfl, rfl, h2, r2⟩ := trodAll_cons r1
  obtain ⟨rfl, rfl, rfl⟩ := trodAll_nil r2
  obtain rfl : args = #[v0, v1, v2] := by cases args; simp_all
  obtain ⟨rfl, rfl⟩ := trodVars_none hV
  obtain ⟨a0, rfl, rfl, rfl, w0⟩ := open_int Zt.u3' (hval 0 3 v0 rfl rfl) h0
  obtain ⟨a1, len1, cap1, rfl⟩ := okWide_slice Zt.u44' (hval 1 44 v1 rfl rfl)
  have k1 := h1
  have lt1 : ∀ x ∈ p1, x.block < W.heap.size := by obtain ⟨m, hm⟩ := k1; exact DataW.trod_lt m _ _ _ hm
  have harg1 : SL.Arg Tryz.prog W H enc 44 [.slice a1 len1 cap1] := by
    obtain ⟨m, hm⟩ := k1
    exact ⟨m, d1, p1, hm, SL.weightsEach_get (i := 1) rfl rfl hsz⟩
  obtain ⟨ks, e3, g3, f3⟩ := lists_of harg1
  obtain ⟨a2, rfl, rfl, rfl, w2⟩ := open_int Zt.u3' (hval 2 3 v2 rfl rfl) h2
  have hc : SL.ACalls Tryz.prog W (all W) 8 #[.int .i64 a0, Sl.v ⟨a1, len1, cap1⟩, .int .i64 a2] (fun _ => none) fun v _ => v = .bool true :=
    SL.ACalls.mono (Wl.cuts_ok (B := W) (σ := fun _ => none) (glob_of hL) (limit := a0) (at' := a2) g3 f3) fun v σ ⟨r, hv, hr⟩ => by rw [hv, hr]
  refine (calls_of hc).mono fun e W' ⟨⟨v, he, hv⟩, bel⟩ => ?_
  subst hv
  subst he
  exact ⟨_, rfl, _, _, _, [], _, [], hW', trodAll_mk1 (shut_bool Zt.u4' _), (trodAll_cons_mk (shut_int Zt.u3' w0) (trodAll_cons_mk (Below.trod laidOut (by kernel_rfl) (of_decide_eq_true (by kernel_rfl)) k1 bel lt1) (trodAll_cons_mk (shut_int Zt.u3' w2) trodAll_mk0))), rfl, bel.frame _, fun h => by cases h⟩
theorem over : Rows.walCutsRow.holds Tryz.pinned (OpenSpec.ofChange Rows.walCutsSpec) :=
  OpenClaim.holds_of_wide 8 Tryz.f8 rfl rfl rfl rfl rfl rfl rfl ⟨rfl, rfl, rfl, rfl, rfl⟩ rfl rfl rfl rfl rfl (by kernel_rfl) Tryz.func8 (by kernel_rfl)
    (of_decide_eq_true (by kernel_rfl)) (by unfold Func.isWrapper; first | (rw [if_pos (by decide +kernel)]; kernel_rfl) | (rw [if_neg (by decide +kernel)]; exact ⟨rfl, rfl⟩))
    (fun os started H enc _ => lifted os started H enc)
end Go.Proofs.YtfobjidchipdaaaGreatDoor.Zt
namespace Go.Proofs.YtfobjidchipdaaaGreatDoor
open Go
/-- The card, for the claim. -/
theorem walCuts_holds : Rows.WalCutsCardSaid :=
  Claim7.holds_tied_plain_at .later [] [.data, .data, .data, .data, .sentinel, .sentinel, .pinned] true (true, "0b6ed476258cfae761cb51e7b5ba6357136c1bc4836148a81dc250e68601b9af") true
    Zt.over (fun _ h => by cases h) (by kernel_rfl) (fun _ h => by cases h) walCuts_row_tie rfl ⟨rfl, rfl⟩ (by kernel_rfl) rfl
    (fun f fn hf hfn => by
      obtain rfl : f = 8 := Option.some.inj ((show Tryz.prog.funcNamed "althing/althinglaw04.WalCuts" = some 8 by kernel_rfl).symm.trans hf) |>.symm
      obtain rfl : fn = Tryz.f8 := (Option.some.inj (Tryz.func8.symm.trans hfn)).symm
      exact ⟨by kernel_rfl, fun j t ht => by
        rw [Tryz.params8] at ht
        have hm : t ∈ [3, 44, 3] := by simpa using Array.mem_of_getElem? ht
        have hall : ([3, 44, 3].all fun u => !Tryz.prog.wantsStandIn u) = true := by kernel_rfl
        exact (show Tryz.prog.wantsStandIn t = false by simpa using List.all_eq_true.1 hall t hm)⟩)
    (by kernel_rfl)
end Go.Proofs.YtfobjidchipdaaaGreatDoor
#print axioms Go.Proofs.YtfobjidchipdaaaGreatDoor.walCuts_holds
