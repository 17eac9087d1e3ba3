/- Transactions and sweeps do and tell what the document says: where what it reads is of bulk at most 1048576. No other condition beside what the card says of the package variables, which are as the program's text lays them. -/
import Derived.SevenTiedAt
import Derived.Test.YthfpmipeejjogaaGreatDoorRows
import Derived.Test.YthfpmipeejjogaaGreatDoorCards
import Derived.Test.YthfpmipeejjogaaGreatDoorTie
import Derived.Test.YthfpmipeejjogaaGreatDoorXP
namespace Go.Proofs.YthfpmipeejjogaaGreatDoor.Zt
open Go Go.Proofs.YthfpmipeejjogaaGreatDoor.SL Go.ChangeShapes Go.WideShapes Go.ChangeAt Go.RowKit
set_option linter.unusedVariables false

set_option maxRecDepth 100000 in
theorem multiPlays_lifted (os : Os) (started : os.Started) (H : Type) (enc : TypeId × Value → H) (F : Stop.Interp) :
    ReturnsInHanded {} Tryz.checked os 11 .any (fun w args => ((Rows.OpenSpec.upto Rows.multiPlaysSpec).pre enc Tryz.prog Tryz.f11 [] false w args ∧ laidMetH Tryz.prog LAIDU w) ∧ sizedMet enc Tryz.prog Tryz.f11 (Rows.OpenSpec.upto Rows.multiPlaysSpec) false w args)
      (((Rows.OpenSpec.upto Rows.multiPlaysSpec).at F).post enc Tryz.prog Tryz.f11 false true false false) := by
  refine wrapU (C := Tryz.checked) (X := fun w _ => laidMetH Tryz.prog LAIDU w) (fun _ _ _ hh h => h.of_heap hh) own started (by kernel_rfl) Tryz.func11
    (witnessU (enc := enc) (C := Tryz.checked) (s := Rows.multiPlaysSpec) (X := fun w _ => laidMetH Tryz.prog LAIDU w) (World.laidAll Tryz.prog os LAIDU) #[.slice none 0 0, .slice none 0 0] 8 (World.laidAll_os _ _ _)
      (World.shaped_of_ZipB (by kernel_rfl) (by kernel_rfl)) (by kernel_rfl) (x := ([.nil, .nil], [], [])) (by kernel_rfl) (by kernel_rfl) (by kernel_rfl)
      (by rw [MakeChecks.laidMetH_plain _ _ _ (by kernel_rfl)]; exact laidMet_laidAll _ (by kernel_rfl) (by kernel_rfl))) ?_
  intro W base args ds gs before hval0 hW hk hsz0 hL hsh _
  have hval : ∀ (j : Nat) t v, Tryz.f11.params[j]? = some t → args[j]? = some v → Value.okWide Tryz.prog W .any base t v := hval0
  have hsz : (DataW.weightsEach Tryz.prog (Tryz.f11.params.toList ++ Rows.multiPlaysSpec.plain.varTypes Tryz.prog) (ds ++ gs)).all (· ≤ reachBytes) = true := hsz0
  have hW' := hW
  obtain ⟨p, q, hA0, hV, rfl, hfz, hnd⟩ := hW
  have hA : DataW.TrodAll enc Tryz.prog W 0 (fun _ => true) true Tryz.f11.params.toList args.toList ds p := hA0
  rw [Tryz.params11] at hA hval hsz
  obtain ⟨v0, vs0, d0, ds0, p0, q0, hargs, rfl, rfl, h0, r0⟩ := trodAll_cons hA
  obtain ⟨v1, vs1, d1, ds1, p1, q1, rfl, rfl, rfl, h1, r1⟩ := trodAll_cons r0
  obtain ⟨rfl, rfl, rfl⟩ := trodAll_nil r1
  obtain rfl : args = #[v0, v1] := by cases args; simp_all
  obtain ⟨rfl, rfl⟩ := trodVars_none hV
  have g := globU hsh hL
  obtain ⟨a0, len0, cap0, rfl⟩ := okWide_slice Zt.u25 (hval 0 25 v0 rfl rfl)
  obtain ⟨a1, len1, cap1, rfl⟩ := okWide_slice Zt.u67 (hval 1 67 v1 rfl rfl)
  have harg0 : SL.Arg Tryz.prog W H enc 25 [.slice a0 len0 cap0] := by
    obtain ⟨m, hm⟩ := h0
    exact ⟨m, d0, p0, hm, SL.weightsEach_get (i := 0) rfl rfl hsz⟩
  have harg1 : SL.Arg Tryz.prog W H enc 67 [.slice a1 len1 cap1] := by
    obtain ⟨m, hm⟩ := h1
    exact ⟨m, d1, p1, hm, SL.weightsEach_get (i := 1) rfl rfl hsz⟩
  have hlen0 : len0 ≤ 1048576 := by
    obtain ⟨m, hm⟩ := h0
    exact upto_len Zt.u25 hm (upto_get hk (i := 0) rfl)
  have hlen1 : len1 ≤ 1048576 := by
    obtain ⟨m, hm⟩ := h1
    exact upto_len Zt.u67 hm (upto_get hk (i := 1) rfl)
  obtain ⟨hs', hl0, hh0, hrd0⟩ := strings_of harg0
  obtain ⟨ts', hT⟩ := txns_of harg1
  have hc : SL.ACalls Tryz.prog W (all W) 11 #[Sl.v ⟨a0, len0, cap0⟩, Sl.v ⟨a1, len1, cap1⟩] (fun _ => none) fun v _ => v = .bool true := by
    exact SL.ACalls.mono (plays8_ok (B := W) (σ := fun _ => none) g hrd0 (by omega) (fun x hx => Nat.le_trans (hh0 x hx) (by decide)) hT (by rw [← hT.1]; exact hlen1)) fun v σ ⟨r, hv, hr⟩ => by rw [hv, hr]

  refine (calls_of hc).mono fun e W' ⟨⟨v, he, hv⟩, bel⟩ => ?_
  subst hv
  subst he
  exact ⟨_, rfl, _, _, _, [], _, [], hW', trodAll_mk1 (shut_bool Zt.u4b _), (trodAll_cons_mk (Below.trod laidOut (by kernel_rfl) (of_decide_eq_true (by kernel_rfl)) h0 bel (trod_lt' h0)) (trodAll_cons_mk (Below.trod laidOut (by kernel_rfl) (of_decide_eq_true (by kernel_rfl)) h1 bel (trod_lt' h1)) trodAll_mk0)), rfl, bel.frame _, fun h => by cases h⟩
theorem multiPlays_over : Rows.multiPlaysUptoRow.holds Tryz.pinned (Rows.OpenSpec.upto Rows.multiPlaysSpec) :=
  OpenClaim.holds_of_cond 11 Tryz.f11 rfl rfl rfl rfl rfl rfl rfl ⟨rfl, rfl, rfl, rfl, rfl⟩ rfl rfl rfl rfl rfl (by kernel_rfl) Tryz.func11 (by kernel_rfl)
    (of_decide_eq_true (by kernel_rfl)) (by unfold Func.isWrapper; first | (rw [if_pos (by decide +kernel)]; kernel_rfl) | (rw [if_neg (by decide +kernel)]; exact ⟨rfl, rfl⟩))
    (fun os started H enc _ F => multiPlays_lifted os started H enc F)
end Go.Proofs.YthfpmipeejjogaaGreatDoor.Zt
namespace Go.Proofs.YthfpmipeejjogaaGreatDoor
open Go
/-- The card, for the claim. -/
theorem multiPlays_holds : Rows.MultiPlaysUptoCardSaid :=
  Claim7.holds_tied_plain_at .later [] [.data, .data, .data, .data, .sentinel, .pinned] true (true, "0795d736229012fdcd1938897e17abbc5ba3a3355eb54bd2e5fc828daec2c83e") false
    Zt.multiPlays_over (fun _ h => by cases h) (by kernel_rfl) (fun _ h => by cases h) multiPlaysUpto_row_tie rfl ⟨rfl, rfl⟩ (by kernel_rfl) rfl
    (fun f fn hf hfn => by
      obtain rfl : f = 11 := Option.some.inj ((show Tryz.prog.funcNamed "althing/althinglaw08.MultiPlays" = some 11 by kernel_rfl).symm.trans hf) |>.symm
      obtain rfl : fn = Tryz.f11 := (Option.some.inj (Tryz.func11.symm.trans hfn)).symm
      exact ⟨by kernel_rfl, fun j t ht => by
        rw [Tryz.params11] at ht
        have hm : t ∈ [25, 67] := by simpa using Array.mem_of_getElem? ht
        have hall : ([25, 67].all fun u => !Tryz.prog.wantsStandIn u) = true := by kernel_rfl
        exact (show Tryz.prog.wantsStandIn t = false by simpa using List.all_eq_true.1 hall t hm)⟩)
    (by kernel_rfl)
end Go.Proofs.YthfpmipeejjogaaGreatDoor
#print axioms Go.Proofs.YthfpmipeejjogaaGreatDoor.multiPlays_holds
