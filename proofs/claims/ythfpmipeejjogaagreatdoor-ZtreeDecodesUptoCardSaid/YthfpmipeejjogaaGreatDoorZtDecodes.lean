/- Decode takes any bytes just if they are those of a tree by the document's answer, which it then is: where what it reads is of bulk at most 1048576. No other condition beside what the card says of the package variables, which are as the program's text lays them. -/
import Derived.SevenTiedAt
import Derived.Test.YthfpmipeejjogaaGreatDoorRows
import Derived.Test.YthfpmipeejjogaaGreatDoorCards
import Derived.Test.YthfpmipeejjogaaGreatDoorTie
import Derived.Test.YthfpmipeejjogaaGreatDoorXM
namespace Go.Proofs.YthfpmipeejjogaaGreatDoor.Zt
open Go Go.Proofs.YthfpmipeejjogaaGreatDoor.SL Go.ChangeShapes Go.WideShapes Go.ChangeAt Go.RowKit
set_option linter.unusedVariables false

set_option maxRecDepth 100000 in
theorem ztreeDecodes_lifted (os : Os) (started : os.Started) (H : Type) (enc : TypeId × Value → H) (F : Stop.Interp) :
    ReturnsInHanded {} Tryz.checked os 6 .any (fun w args => ((Rows.OpenSpec.upto Rows.ztreeDecodesSpec).pre enc Tryz.prog Tryz.f6 [] false w args ∧ laidMetH Tryz.prog LAIDU w) ∧ sizedMet enc Tryz.prog Tryz.f6 (Rows.OpenSpec.upto Rows.ztreeDecodesSpec) false w args)
      (((Rows.OpenSpec.upto Rows.ztreeDecodesSpec).at F).post enc Tryz.prog Tryz.f6 false true false false) := by
  refine wrapU (C := Tryz.checked) (X := fun w _ => laidMetH Tryz.prog LAIDU w) (fun _ _ _ hh h => h.of_heap hh) own started (by kernel_rfl) Tryz.func6
    (witnessU (enc := enc) (C := Tryz.checked) (s := Rows.ztreeDecodesSpec) (X := fun w _ => laidMetH Tryz.prog LAIDU w) (World.laidAll Tryz.prog os LAIDU) #[.slice none 0 0] 8 (World.laidAll_os _ _ _)
      (World.shaped_of_ZipB (by kernel_rfl) (by kernel_rfl)) (by kernel_rfl) (x := ([.nil], [], [])) (by kernel_rfl) (by kernel_rfl) (by kernel_rfl)
      (by rw [MakeChecks.laidMetH_plain _ _ _ (by kernel_rfl)]; exact laidMet_laidAll _ (by kernel_rfl) (by kernel_rfl))) ?_
  intro W base args ds gs before hval0 hW hk hsz0 hL hsh _
  have hval : ∀ (j : Nat) t v, Tryz.f6.params[j]? = some t → args[j]? = some v → Value.okWide Tryz.prog W .any base t v := hval0
  have hsz : (DataW.weightsEach Tryz.prog (Tryz.f6.params.toList ++ Rows.ztreeDecodesSpec.plain.varTypes Tryz.prog) (ds ++ gs)).all (· ≤ reachBytes) = true := hsz0
  have hW' := hW
  obtain ⟨p, q, hA0, hV, rfl, hfz, hnd⟩ := hW
  have hA : DataW.TrodAll enc Tryz.prog W 0 (fun _ => true) true Tryz.f6.params.toList args.toList ds p := hA0
  rw [Tryz.params6] at hA hval hsz
  obtain ⟨v0, d0, rfl, rfl, h0⟩ := trodAll_one hA
  obtain ⟨rfl, rfl⟩ := trodVars_none hV
  have g := globU hsh hL
  obtain ⟨a0, len0, cap0, rfl⟩ := okWide_slice Zt.u30 (hval 0 30 v0 rfl rfl)
  have harg : SL.Arg Tryz.prog W H enc 30 [.slice a0 len0 cap0] := by
    obtain ⟨m, hm⟩ := h0
    exact ⟨m, d0, _, hm, SL.weightsEach_get (i := 0) rfl rfl hsz⟩
  have hlen : len0 ≤ 1048576 := by
    obtain ⟨m, hm⟩ := h0
    exact upto_len Zt.u30 hm (upto_get hk (i := 0) rfl)
  have hcap : len0 ≤ cap0 := by
    rcases harg.slice Zt.u30 with ⟨_, rfl, rfl⟩ | ⟨x, _, hl, _⟩
    · exact Nat.le_refl _
    · exact hl
  obtain ⟨b, hb, hR⟩ := bytes_of harg
  have hbl : b.length = len0 := by have := hR.1; rw [List.length_map] at this; exact this.symm
  have hc : SL.ACalls Tryz.prog W (all W) 6 #[Sl.v ⟨a0, len0, cap0⟩] (fun _ => none) fun v _ => v = .bool true :=
    SL.ACalls.mono (decodes_ok (B := W) (σ := fun _ => none) g hR hcap (by omega)) fun v σ ⟨r, hv, hr⟩ => by rw [hv, hr]

  refine (calls_of hc).mono fun e W' ⟨⟨v, he, hv⟩, bel⟩ => ?_
  subst hv
  subst he
  exact ⟨_, rfl, _, _, _, [], _, [], hW', trodAll_mk1 (shut_bool Zt.u4b _), (trodAll_cons_mk (Below.trod laidOut (by kernel_rfl) (of_decide_eq_true (by kernel_rfl)) h0 bel (trod_lt' h0)) trodAll_mk0), rfl, bel.frame _, fun h => by cases h⟩
theorem ztreeDecodes_over : Rows.ztreeDecodesUptoRow.holds Tryz.pinned (Rows.OpenSpec.upto Rows.ztreeDecodesSpec) :=
  OpenClaim.holds_of_cond 6 Tryz.f6 rfl rfl rfl rfl rfl rfl rfl ⟨rfl, rfl, rfl, rfl, rfl⟩ rfl rfl rfl rfl rfl (by kernel_rfl) Tryz.func6 (by kernel_rfl)
    (of_decide_eq_true (by kernel_rfl)) (by unfold Func.isWrapper; first | (rw [if_pos (by decide +kernel)]; kernel_rfl) | (rw [if_neg (by decide +kernel)]; exact ⟨rfl, rfl⟩))
    (fun os started H enc _ F => ztreeDecodes_lifted os started H enc F)
end Go.Proofs.YthfpmipeejjogaaGreatDoor.Zt
namespace Go.Proofs.YthfpmipeejjogaaGreatDoor
open Go
/-- The card, for the claim. -/
theorem ztreeDecodes_holds : Rows.ZtreeDecodesUptoCardSaid :=
  Claim7.holds_tied_plain_at .later [] [.data, .data, .data, .data, .sentinel, .pinned] true (true, "0795d736229012fdcd1938897e17abbc5ba3a3355eb54bd2e5fc828daec2c83e") false
    Zt.ztreeDecodes_over (fun _ h => by cases h) (by kernel_rfl) (fun _ h => by cases h) ztreeDecodesUpto_row_tie rfl ⟨rfl, rfl⟩ (by kernel_rfl) rfl
    (fun f fn hf hfn => by
      obtain rfl : f = 6 := Option.some.inj ((show Tryz.prog.funcNamed "althing/althinglaw07.ZtreeDecodes" = some 6 by kernel_rfl).symm.trans hf) |>.symm
      obtain rfl : fn = Tryz.f6 := (Option.some.inj (Tryz.func6.symm.trans hfn)).symm
      exact ⟨by kernel_rfl, fun j t ht => by
        rw [Tryz.params6] at ht
        have hm : t ∈ [30] := by simpa using Array.mem_of_getElem? ht
        have hall : ([30].all fun u => !Tryz.prog.wantsStandIn u) = true := by kernel_rfl
        exact (show Tryz.prog.wantsStandIn t = false by simpa using List.all_eq_true.1 hall t hm)⟩)
    (by kernel_rfl)
end Go.Proofs.YthfpmipeejjogaaGreatDoor
#print axioms Go.Proofs.YthfpmipeejjogaaGreatDoor.ztreeDecodes_holds
