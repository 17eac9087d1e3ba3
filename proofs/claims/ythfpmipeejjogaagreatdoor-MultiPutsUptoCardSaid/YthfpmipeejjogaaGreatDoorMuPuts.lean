/- Ops are written and read as the document says, any ops, any bytes: where what it reads is of bulk at most 1048576. No other condition beside what the card says of the package variables, which are as the program's text lays them. -/
import Derived.SevenTiedAt
import Derived.Test.YthfpmipeejjogaaGreatDoorRows
import Derived.Test.YthfpmipeejjogaaGreatDoorCards
import Derived.Test.YthfpmipeejjogaaGreatDoorTie
import Derived.Test.YthfpmipeejjogaaGreatDoorXP
namespace Go.Proofs.YthfpmipeejjogaaGreatDoor.Zt
open Go Go.Proofs.YthfpmipeejjogaaGreatDoor.SL Go.ChangeShapes Go.WideShapes Go.ChangeAt Go.RowKit
set_option linter.unusedVariables false

set_option maxRecDepth 100000 in
theorem multiPuts_lifted (os : Os) (started : os.Started) (H : Type) (enc : TypeId × Value → H) (F : Stop.Interp) :
    ReturnsInHanded {} Tryz.checked os 13 .any (fun w args => ((Rows.OpenSpec.upto Rows.multiPutsSpec).pre enc Tryz.prog Tryz.f13 [] false w args ∧ laidMetH Tryz.prog LAIDU w) ∧ sizedMet enc Tryz.prog Tryz.f13 (Rows.OpenSpec.upto Rows.multiPutsSpec) false w args)
      (((Rows.OpenSpec.upto Rows.multiPutsSpec).at F).post enc Tryz.prog Tryz.f13 false true false false) := by
  refine wrapU (C := Tryz.checked) (X := fun w _ => laidMetH Tryz.prog LAIDU w) (fun _ _ _ hh h => h.of_heap hh) own started (by kernel_rfl) Tryz.func13
    (witnessU (enc := enc) (C := Tryz.checked) (s := Rows.multiPutsSpec) (X := fun w _ => laidMetH Tryz.prog LAIDU w) (World.laidAll Tryz.prog os LAIDU) #[.slice none 0 0, .slice none 0 0] 8 (World.laidAll_os _ _ _)
      (World.shaped_of_ZipB (by kernel_rfl) (by kernel_rfl)) (by kernel_rfl) (x := ([.nil, .nil], [], [])) (by kernel_rfl) (by kernel_rfl) (by kernel_rfl)
      (by rw [MakeChecks.laidMetH_plain _ _ _ (by kernel_rfl)]; exact laidMet_laidAll _ (by kernel_rfl) (by kernel_rfl))) ?_
  intro W base args ds gs before hval0 hW hk hsz0 hL hsh _
  have hval : ∀ (j : Nat) t v, Tryz.f13.params[j]? = some t → args[j]? = some v → Value.okWide Tryz.prog W .any base t v := hval0
  have hsz : (DataW.weightsEach Tryz.prog (Tryz.f13.params.toList ++ Rows.multiPutsSpec.plain.varTypes Tryz.prog) (ds ++ gs)).all (· ≤ reachBytes) = true := hsz0
  have hW' := hW
  obtain ⟨p, q, hA0, hV, rfl, hfz, hnd⟩ := hW
  have hA : DataW.TrodAll enc Tryz.prog W 0 (fun _ => true) true Tryz.f13.params.toList args.toList ds p := hA0
  rw [Tryz.params13] at hA hval hsz
  obtain ⟨v0, vs0, d0, ds0, p0, q0, hargs, rfl, rfl, h0, r0⟩ := trodAll_cons hA
  obtain ⟨v1, vs1, d1, ds1, p1, q1, rfl, rfl, rfl, h1, r1⟩ := trodAll_cons r0
  obtain ⟨rfl, rfl, rfl⟩ := trodAll_nil r1
  obtain rfl : args = #[v0, v1] := by cases args; simp_all
  obtain ⟨rfl, rfl⟩ := trodVars_none hV
  have g := globU hsh hL
  obtain ⟨a0, len0, cap0, rfl⟩ := okWide_slice Zt.u70 (hval 0 70 v0 rfl rfl)
  obtain ⟨a1, len1, cap1, rfl⟩ := okWide_slice Zt.u30 (hval 1 30 v1 rfl rfl)
  have harg : SL.Arg Tryz.prog W H enc 70 [.slice a0 len0 cap0] := by
    obtain ⟨m, hm⟩ := h0
    exact ⟨m, d0, p0, hm, SL.weightsEach_get (i := 0) rfl rfl hsz⟩
  have hlen : len0 ≤ 1048576 := by
    obtain ⟨m, hm⟩ := h0
    exact upto_len Zt.u70 hm (upto_get hk (i := 0) rfl)
  have harg1 : SL.Arg Tryz.prog W H enc 30 [.slice a1 len1 cap1] := by
    obtain ⟨m, hm⟩ := h1
    exact ⟨m, d1, p1, hm, SL.weightsEach_get (i := 1) rfl rfl hsz⟩
  have hlen1 : len1 ≤ 1048576 := by
    obtain ⟨m, hm⟩ := h1
    exact upto_len Zt.u30 hm (upto_get hk (i := 1) rfl)
  have hcap : len1 ≤ cap1 := by
    rcases harg1.slice Zt.u30 with ⟨_, rfl, rfl⟩ | ⟨x, _, hl, _⟩
    · exact Nat.le_refl _
    · exact hl
  obtain ⟨os', hO, hl⟩ := mops_of harg
  have hsm : ∀ o ∈ os', o.path.length ≤ 1048576 ∧ o.data.length ≤ 1048576 := by
    obtain ⟨m, hm⟩ := h0
    exact ops_small hm (upto_get hk (i := 0) rfl) hO
  obtain ⟨b, hb, hR⟩ := bytes_of harg1
  have hbl : b.length = len1 := by have := hR.1; rw [List.length_map] at this; exact this.symm
  have hc : SL.ACalls Tryz.prog W (all W) 13 #[Sl.v ⟨a0, len0, cap0⟩, Sl.v ⟨a1, len1, cap1⟩] (fun _ => none) fun v _ => v = .bool true :=
    SL.ACalls.mono (puts_ok (B := W) (σ := fun _ => none) g hO (by rw [← hO.1]; exact hlen) hsm hR hcap (by omega)) fun v σ ⟨r, hv, hr⟩ => by rw [hv, hr]

  refine (calls_of hc).mono fun e W' ⟨⟨v, he, hv⟩, bel⟩ => ?_
  subst hv
  subst he
  exact ⟨_, rfl, _, _, _, [], _, [], hW', trodAll_mk1 (shut_bool Zt.u4b _), (trodAll_cons_mk (Below.trod laidOut (by kernel_rfl) (of_decide_eq_true (by kernel_rfl)) h0 bel (trod_lt' h0)) (trodAll_cons_mk (Below.trod laidOut (by kernel_rfl) (of_decide_eq_true (by kernel_rfl)) h1 bel (trod_lt' h1)) trodAll_mk0)), rfl, bel.frame _, fun h => by cases h⟩
theorem multiPuts_over : Rows.multiPutsUptoRow.holds Tryz.pinned (Rows.OpenSpec.upto Rows.multiPutsSpec) :=
  OpenClaim.holds_of_cond 13 Tryz.f13 rfl rfl rfl rfl rfl rfl rfl ⟨rfl, rfl, rfl, rfl, rfl⟩ rfl rfl rfl rfl rfl (by kernel_rfl) Tryz.func13 (by kernel_rfl)
    (of_decide_eq_true (by kernel_rfl)) (by unfold Func.isWrapper; first | (rw [if_pos (by decide +kernel)]; kernel_rfl) | (rw [if_neg (by decide +kernel)]; exact ⟨rfl, rfl⟩))
    (fun os started H enc _ F => multiPuts_lifted os started H enc F)
end Go.Proofs.YthfpmipeejjogaaGreatDoor.Zt
namespace Go.Proofs.YthfpmipeejjogaaGreatDoor
open Go
/-- The card, for the claim. -/
theorem multiPuts_holds : Rows.MultiPutsUptoCardSaid :=
  Claim7.holds_tied_plain_at .later [] [.data, .data, .data, .data, .sentinel, .pinned] true (true, "0795d736229012fdcd1938897e17abbc5ba3a3355eb54bd2e5fc828daec2c83e") false
    Zt.multiPuts_over (fun _ h => by cases h) (by kernel_rfl) (fun _ h => by cases h) multiPutsUpto_row_tie rfl ⟨rfl, rfl⟩ (by kernel_rfl) rfl
    (fun f fn hf hfn => by
      obtain rfl : f = 13 := Option.some.inj ((show Tryz.prog.funcNamed "althing/althinglaw08.MultiPuts" = some 13 by kernel_rfl).symm.trans hf) |>.symm
      obtain rfl : fn = Tryz.f13 := (Option.some.inj (Tryz.func13.symm.trans hfn)).symm
      exact ⟨by kernel_rfl, fun j t ht => by
        rw [Tryz.params13] at ht
        have hm : t ∈ [70, 30] := by simpa using Array.mem_of_getElem? ht
        have hall : ([70, 30].all fun u => !Tryz.prog.wantsStandIn u) = true := by kernel_rfl
        exact (show Tryz.prog.wantsStandIn t = false by simpa using List.all_eq_true.1 hall t hm)⟩)
    (by kernel_rfl)
end Go.Proofs.YthfpmipeejjogaaGreatDoor
#print axioms Go.Proofs.YthfpmipeejjogaaGreatDoor.multiPuts_holds
