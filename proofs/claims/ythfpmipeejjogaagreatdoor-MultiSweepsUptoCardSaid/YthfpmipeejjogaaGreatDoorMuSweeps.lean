/- Behind a sweep nothing of the owners is left: where what it reads is of bulk at most 1048576. No other condition beside what the card says of the package variables, which are as the program's text lays them. -/
import Derived.SevenTiedAt
import Derived.Test.YthfpmipeejjogaaGreatDoorRows
import Derived.Test.YthfpmipeejjogaaGreatDoorCards
import Derived.Test.YthfpmipeejjogaaGreatDoorTie
import Derived.Test.YthfpmipeejjogaaGreatDoorXO
namespace Go.Proofs.YthfpmipeejjogaaGreatDoor.Zt
open Go Go.Proofs.YthfpmipeejjogaaGreatDoor.SL Go.ChangeShapes Go.WideShapes Go.ChangeAt Go.RowKit
set_option linter.unusedVariables false

set_option maxRecDepth 100000 in
theorem multiSweeps_lifted (os : Os) (started : os.Started) (H : Type) (enc : TypeId × Value → H) (F : Stop.Interp) :
    ReturnsInHanded {} Tryz.checked os 12 .any (fun w args => ((Rows.OpenSpec.upto Rows.multiSweepsSpec).pre enc Tryz.prog Tryz.f12 [] false w args ∧ laidMetH Tryz.prog LAIDU w) ∧ sizedMet enc Tryz.prog Tryz.f12 (Rows.OpenSpec.upto Rows.multiSweepsSpec) false w args)
      (((Rows.OpenSpec.upto Rows.multiSweepsSpec).at F).post enc Tryz.prog Tryz.f12 false true false false) := by
  refine wrapU (C := Tryz.checked) (X := fun w _ => laidMetH Tryz.prog LAIDU w) (fun _ _ _ hh h => h.of_heap hh) own started (by kernel_rfl) Tryz.func12
    (witnessU (enc := enc) (C := Tryz.checked) (s := Rows.multiSweepsSpec) (X := fun w _ => laidMetH Tryz.prog LAIDU w) (World.laidAll Tryz.prog os LAIDU) #[.agg #[.slice none 0 0, .slice none 0 0, .string ⟨#[]⟩, .slice none 0 0]] 8 (World.laidAll_os _ _ _)
      (World.shaped_of_ZipB (by kernel_rfl) (by kernel_rfl)) (by kernel_rfl) (x := ([.agg [.nil, .nil, .lit (.string []), .nil]], [], [])) (by kernel_rfl) (by kernel_rfl) (by kernel_rfl)
      (by rw [MakeChecks.laidMetH_plain _ _ _ (by kernel_rfl)]; exact laidMet_laidAll _ (by kernel_rfl) (by kernel_rfl))) ?_
  intro W base args ds gs before hval0 hW hk hsz0 hL hsh _
  have hval : ∀ (j : Nat) t v, Tryz.f12.params[j]? = some t → args[j]? = some v → Value.okWide Tryz.prog W .any base t v := hval0
  have hsz : (DataW.weightsEach Tryz.prog (Tryz.f12.params.toList ++ Rows.multiSweepsSpec.plain.varTypes Tryz.prog) (ds ++ gs)).all (· ≤ reachBytes) = true := hsz0
  have hW' := hW
  obtain ⟨p, q, hA0, hV, rfl, hfz, hnd⟩ := hW
  have hA : DataW.TrodAll enc Tryz.prog W 0 (fun _ => true) true Tryz.f12.params.toList args.toList ds p := hA0
  rw [Tryz.params12] at hA hval hsz
  obtain ⟨v0, d0, rfl, rfl, h0⟩ := trodAll_one hA
  obtain ⟨rfl, rfl⟩ := trodVars_none hV
  have g := globU hsh hL
  obtain ⟨fs, hu, hfs⟩ := Zt.u105
  obtain ⟨cs0, rfl, hcs0⟩ := okWide_struct hu (hval 0 105 v0 rfl rfl)
  have harg0 : SL.Arg Tryz.prog W H enc 105 cs0.toList := by
    obtain ⟨m, hm⟩ := h0
    exact ⟨m, d0, p, hm, SL.weightsEach_get (i := 0) rfl rfl hsz⟩
  obtain ⟨s0, s1, s3, home, ecs, A0, A1, A3⟩ := broom_of harg0
  obtain ⟨hs', hl0, hh0, hrd0⟩ := strings_of (a := s0.a) (len := s0.len) (cap := s0.cap) A0
  obtain ⟨ts', hT⟩ := txns_of (a := s1.a) (len := s1.len) (cap := s1.cap) A1
  obtain ⟨ws, hwl, hw⟩ := ints_of (a := s3.a) (len := s3.len) (cap := s3.cap) A3
  have hlen0 : s0.len ≤ 1048576 := by
    obtain ⟨m, hm⟩ := h0
    exact upto_fld Zt.u105 (i := 0) hm (upto_get hk (i := 0) rfl) rfl Zt.u25 (show (cs0.toList.drop 0).take (Tryz.prog.cellsOf 25) = [Sl.v s0] by rw [c25, ecs]; rfl)
  have hlen1 : s1.len ≤ 1048576 := by
    obtain ⟨m, hm⟩ := h0
    exact upto_fld Zt.u105 (i := 1) hm (upto_get hk (i := 0) rfl) rfl Zt.u67 (show (cs0.toList.drop 1).take (Tryz.prog.cellsOf 67) = [Sl.v s1] by rw [c67, ecs]; rfl)
  have hlen3 : s3.len ≤ 1048576 := by
    obtain ⟨m, hm⟩ := h0
    exact upto_fld Zt.u105 (i := 3) hm (upto_get hk (i := 0) rfl) rfl Zt.u58' (show (cs0.toList.drop 3).take (Tryz.prog.cellsOf 58) = [Sl.v s3] by rw [c58', ecs]; rfl)
  have hcs : cs0 = #[Sl.v s0, Sl.v s1, .string (S home), Sl.v s3] := by
    have := congrArg List.toArray ecs
    simpa using this
  have hc : SL.ACalls Tryz.prog W (all W) 12 #[.agg cs0] (fun _ => none) fun v _ => v = .bool true := by
    rw [hcs]
    exact SL.ACalls.mono (sweeps_ok (B := W) (σ := fun _ => none) g hrd0 (by omega) (fun x hx => Nat.le_trans (hh0 x hx) (by decide)) hT (by rw [← hT.1]; exact hlen1) hw (by omega)) fun v σ ⟨r, hv, hr⟩ => by rw [hv, hr]

  refine (calls_of hc).mono fun e W' ⟨⟨v, he, hv⟩, bel⟩ => ?_
  subst hv
  subst he
  exact ⟨_, rfl, _, _, _, [], _, [], hW', trodAll_mk1 (shut_bool Zt.u4b _), (trodAll_cons_mk (Below.trod laidOut (by kernel_rfl) (of_decide_eq_true (by kernel_rfl)) h0 bel (trod_lt' h0)) trodAll_mk0), rfl, bel.frame _, fun h => by cases h⟩
theorem multiSweeps_over : Rows.multiSweepsUptoRow.holds Tryz.pinned (Rows.OpenSpec.upto Rows.multiSweepsSpec) :=
  OpenClaim.holds_of_cond 12 Tryz.f12 rfl rfl rfl rfl rfl rfl rfl ⟨rfl, rfl, rfl, rfl, rfl⟩ rfl rfl rfl rfl rfl (by kernel_rfl) Tryz.func12 (by kernel_rfl)
    (of_decide_eq_true (by kernel_rfl)) (by unfold Func.isWrapper; first | (rw [if_pos (by decide +kernel)]; kernel_rfl) | (rw [if_neg (by decide +kernel)]; exact ⟨rfl, rfl⟩))
    (fun os started H enc _ F => multiSweeps_lifted os started H enc F)
end Go.Proofs.YthfpmipeejjogaaGreatDoor.Zt
namespace Go.Proofs.YthfpmipeejjogaaGreatDoor
open Go
/-- The card, for the claim. -/
theorem multiSweeps_holds : Rows.MultiSweepsUptoCardSaid :=
  Claim7.holds_tied_plain_at .later [] [.data, .data, .data, .data, .sentinel, .pinned] true (true, "0795d736229012fdcd1938897e17abbc5ba3a3355eb54bd2e5fc828daec2c83e") false
    Zt.multiSweeps_over (fun _ h => by cases h) (by kernel_rfl) (fun _ h => by cases h) multiSweepsUpto_row_tie rfl ⟨rfl, rfl⟩ (by kernel_rfl) rfl
    (fun f fn hf hfn => by
      obtain rfl : f = 12 := Option.some.inj ((show Tryz.prog.funcNamed "althing/althinglaw08.MultiSweeps" = some 12 by kernel_rfl).symm.trans hf) |>.symm
      obtain rfl : fn = Tryz.f12 := (Option.some.inj (Tryz.func12.symm.trans hfn)).symm
      exact ⟨by kernel_rfl, fun j t ht => by
        rw [Tryz.params12] at ht
        have hm : t ∈ [105] := by simpa using Array.mem_of_getElem? ht
        have hall : ([105].all fun u => !Tryz.prog.wantsStandIn u) = true := by kernel_rfl
        exact (show Tryz.prog.wantsStandIn t = false by simpa using List.all_eq_true.1 hall t hm)⟩)
    (by kernel_rfl)
end Go.Proofs.YthfpmipeejjogaaGreatDoor
#print axioms Go.Proofs.YthfpmipeejjogaaGreatDoor.multiSweeps_holds
