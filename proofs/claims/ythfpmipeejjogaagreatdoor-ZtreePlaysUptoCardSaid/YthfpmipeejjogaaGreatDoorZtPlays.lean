/- A tree answers every sequence of calls as the document says: paths, versions, counters, owners, errors: where what it reads is of bulk at most 1048576. No other condition beside what the card says of the package variables, which are as the program's text lays them. -/
import Derived.SevenTiedAt
import Derived.Test.YthfpmipeejjogaaGreatDoorRows
import Derived.Test.YthfpmipeejjogaaGreatDoorCards
import Derived.Test.YthfpmipeejjogaaGreatDoorTie
import Derived.Test.YthfpmipeejjogaaGreatDoorXN
namespace Go.Proofs.YthfpmipeejjogaaGreatDoor.Zt
open Go Go.Proofs.YthfpmipeejjogaaGreatDoor.SL Go.ChangeShapes Go.WideShapes Go.ChangeAt Go.RowKit
set_option linter.unusedVariables false

set_option maxRecDepth 100000 in
theorem ztreePlays_lifted (os : Os) (started : os.Started) (H : Type) (enc : TypeId × Value → H) (F : Stop.Interp) :
    ReturnsInHanded {} Tryz.checked os 7 .any (fun w args => ((Rows.OpenSpec.upto Rows.ztreePlaysSpec).pre enc Tryz.prog Tryz.f7 [] false w args ∧ laidMetH Tryz.prog LAIDU w) ∧ sizedMet enc Tryz.prog Tryz.f7 (Rows.OpenSpec.upto Rows.ztreePlaysSpec) false w args)
      (((Rows.OpenSpec.upto Rows.ztreePlaysSpec).at F).post enc Tryz.prog Tryz.f7 false true false false) := by
  refine wrapU (C := Tryz.checked) (X := fun w _ => laidMetH Tryz.prog LAIDU w) (fun _ _ _ hh h => h.of_heap hh) own started (by kernel_rfl) Tryz.func7
    (witnessU (enc := enc) (C := Tryz.checked) (s := Rows.ztreePlaysSpec) (X := fun w _ => laidMetH Tryz.prog LAIDU w) (World.laidAll Tryz.prog os LAIDU) #[.slice none 0 0, .slice none 0 0, .slice none 0 0] 8 (World.laidAll_os _ _ _)
      (World.shaped_of_ZipB (by kernel_rfl) (by kernel_rfl)) (by kernel_rfl) (x := ([.nil, .nil, .nil], [], [])) (by kernel_rfl) (by kernel_rfl) (by kernel_rfl)
      (by rw [MakeChecks.laidMetH_plain _ _ _ (by kernel_rfl)]; exact laidMet_laidAll _ (by kernel_rfl) (by kernel_rfl))) ?_
  intro W base args ds gs before hval0 hW hk hsz0 hL hsh _
  have hval : ∀ (j : Nat) t v, Tryz.f7.params[j]? = some t → args[j]? = some v → Value.okWide Tryz.prog W .any base t v := hval0
  have hsz : (DataW.weightsEach Tryz.prog (Tryz.f7.params.toList ++ Rows.ztreePlaysSpec.plain.varTypes Tryz.prog) (ds ++ gs)).all (· ≤ reachBytes) = true := hsz0
  have hW' := hW
  obtain ⟨p, q, hA0, hV, rfl, hfz, hnd⟩ := hW
  have hA : DataW.TrodAll enc Tryz.prog W 0 (fun _ => true) true Tryz.f7.params.toList args.toList ds p := hA0
  rw [Tryz.params7] at hA hval hsz
  obtain ⟨v0, vs0, d0, ds0, p0, q0, hargs, rfl, rfl, h0, r0⟩ := trodAll_cons hA
  obtain ⟨v1, vs1, d1, ds1, p1, q1, rfl, rfl, rfl, h1, r1⟩ := trodAll_cons r0
  obtain ⟨v2, vs2, d2, ds2, p2, q2, rfl, rfl, rfl, h2, r2⟩ := trodAll_cons r1
  obtain ⟨rfl, rfl, rfl⟩ := trodAll_nil r2
  obtain rfl : args = #[v0, v1, v2] := by cases args; simp_all
  obtain ⟨rfl, rfl⟩ := trodVars_none hV
  have g := globU hsh hL
  obtain ⟨a0, len0, cap0, rfl⟩ := okWide_slice Zt.u22 (hval 0 22 v0 rfl rfl)
  obtain ⟨a1, len1, cap1, rfl⟩ := okWide_slice Zt.u25 (hval 1 25 v1 rfl rfl)
  obtain ⟨a2, len2, cap2, rfl⟩ := okWide_slice Zt.u58' (hval 2 58 v2 rfl rfl)
  have harg : SL.Arg Tryz.prog W H enc 22 [.slice a0 len0 cap0] := by
    obtain ⟨m, hm⟩ := h0
    exact ⟨m, d0, p0, hm, SL.weightsEach_get (i := 0) rfl rfl hsz⟩
  have hlen : len0 ≤ 1048576 := by
    obtain ⟨m, hm⟩ := h0
    exact upto_len Zt.u22 hm (upto_get hk (i := 0) rfl)
  have harg1 : SL.Arg Tryz.prog W H enc 25 [.slice a1 len1 cap1] := by
    obtain ⟨m, hm⟩ := h1
    exact ⟨m, d1, p1, hm, SL.weightsEach_get (i := 1) rfl rfl hsz⟩
  have hlen1 : len1 ≤ 1048576 := by
    obtain ⟨m, hm⟩ := h1
    exact upto_len Zt.u25 hm (upto_get hk (i := 1) rfl)
  have harg2 : SL.Arg Tryz.prog W H enc 58 [.slice a2 len2 cap2] := by
    obtain ⟨m, hm⟩ := h2
    exact ⟨m, d2, p2, hm, SL.weightsEach_get (i := 2) rfl rfl hsz⟩
  have hlen2 : len2 ≤ 1048576 := by
    obtain ⟨m, hm⟩ := h2
    exact upto_len Zt.u58' hm (upto_get hk (i := 2) rfl)
  obtain ⟨os', hO, hl, hd⟩ := ops_of harg
  obtain ⟨ks', hkl, _, hA1⟩ := strings_of harg1
  obtain ⟨ws', hwl, hW2⟩ := ints_of harg2
  have hc : SL.ACalls Tryz.prog W (all W) 7 #[Sl.v ⟨a0, len0, cap0⟩, Sl.v ⟨a1, len1, cap1⟩, Sl.v ⟨a2, len2, cap2⟩] (fun _ => none) fun v _ => v = .bool true :=
    SL.ACalls.mono (plays_ok (B := W) (σ := fun _ => none) g hO (by rw [← hO.1]; exact hlen) hd hA1 (by rw [hkl]; exact hlen1) hW2 (by rw [hwl]; exact hlen2)) fun v σ ⟨r, hv, hr⟩ => by rw [hv, hr]

  refine (calls_of hc).mono fun e W' ⟨⟨v, he, hv⟩, bel⟩ => ?_
  subst hv
  subst he
  exact ⟨_, rfl, _, _, _, [], _, [], hW', trodAll_mk1 (shut_bool Zt.u4b _), (trodAll_cons_mk (Below.trod laidOut (by kernel_rfl) (of_decide_eq_true (by kernel_rfl)) h0 bel (trod_lt' h0)) (trodAll_cons_mk (Below.trod laidOut (by kernel_rfl) (of_decide_eq_true (by kernel_rfl)) h1 bel (trod_lt' h1)) (trodAll_cons_mk (Below.trod laidOut (by kernel_rfl) (of_decide_eq_true (by kernel_rfl)) h2 bel (trod_lt' h2)) trodAll_mk0))), rfl, bel.frame _, fun h => by cases h⟩
theorem ztreePlays_over : Rows.ztreePlaysUptoRow.holds Tryz.pinned (Rows.OpenSpec.upto Rows.ztreePlaysSpec) :=
  OpenClaim.holds_of_cond 7 Tryz.f7 rfl rfl rfl rfl rfl rfl rfl ⟨rfl, rfl, rfl, rfl, rfl⟩ rfl rfl rfl rfl rfl (by kernel_rfl) Tryz.func7 (by kernel_rfl)
    (of_decide_eq_true (by kernel_rfl)) (by unfold Func.isWrapper; first | (rw [if_pos (by decide +kernel)]; kernel_rfl) | (rw [if_neg (by decide +kernel)]; exact ⟨rfl, rfl⟩))
    (fun os started H enc _ F => ztreePlays_lifted os started H enc F)
end Go.Proofs.YthfpmipeejjogaaGreatDoor.Zt
namespace Go.Proofs.YthfpmipeejjogaaGreatDoor
open Go
/-- The card, for the claim. -/
theorem ztreePlays_holds : Rows.ZtreePlaysUptoCardSaid :=
  Claim7.holds_tied_plain_at .later [] [.data, .data, .data, .data, .sentinel, .pinned] true (true, "0795d736229012fdcd1938897e17abbc5ba3a3355eb54bd2e5fc828daec2c83e") false
    Zt.ztreePlays_over (fun _ h => by cases h) (by kernel_rfl) (fun _ h => by cases h) ztreePlaysUpto_row_tie rfl ⟨rfl, rfl⟩ (by kernel_rfl) rfl
    (fun f fn hf hfn => by
      obtain rfl : f = 7 := Option.some.inj ((show Tryz.prog.funcNamed "althing/althinglaw07.ZtreePlays" = some 7 by kernel_rfl).symm.trans hf) |>.symm
      obtain rfl : fn = Tryz.f7 := (Option.some.inj (Tryz.func7.symm.trans hfn)).symm
      exact ⟨by kernel_rfl, fun j t ht => by
        rw [Tryz.params7] at ht
        have hm : t ∈ [22, 25, 58] := by simpa using Array.mem_of_getElem? ht
        have hall : ([22, 25, 58].all fun u => !Tryz.prog.wantsStandIn u) = true := by kernel_rfl
        exact (show Tryz.prog.wantsStandIn t = false by simpa using List.all_eq_true.1 hall t hm)⟩)
    (by kernel_rfl)
end Go.Proofs.YthfpmipeejjogaaGreatDoor
#print axioms Go.Proofs.YthfpmipeejjogaaGreatDoor.ztreePlays_holds
