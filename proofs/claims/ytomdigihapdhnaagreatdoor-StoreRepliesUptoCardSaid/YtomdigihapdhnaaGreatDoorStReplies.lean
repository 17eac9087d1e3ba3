/- Replies are written and read as the document says, any reply, any bytes: where what it reads is of bulk at most 1048576. No other condition beside what the card says of the package variables, which are as the program's text lays them. -/
import Derived.SevenTiedAt
import Derived.Test.YtomdigihapdhnaaGreatDoorRows
import Derived.Test.YtomdigihapdhnaaGreatDoorCards
import Derived.Test.YtomdigihapdhnaaGreatDoorTie
import Derived.Test.YtomdigihapdhnaaGreatDoorXO
namespace Go.Proofs.YtomdigihapdhnaaGreatDoor.Zt
open Go Go.Proofs.YtomdigihapdhnaaGreatDoor.SL Go.ChangeShapes Go.WideShapes Go.ChangeAt Go.RowKit
set_option linter.unusedVariables false

set_option maxRecDepth 100000 in
theorem storeReplies_lifted (os : Os) (started : os.Started) (H : Type) (enc : TypeId × Value → H) (F : Stop.Interp) :
    ReturnsInHanded {} Tryz.checked os 3 .any (fun w args => ((Rows.OpenSpec.upto Rows.storeRepliesSpec).pre enc Tryz.prog Tryz.f3 [] false w args ∧ laidMetH Tryz.prog LAIDU w) ∧ sizedMet enc Tryz.prog Tryz.f3 (Rows.OpenSpec.upto Rows.storeRepliesSpec) false w args)
      (((Rows.OpenSpec.upto Rows.storeRepliesSpec).at F).post enc Tryz.prog Tryz.f3 false true false false) := by
  refine wrapU (C := Tryz.checked) (X := fun w _ => laidMetH Tryz.prog LAIDU w) (fun _ _ _ hh h => h.of_heap hh) own started (by kernel_rfl) Tryz.func3
    (witnessU (enc := enc) (C := Tryz.checked) (s := Rows.storeRepliesSpec) (X := fun w _ => laidMetH Tryz.prog LAIDU w) (World.laidAll Tryz.prog os LAIDU) #[.agg #[.int .i64 0, .int .i64 0, .slice none 0 0, .int .i64 0, .slice none 0 0, .int .i64 0, .int .i64 0, .int .i64 0, .int .i64 0, .slice none 0 0, .slice none 0 0, .int .i64 0], .slice none 0 0] 8 (World.laidAll_os _ _ _)
      (World.shaped_of_ZipB (by kernel_rfl) (by kernel_rfl)) (by kernel_rfl) (x := ([.agg [.lit (.int .i64 0), .lit (.int .i64 0), .nil, .lit (.int .i64 0), .nil, .agg [.lit (.int .i64 0), .lit (.int .i64 0), .lit (.int .i64 0), .lit (.int .i64 0)], .nil, .nil, .lit (.int .i64 0)], .nil], [], [])) (by kernel_rfl) (by kernel_rfl) (by kernel_rfl)
      (by rw [MakeChecks.laidMetH_plain _ _ _ (by kernel_rfl)]; exact laidMet_laidAll _ (by kernel_rfl) (by kernel_rfl))) ?_
  intro W base args ds gs before hval0 hW hk hsz0 hL hsh _
  have hval : ∀ (j : Nat) t v, Tryz.f3.params[j]? = some t → args[j]? = some v → Value.okWide Tryz.prog W .any base t v := hval0
  have hsz : (DataW.weightsEach Tryz.prog (Tryz.f3.params.toList ++ Rows.storeRepliesSpec.plain.varTypes Tryz.prog) (ds ++ gs)).all (· ≤ reachBytes) = true := hsz0
  have hW' := hW
  obtain ⟨p, q, hA0, hV, rfl, hfz, hnd⟩ := hW
  have hA : DataW.TrodAll enc Tryz.prog W 0 (fun _ => true) true Tryz.f3.params.toList args.toList ds p := hA0
  rw [Tryz.params3] at hA hval hsz
  obtain ⟨v0, vs0, d0, ds0, p0, q0, hargs, rfl, rfl, h0, r0⟩ := trodAll_cons hA
  obtain ⟨v1, vs1, d1, ds1, p1, q1, rfl, rfl, rfl, h1, r1⟩ := trodAll_cons r0
  obtain ⟨rfl, rfl, rfl⟩ := trodAll_nil r1
  obtain rfl : args = #[v0, v1] := by cases args; simp_all
  obtain ⟨rfl, rfl⟩ := trodVars_none hV
  have g := globU hsh hL
  obtain ⟨cs, rfl, hcz⟩ := okWide_struct Tryz.underlying30 (hval 0 30 v0 rfl rfl)
  obtain ⟨a1, len1, cap1, rfl⟩ := okWide_slice Zt.uL2 (hval 1 24 v1 rfl rfl)
  have u0 : SL.UArg 1048576 Tryz.prog W H enc 30 cs.toList := by
    obtain ⟨m, hm⟩ := h0
    exact ⟨m, d0, p0, hm, SL.weightsEach_get (i := 0) rfl rfl hsz, upto_get hk (i := 0) rfl⟩
  have u1 : SL.UArg 1048576 Tryz.prog W H enc 24 [.slice a1 len1 cap1] := by
    obtain ⟨m, hm⟩ := h1
    exact ⟨m, d1, p1, hm, SL.weightsEach_get (i := 1) rfl rfl hsz, upto_get hk (i := 1) rfl⟩
  obtain ⟨x, rs, bs, ns, es, hcs, hx, sx, hbad, hr1, hr2⟩ := reply_of u0
  obtain ⟨b, hbl, hR, hcap⟩ := bytesU (s := ⟨a1, len1, cap1⟩) u1
  obtain rfl : cs = (repV x rs bs ns es).toArray := by rw [← hcs]
  have hc : SL.ACalls Tryz.prog W (all W) 3 #[.agg (repV x rs bs ns es).toArray, Sl.v ⟨a1, len1, cap1⟩] (fun _ => none) fun v _ => v = .bool true :=
    SL.ACalls.mono (replies_ok (B := W) (σ := fun _ => none) g hx hR hcap sx hbad hr1 hr2 hbl) fun v σ ⟨r, hv, hr⟩ => by rw [hv, hr]

  refine (calls_of hc).mono fun e W' ⟨⟨v, he, hv⟩, bel⟩ => ?_
  subst hv
  subst he
  exact ⟨_, rfl, _, _, _, [], _, [], hW', trodAll_mk1 (shut_bool Zt.u4b _), (trodAll_cons_mk (Below.trod laidOut (by kernel_rfl) (of_decide_eq_true (by kernel_rfl)) h0 bel (trod_lt' h0)) (trodAll_cons_mk (Below.trod laidOut (by kernel_rfl) (of_decide_eq_true (by kernel_rfl)) h1 bel (trod_lt' h1)) trodAll_mk0)), rfl, bel.frame _, fun h => by cases h⟩
theorem storeReplies_over : Rows.storeRepliesUptoRow.holds Tryz.pinned (Rows.OpenSpec.upto Rows.storeRepliesSpec) :=
  OpenClaim.holds_of_cond 3 Tryz.f3 rfl rfl rfl rfl rfl rfl rfl ⟨rfl, rfl, rfl, rfl, rfl⟩ rfl rfl rfl rfl rfl (by kernel_rfl) Tryz.func3 sr_closed
    (of_decide_eq_true (by kernel_rfl)) (by unfold Func.isWrapper; first | (rw [if_pos (by decide +kernel)]; kernel_rfl) | (rw [if_neg (by decide +kernel)]; exact ⟨rfl, rfl⟩))
    (fun os started H enc _ F => storeReplies_lifted os started H enc F)
/-! the card's closed facts, each a lemma of its own -/
set_option maxRecDepth 100000 in
theorem sc_wf : Rows.storeRepliesUptoRow.wfByText (Rows.OpenSpec.upto Rows.storeRepliesSpec) = true := by kernel_rfl
set_option maxRecDepth 100000 in
theorem sc_main : Tryz.prog.mainIs = some (true, "49eed35f75761d902e5bd58df56efda49f97cffcfa98a6c6e8fddb4c184c610c".toList) := by kernel_rfl
set_option maxRecDepth 100000 in
theorem sc_looks : true = Tryz.prog.looks [] := by kernel_rfl
set_option maxRecDepth 100000 in
theorem sc_goes : false = Rows.storeRepliesUptoRow.goesBy Tryz.prog := by kernel_rfl
end Go.Proofs.YtomdigihapdhnaaGreatDoor.Zt
namespace Go.Proofs.YtomdigihapdhnaaGreatDoor
open Go
/-- The card, for the claim. -/
theorem storeReplies_holds : Rows.StoreRepliesUptoCardSaid :=
  Claim7.holds_tied_plain_at .later [] [.data, .data, .data, .data, .sentinel, .pinned] true (true, "49eed35f75761d902e5bd58df56efda49f97cffcfa98a6c6e8fddb4c184c610c") true
    Zt.storeReplies_over (fun _ h => by cases h) Zt.sc_wf (fun _ h => by cases h) storeRepliesUpto_row_tie rfl ⟨rfl, rfl⟩ Zt.sc_main rfl
    (fun f fn hf hfn => by
      obtain rfl : f = 3 := Option.some.inj ((show Tryz.prog.funcNamed "althing/althinglaw17.StoreReplies" = some 3 by kernel_rfl).symm.trans hf) |>.symm
      obtain rfl : fn = Tryz.f3 := (Option.some.inj (Tryz.func3.symm.trans hfn)).symm
      exact ⟨Zt.sc_looks, fun j t ht => by
        rw [Tryz.params3] at ht
        have hm : t ∈ [30, 24] := by simpa using Array.mem_of_getElem? ht
        have hall : ([30, 24].all fun u => !Tryz.prog.wantsStandIn u) = true := by kernel_rfl
        exact (show Tryz.prog.wantsStandIn t = false by simpa using List.all_eq_true.1 hall t hm)⟩)
    Zt.sc_goes
end Go.Proofs.YtomdigihapdhnaaGreatDoor
#print axioms Go.Proofs.YtomdigihapdhnaaGreatDoor.storeReplies_holds
