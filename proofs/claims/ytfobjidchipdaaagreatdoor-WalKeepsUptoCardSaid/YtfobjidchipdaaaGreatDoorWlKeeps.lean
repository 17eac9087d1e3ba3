/- Behind any crash a log that is opened again has all records that were safe, and behind them a beginning of those written since: where what it reads is of bulk at most 1048576. No other condition beside what the card says of the package variables, which are as the program's text lays them. -/
import Derived.SevenTiedAt
import Derived.Test.YtfobjidchipdaaaGreatDoorRows
import Derived.Test.YtfobjidchipdaaaGreatDoorCards
import Derived.Test.YtfobjidchipdaaaGreatDoorTie
import Derived.Test.YtfobjidchipdaaaGreatDoorXN
namespace Go.Proofs.YtfobjidchipdaaaGreatDoor.Zt
open Go Go.Proofs.YtfobjidchipdaaaGreatDoor.SL Go.ChangeShapes Go.WideShapes Go.ChangeAt Go.RowKit
set_option linter.unusedVariables false
theorem u77 : ∃ fs, Tryz.prog.underlying 77 = some (.struct fs) ∧ fs.toList.map (fun f => (f.type, f.offset)) = [(3, 0), (44, 1), (44, 2), (23, 3)] := ⟨_, Tryz.underlying77, rfl⟩
theorem c77 : Tryz.prog.cellsOf 77 = 4 := by kernel_rfl
set_option maxRecDepth 100000 in
theorem kept_of {W : World} {H : Type} {enc : TypeId × Value → H} {cs : List Value} (h : SL.Arg Tryz.prog W H enc 77 cs) :
    ∃ (c : Int) (s1 s2 s3 : Sl) (k1 k2 : List (Sl × Str)) (ws : List Int), cs = [vI c, Sl.v s1, Sl.v s2, Sl.v s3] ∧ SL.Read (all W) (fun _ => none) s1 ((k1.map (·.1)).map Sl.v) ∧ Sn.Given (all W) k1 ∧ SL.Read (all W) (fun _ => none) s2 ((k2.map (·.1)).map Sl.v) ∧ Sn.Given (all W) k2 ∧ SL.Read (all W) (fun _ => none) s3 (ws.map vI) ∧ k1.length ≤ 5864062014805 ∧ k2.length ≤ 5864062014805 ∧ ws.length ≤ 17592186043904 := by
  obtain ⟨fs, hu, hfs⟩ := u77
  obtain ⟨hl, hel⟩ := h.struct hu
  rw [c77] at hl
  match cs, hl with
  | [v0, v1, v2, v3], _ =>
    have get : ∀ i t o, ([(3, 0), (44, 1), (44, 2), (23, 3)] : List (TypeId × Nat))[i]? = some (t, o) → SL.Arg Tryz.prog W H enc t (([v0, v1, v2, v3].drop o).take (Tryz.prog.cellsOf t)) := fun i t o hi => by
      rw [← hfs, List.getElem?_map] at hi
      obtain ⟨f, hf, e⟩ := Option.map_eq_some_iff.1 hi
      have := hel i f hf
      simp only [Prod.mk.injEq] at e
      rw [e.1, e.2] at this
      exact this
    have a0 := get 0 _ _ rfl
    have a1 := get 1 _ _ rfl
    have a2 := get 2 _ _ rfl
    have a3 := get 3 _ _ rfl
    rw [c3] at a0
    rw [c44] at a1 a2
    rw [c23] at a3
    obtain ⟨x0, rfl⟩ := Arg.i64 u3' a0
    obtain ⟨p1, l1, k1, rfl⟩ := sl_of u44' a1
    obtain ⟨p2, l2, k2, rfl⟩ := sl_of u44' a2
    obtain ⟨p3, l3, k3, rfl⟩ := sl_of u23 a3
    obtain ⟨ks1, e1, g1, f1⟩ := lists_of a1
    obtain ⟨ks2, e2, g2, f2⟩ := lists_of a2
    obtain ⟨ws, e3, g3⟩ := ints_of a3
    exact ⟨x0, ⟨p1, l1, k1⟩, ⟨p2, l2, k2⟩, ⟨p3, l3, k3⟩, ks1, ks2, ws, rfl, g1, f1, g2, f2, g3, e1, e2, e3⟩
set_option maxRecDepth 100000 in
theorem walKeeps_lifted (os : Os) (started : os.Started) (H : Type) (enc : TypeId × Value → H) (F : Stop.Interp) :
    ReturnsInHanded {} Tryz.checked os 7 .any (fun w args => ((Rows.OpenSpec.upto Rows.walKeepsSpec).pre enc Tryz.prog Tryz.f7 [] false w args ∧ laidMetH Tryz.prog LAID w) ∧ sizedMet enc Tryz.prog Tryz.f7 (Rows.OpenSpec.upto Rows.walKeepsSpec) false w args)
      (((Rows.OpenSpec.upto Rows.walKeepsSpec).at F).post enc Tryz.prog Tryz.f7 false true false false) := by
  refine wrapU (C := Tryz.checked) (X := fun w _ => laidMetH Tryz.prog LAID w) (fun _ _ _ hh h => h.of_heap hh) own started (by kernel_rfl) Tryz.func7
    (witnessU (enc := enc) (C := Tryz.checked) (s := Rows.walKeepsSpec) (X := fun w _ => laidMetH Tryz.prog LAID w) (World.laidAll Tryz.prog os LAID) #[.agg #[.int .i64 0, .slice none 0 0, .slice none 0 0, .slice none 0 0]] 8 (World.laidAll_os _ _ _)
      (World.shaped_of_ZipB (by kernel_rfl) (by kernel_rfl)) (by kernel_rfl) (x := ([.agg [.lit (.int .i64 0), .nil, .nil, .nil]], [], [])) (by kernel_rfl) (by kernel_rfl) (by kernel_rfl)
      (by rw [MakeChecks.laidMetH_plain _ _ _ (by kernel_rfl)]; exact laidMet_laidAll _ (by kernel_rfl) (by kernel_rfl))) ?_
  intro W base args ds gs before hval0 hW hk hsz0 hL hsh _
  have hval : ∀ (j : Nat) t v, Tryz.f7.params[j]? = some t → args[j]? = some v → Value.okWide Tryz.prog W .any base t v := hval0
  have hsz : (DataW.weightsEach Tryz.prog (Tryz.f7.params.toList ++ Rows.walKeepsSpec.plain.varTypes Tryz.prog) (ds ++ gs)).all (· ≤ reachBytes) = true := hsz0
  have hW' := hW
  obtain ⟨p, q, hA0, hV, rfl, hfz, hnd⟩ := hW
  have hA : DataW.TrodAll enc Tryz.prog W 0 (fun _ => true) true Tryz.f7.params.toList args.toList ds p := hA0
  rw [Tryz.params7] at hA hval hsz
  obtain ⟨v0, d0, rfl, rfl, h0⟩ := trodAll_one hA
  obtain ⟨rfl, rfl⟩ := trodVars_none hV
  obtain ⟨fs, hu, _⟩ := u77
  obtain ⟨cs, rfl, _⟩ := okWide_struct hu (hval 0 77 v0 rfl rfl)
  have harg : SL.Arg Tryz.prog W H enc 77 cs.toList := by
    obtain ⟨m, hm⟩ := h0
    exact ⟨m, d0, p, hm, SL.weightsEach_get (i := 0) rfl rfl hsz⟩
  obtain ⟨c, s1, s2, s3, k1, k2, ws, ecs, g1, f1, g2, f2, g3, e1, e2, e3⟩ := kept_of harg
  obtain rfl : cs = #[vI c, Sl.v s1, Sl.v s2, Sl.v s3] := by cases cs; simp_all
  have hb := upto_get hk (i := 0) rfl
  have b1 : s1.len ≤ 1048576 := by
    obtain ⟨m, hm⟩ := h0
    exact upto_fld u77 hm hb (i := 1) rfl u44' (by rw [c44]; rfl)
  have b2 : s2.len ≤ 1048576 := by
    obtain ⟨m, hm⟩ := h0
    exact upto_fld u77 hm hb (i := 2) rfl u44' (by rw [c44]; rfl)
  rw [g1.1, List.length_map, List.length_map] at b1
  rw [g2.1, List.length_map, List.length_map] at b2
  have hc : SL.ACalls Tryz.prog W (all W) 7 #[.agg #[vI c, Sl.v s1, Sl.v s2, Sl.v s3]] (fun _ => none) fun v _ => v = .bool true :=
    SL.ACalls.mono (Wl.walKeeps_ok (B := W) (σ := fun _ => none) (glob_of hL) g1 f1 g2 f2 g3 (by omega) (by omega) (by omega)) fun v σ ⟨r, hv, hr⟩ => by rw [hv, hr]
  refine (calls_of hc).mono fun e W' ⟨⟨v, he, hv⟩, bel⟩ => ?_
  subst hv
  subst he
  exact ⟨_, rfl, _, _, _, [], _, [], hW', trodAll_mk1 (shut_bool Zt.u4' _), (trodAll_cons_mk (Below.trod laidOut (by kernel_rfl) (of_decide_eq_true (by kernel_rfl)) h0 bel (trod_lt' h0)) trodAll_mk0), rfl, bel.frame _, fun h => by cases h⟩
theorem walKeeps_over : Rows.walKeepsUptoRow.holds Tryz.pinned (Rows.OpenSpec.upto Rows.walKeepsSpec) :=
  OpenClaim.holds_of_cond 7 Tryz.f7 rfl rfl rfl rfl rfl rfl rfl ⟨rfl, rfl, rfl, rfl, rfl⟩ rfl rfl rfl rfl rfl (by kernel_rfl) Tryz.func7 (by kernel_rfl)
    (of_decide_eq_true (by kernel_rfl)) (by unfold Func.isWrapper; first | (rw [if_pos (by decide +kernel)]; kernel_rfl) | (rw [if_neg (by decide +kernel)]; exact ⟨rfl, rfl⟩))
    (fun os started H enc _ F => walKeeps_lifted os started H enc F)
end Go.Proofs.YtfobjidchipdaaaGreatDoor.Zt
namespace Go.Proofs.YtfobjidchipdaaaGreatDoor
open Go
/-- The card, for the claim. -/
theorem walKeeps_holds : Rows.WalKeepsUptoCardSaid :=
  Claim7.holds_tied_plain_at .later [] [.data, .data, .data, .data, .sentinel, .sentinel, .pinned] true (true, "0b6ed476258cfae761cb51e7b5ba6357136c1bc4836148a81dc250e68601b9af") true
    Zt.walKeeps_over (fun _ h => by cases h) (by kernel_rfl) (fun _ h => by cases h) walKeepsUpto_row_tie rfl ⟨rfl, rfl⟩ (by kernel_rfl) rfl
    (fun f fn hf hfn => by
      obtain rfl : f = 7 := Option.some.inj ((show Tryz.prog.funcNamed "althing/althinglaw04.WalKeeps" = some 7 by kernel_rfl).symm.trans hf) |>.symm
      obtain rfl : fn = Tryz.f7 := (Option.some.inj (Tryz.func7.symm.trans hfn)).symm
      exact ⟨by kernel_rfl, fun j t ht => by
        rw [Tryz.params7] at ht
        have hm : t ∈ [77] := by simpa using Array.mem_of_getElem? ht
        have hall : ([77].all fun u => !Tryz.prog.wantsStandIn u) = true := by kernel_rfl
        exact (show Tryz.prog.wantsStandIn t = false by simpa using List.all_eq_true.1 hall t hm)⟩)
    (by kernel_rfl)
end Go.Proofs.YtfobjidchipdaaaGreatDoor
#print axioms Go.Proofs.YtfobjidchipdaaaGreatDoor.walKeeps_holds
