/- Chunks are made as the document makes them, and any chunks are put together as the document puts them: for every input. No condition beside what the card says of the package variables, which are as the program's text lays them. -/
import Derived.SevenTiedAt
import Derived.Test.YtfobjidchipdaaaGreatDoorRows
import Derived.Test.YtfobjidchipdaaaGreatDoorCards
import Derived.Test.YtfobjidchipdaaaGreatDoorTie
import Derived.Test.YtfobjidchipdaaaGreatDoorXN
namespace Go.Proofs.YtfobjidchipdaaaGreatDoor.Zt
open Go Go.Proofs.YtfobjidchipdaaaGreatDoor.SL Go.ChangeShapes Go.WideShapes Go.ChangeAt Go.RowKit
set_option linter.unusedVariables false
theorem u46 : ∃ fs, Tryz.prog.underlying 46 = some (.struct fs) ∧ fs.toList.map (fun f => (f.type, f.offset)) = [(3, 0), (22, 1), (3, 2), (44, 3)] := ⟨_, Tryz.underlying46, rfl⟩
theorem c46 : Tryz.prog.cellsOf 46 = 4 := by kernel_rfl
theorem u44' : Tryz.prog.underlying 44 = some (.slice 22) := by kernel_rfl
theorem c44 : Tryz.prog.cellsOf 44 = 1 := by kernel_rfl
theorem b22 : Tryz.prog.bytesOf 22 = 24 := by kernel_rfl
theorem bytesC_of {W : World} {H : Type} {enc : TypeId × Value → H} {a : Option Addr} {len cap : Nat} (h : SL.Arg Tryz.prog W H enc 22 [.slice a len cap]) : ∃ d : Str, d.length ≤ 140737488351232 ∧ SL.Read (all W) (fun _ => none) ⟨a, len, cap⟩ (d.map vU) ∧ len ≤ cap := by
  obtain ⟨d, h1, h2, h3⟩ := cells_of (f := vU) 0 u30 c5 b5 (fun u hu => hu.u8 u5) h
  exact ⟨d, by omega, h2, h3⟩
/-- a list of lists of bytes -/
theorem lists_of {W : World} {H : Type} {enc : TypeId × Value → H} {a : Option Addr} {len cap : Nat} (h : SL.Arg Tryz.prog W H enc 44 [.slice a len cap]) :
    ∃ ks : List (Sl × Str), ks.length ≤ 17592186044416 ∧ SL.Read (all W) (fun _ => none) ⟨a, len, cap⟩ ((ks.map (·.1)).map Sl.v) ∧ Sn.Given (all W) ks := by
  rcases h.slice u44' with ⟨rfl, rfl, rfl⟩ | ⟨x, rfl, hl, hbb, hel⟩
  · exact ⟨[], by simp, ⟨rfl, fun _ => rfl, fun p h => by cases h⟩, fun x h => by cases h⟩
  · rw [c22] at hel
    rw [b22] at hbb
    have key : ∀ j : Nat, ∃ c : Sl × Str, j < len → W.cell? (x.add j) = some (Sl.v c.1) ∧ SL.Read (all W) (fun _ => none) c.1 (c.2.map vU) ∧ c.1.len ≤ c.1.cap ∧ c.2.length ≤ 140737488355328 := fun j => by
      by_cases hj : j < len
      · obtain ⟨cs, h1, h2, h3⟩ := hel j hj
        match cs, h1 with
        | [u], _ =>
          obtain ⟨p1, l1, k1, rfl⟩ := sl_of u30 h3
          obtain ⟨d1, e1, g1, f1⟩ := bytesC_of h3
          have := h2 0 (by omega)
          rw [Nat.mul_one, add_zero] at this
          exact ⟨(⟨p1, l1, k1⟩, d1), fun _ => ⟨this, g1, f1, Nat.le_trans e1 (by decide)⟩⟩
      · exact ⟨(⟨none, 0, 0⟩, []), fun h => absurd h hj⟩
    obtain ⟨g, hg⟩ := Classical.axiomOfChoice key
    refine ⟨(List.range len).map g, ?_, ⟨by simp, (fun h => by cases h), fun p hp i v hv => ?_⟩, fun c hc => ?_⟩
    · simp [reachBytes] at hbb ⊢
      omega
    · cases hp
      have hi : i < len := by
        rcases Nat.lt_or_ge i len with h | h
        · exact h
        · rw [List.getElem?_eq_none (by simpa using h)] at hv; cases hv
      rw [List.getElem?_map, List.getElem?_map, List.getElem?_map, List.getElem?_range hi] at hv
      cases hv
      exact all_cell _ (hg i hi).1
    · obtain ⟨i, hi, rfl⟩ := List.mem_map.1 hc
      exact (hg i (List.mem_range.1 hi)).2
set_option maxRecDepth 100000 in
theorem snapArg_of {W : World} {H : Type} {enc : TypeId × Value → H} {cs : List Value} (h : SL.Arg Tryz.prog W H enc 46 cs) :
    ∃ (n1 n2 : Int) (s1 s4 : Sl) (d : Str) (ks : List (Sl × Str)), cs = [vI n1, Sl.v s1, vI n2, Sl.v s4] ∧ SL.Read (all W) (fun _ => none) s1 (d.map vU) ∧ s1.len ≤ s1.cap ∧ SL.Read (all W) (fun _ => none) s4 ((ks.map (·.1)).map Sl.v) ∧ Sn.Given (all W) ks ∧ d.length ≤ 140737488351232 ∧ ks.length ≤ 17592186044416 := by
  obtain ⟨fs, hu, hfs⟩ := u46
  obtain ⟨hl, hel⟩ := h.struct hu
  rw [c46] at hl
  match cs, hl with
  | [v0, v1, v2, v3], _ =>
    have get : ∀ i t o, ([(3, 0), (22, 1), (3, 2), (44, 3)] : List (TypeId × Nat))[i]? = some (t, o) → SL.Arg Tryz.prog W H enc t (([v0, v1, v2, v3].drop o).take (Tryz.prog.cellsOf t)) := fun i t o hi => by
      rw [← hfs, List.getElem?_map] at hi
      obtain ⟨f, hf, e⟩ := Option.map_eq_some_iff.1 hi
      have := hel i f hf
      simp only [Prod.mk.injEq] at e
      rw [e.1, e.2] at this
      exact this
    have a0 := get 0 _ _ rfl
    have a1 := get 1 _ _ rfl
    have a2 := get 2 _ _ rfl
    have a3 := get 3 _ _ rfl
    rw [c3] at a0 a2
    rw [c22] at a1
    rw [c44] at a3
    obtain ⟨x0, rfl⟩ := Arg.i64 u3' a0
    obtain ⟨x2, rfl⟩ := Arg.i64 u3' a2
    obtain ⟨p1, l1, k1, rfl⟩ := sl_of u30 a1
    obtain ⟨p3, l3, k3, rfl⟩ := sl_of u44' a3
    obtain ⟨d1, e1, g1, f1⟩ := bytesC_of a1
    obtain ⟨ks, e3, g3, f3⟩ := lists_of a3
    exact ⟨x0, x2, ⟨p1, l1, k1⟩, ⟨p3, l3, k3⟩, d1, ks, rfl, g1, f1, g3, f3, e1, e3⟩
set_option maxRecDepth 100000 in
theorem lifted (os : Os) (started : os.Started) (H : Type) (enc : TypeId × Value → H) :
    ReturnsInHanded {} Tryz.checked os 4 .any (fun w args => (Rows.snapChunksSpec.pre enc Tryz.prog Tryz.f4 [] false w args ∧ laidMetH Tryz.prog LAIDC w) ∧ sizedMet enc Tryz.prog Tryz.f4 (OpenSpec.ofChange Rows.snapChunksSpec) false w args)
      (Rows.snapChunksSpec.post enc Tryz.prog Tryz.f4 false true false false) := by
  refine wrap (C := Tryz.checked) (X := fun w _ => laidMetH Tryz.prog LAIDC w) (fun _ _ _ hh h => h.of_heap hh) own started (by kernel_rfl) Tryz.func4
    (ChangeSpec.witness_shaped (enc := enc) (C := Tryz.checked) (os := os) (X := fun w _ => laidMetH Tryz.prog LAIDC w) false (World.laidAll Tryz.prog os LAIDC) #[.agg #[.int .i64 0, .slice none 0 0, .int .i64 0, .slice none 0 0]] 8 (World.laidAll_os _ _ _)
      (World.shaped_of_ZipB (by kernel_rfl) (by kernel_rfl)) (by kernel_rfl) (by kernel_rfl) (by kernel_rfl)
      (by rw [MakeChecks.laidMetH_plain _ _ _ (by kernel_rfl)]; exact laidMet_laidAll _ (by kernel_rfl) (by kernel_rfl))) ?_
  intro W base args ds gs before hval0 hW _ hsz0 hL hsh _
  have hval : ∀ (j : Nat) t v, Tryz.f4.params[j]? = some t → args[j]? = some v → Value.okWide Tryz.prog W .any base t v := hval0
  have hsz : (DataW.weightsEach Tryz.prog (Tryz.f4.params.toList ++ Rows.snapChunksSpec.plain.varTypes Tryz.prog) (ds ++ gs)).all (· ≤ reachBytes) = true := hsz0
  have hW' := hW
  obtain ⟨p, q, hA0, hV, rfl, hfz, hnd⟩ := hW
  have hA : DataW.TrodAll enc Tryz.prog W 0 (fun _ => true) true Tryz.f4.params.toList args.toList ds p := hA0
  rw [Tryz.params4] at hA hval hsz
  obtain ⟨v0, d0, rfl, rfl, h0⟩ := trodAll_one hA
  obtain ⟨rfl, rfl⟩ := trodVars_none hV
  obtain ⟨fs, hu, _⟩ := u46
  obtain ⟨cs, rfl, _⟩ := okWide_struct hu (hval 0 46 v0 rfl rfl)
  have k0 := h0
  have lt0 : ∀ x ∈ p, x.block < W.heap.size := by obtain ⟨m, hm⟩ := k0; exact DataW.trod_lt m _ _ _ hm
  have harg : SL.Arg Tryz.prog W H enc 46 cs.toList := by
    obtain ⟨m, hm⟩ := k0
    exact ⟨m, d0, p, hm, SL.weightsEach_get (i := 0) rfl rfl hsz⟩
  obtain ⟨n1, n2, s1, s4, d, ks, ecs, g1, f1, g3, f3, e1, e3⟩ := snapArg_of harg
  obtain rfl : cs = #[vI n1, Sl.v s1, vI n2, Sl.v s4] := by cases cs; simp_all
  have hc : SL.ACalls Tryz.prog W (all W) 4 #[.agg #[vI n1, Sl.v s1, vI n2, Sl.v s4]] (fun _ => none) fun v _ => v = .bool true :=
    SL.ACalls.mono (Sn.chunksLaw_ok (B := W) (σ := fun _ => none) (glob_ofC hL) g1 f1 (by omega) g3 f3 (by omega)) fun v σ ⟨r, hv, hr⟩ => by rw [hv, hr]
  refine (calls_of hc).mono fun e W' ⟨⟨v, he, hv⟩, bel⟩ => ?_
  subst hv
  subst he
  exact ⟨_, rfl, _, _, _, [], _, [], hW', trodAll_mk1 (shut_bool Zt.u4' _), (trodAll_cons_mk (Below.trod laidOut (by kernel_rfl) (of_decide_eq_true (by kernel_rfl)) k0 bel lt0) trodAll_mk0), rfl, bel.frame _, fun h => by cases h⟩
theorem over : Rows.snapChunksRow.holds Tryz.pinned (OpenSpec.ofChange Rows.snapChunksSpec) :=
  OpenClaim.holds_of_wide 4 Tryz.f4 rfl rfl rfl rfl rfl rfl rfl ⟨rfl, rfl, rfl, rfl, rfl⟩ rfl rfl rfl rfl rfl (by kernel_rfl) Tryz.func4 (by kernel_rfl)
    (of_decide_eq_true (by kernel_rfl)) (by unfold Func.isWrapper; first | (rw [if_pos (by decide +kernel)]; kernel_rfl) | (rw [if_neg (by decide +kernel)]; exact ⟨rfl, rfl⟩))
    (fun os started H enc _ => lifted os started H enc)
end Go.Proofs.YtfobjidchipdaaaGreatDoor.Zt
namespace Go.Proofs.YtfobjidchipdaaaGreatDoor
open Go
/-- The card, for the claim. -/
theorem snapChunks_holds : Rows.SnapChunksCardSaid :=
  Claim7.holds_tied_plain_at .later [] [.data, .data, .data, .data, .sentinel, .sentinel, .sentinel, .pinned] true (true, "0b6ed476258cfae761cb51e7b5ba6357136c1bc4836148a81dc250e68601b9af") true
    Zt.over (fun _ h => by cases h) (by kernel_rfl) (fun _ h => by cases h) snapChunks_row_tie rfl ⟨rfl, rfl⟩ (by kernel_rfl) rfl
    (fun f fn hf hfn => by
      obtain rfl : f = 4 := Option.some.inj ((show Tryz.prog.funcNamed "althing/althinglaw05.SnapChunks" = some 4 by kernel_rfl).symm.trans hf) |>.symm
      obtain rfl : fn = Tryz.f4 := (Option.some.inj (Tryz.func4.symm.trans hfn)).symm
      exact ⟨by kernel_rfl, fun j t ht => by
        rw [Tryz.params4] at ht
        have hm : t ∈ [46] := by simpa using Array.mem_of_getElem? ht
        have hall : ([46].all fun u => !Tryz.prog.wantsStandIn u) = true := by kernel_rfl
        exact (show Tryz.prog.wantsStandIn t = false by simpa using List.all_eq_true.1 hall t hm)⟩)
    (by kernel_rfl)
end Go.Proofs.YtfobjidchipdaaaGreatDoor
#print axioms Go.Proofs.YtfobjidchipdaaaGreatDoor.snapChunks_holds
