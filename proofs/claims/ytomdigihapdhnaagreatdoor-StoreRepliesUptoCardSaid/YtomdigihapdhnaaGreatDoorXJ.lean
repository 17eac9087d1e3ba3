/- ReC, FrA, BaseB -/
import Derived.Test.YtomdigihapdhnaaGreatDoorXI
/- Replies off bytes: store.GetReply. -/
namespace Go.Proofs.YtomdigihapdhnaaGreatDoor.Zt
open Go Go.Proofs.YtomdigihapdhnaaGreatDoor.SL Go.Proofs.YtomdigihapdhnaaGreatDoor.G Go.Proofs.YtomdigihapdhnaaGreatDoor.Pa Go.Proofs.YtomdigihapdhnaaGreatDoor.Wi
set_option linter.unusedSimpArgs false
set_option linter.unusedVariables false
set_option maxRecDepth 100000
variable {B : World} {ro σ σ' : AH} {tag tag' : Nat → Nat}

theorem tyRes : TyIs Tryz.prog 128 (.agg #[.string ByteArray.empty, .int .i64 0]) 2 24 := TyIs.of (by kernel_rfl)
theorem tyEv : TyIs Tryz.prog 132 (.agg #[.int .i64 0, .int .i64 0, .string ByteArray.empty]) 3 32 := TyIs.of (by kernel_rfl)
theorem min16 {n m : Nat} : (if (m : Int) < (n : Int) then (m : Int) else (n : Int)) = ((min n m : Nat) : Int) := by
  split <;> omega
/-- a reply in memory, its rows of the roles q, q + 1, q + 2 -/
structure RepAt (tag : Nat → Nat) (σ : AH) (q : Nat) (rs ds ns es : Sl) (x : Rep) : Prop where
  res : RowW tag σ q 128 2 rs (x.results.map resV)
  data : Row tag σ 6 5 ds (x.data.map vU)
  names : Row tag σ (q + 1) 9 ns (x.names.map Pa.vS)
  evs : RowW tag σ (q + 2) 132 3 es (x.events.map evV')
theorem RepAt.d {q : Nat} {rs ds ns es : Sl} {x : Rep} (h : RepAt tag σ q rs ds ns es x) (hs : SL.Sep ro σ) : RepD ro σ rs ds ns es x := ⟨h.res.read hs, h.data.read hs, h.names.read hs, h.evs.read hs⟩
theorem RepAt.keepS {C : List Nat} {q : Nat} {rs ds ns es : Sl} {x : Rep} (h : RepAt tag σ q rs ds ns es x) (k : StepS C ro tag σ tag' σ') (h0 : q % 64 ∉ C) (h1 : (q + 1) % 64 ∉ C) (h2 : (q + 2) % 64 ∉ C) (h6 : 6 ∉ C) : RepAt tag' σ' q rs ds ns es x :=
  ⟨RowW.keepS h.res k h0, h.data.keepS k h6, h.names.keepS k h1, RowW.keepS h.evs k h2⟩
abbrev CG (q : Nat) : List Nat := [0, 2, 3, 31, q, q + 1, q + 2]
set_option maxHeartbeats 2000000 in
theorem getReply_ok {a0 : Sl} {b : Str} {q : Nat} {Q : Int → Int → Sl → Int → Sl → Int → Int → Int → Int → Sl → Sl → Int → Int → AH → Prop} (hq : q + 2 < 64) (hq7 : 7 ≤ q) (hq31 : q ∉ [29, 30, 31]) (h : SL.Read ro σ a0 (b.map vU)) (hl : b.length ≤ 140737488355328)
    (hno : getRep b = none → ∀ tag' σ', StepS (CG q) ro tag σ tag' σ' → Q 0 0 ⟨none, 0, 0⟩ 0 ⟨none, 0, 0⟩ 0 0 0 0 ⟨none, 0, 0⟩ ⟨none, 0, 0⟩ 0 13 σ')
    (hyes : ∀ x, getRep b = some x → ∀ rs ds ns es tag' σ', StepS (CG q) ro tag σ tag' σ' → RepAt tag' σ' q rs ds ns es x → Q x.code x.session rs x.bad ds x.ver x.ctr x.own x.kids ns es x.epoch 0 σ') : c_store_GetReply B ro a0 σ Q := by
  refine store_GetReply_ok fun hs => ?_
  unfold f_store_GetReply
  simp only [List.mem_cons, List.not_mem_nil, or_false, not_or] at hq31
  have q0 : q % 64 = q := Nat.mod_eq_of_lt (by omega)
  have q1 : (q + 1) % 64 = q + 1 := Nat.mod_eq_of_lt (by omega)
  have q2 : (q + 2) % 64 = q + 2 := Nat.mod_eq_of_lt (by omega)
  obtain ⟨A1, e1⟩ : ∃ A, rnum ⟨b, 0⟩ = A := ⟨_, rfl⟩
  obtain ⟨A2, e2⟩ : ∃ A, rnum A1.2 = A := ⟨_, rfl⟩
  obtain ⟨A3, e3⟩ : ∃ A, rnum A2.2 = A := ⟨_, rfl⟩
  obtain ⟨A4, e4⟩ : ∃ A, gres (min A3.1 16) A3.2 = A := ⟨_, rfl⟩
  obtain ⟨A5, e5⟩ : ∃ A, rnum A4.2 = A := ⟨_, rfl⟩
  obtain ⟨A6, e6⟩ : ∃ A, rblob A5.2 = A := ⟨_, rfl⟩
  obtain ⟨A7, e7⟩ : ∃ A, rnum A6.2 = A := ⟨_, rfl⟩
  obtain ⟨A8, e8⟩ : ∃ A, rnum A7.2 = A := ⟨_, rfl⟩
  obtain ⟨A9, e9⟩ : ∃ A, rnum A8.2 = A := ⟨_, rfl⟩
  obtain ⟨B0, f0⟩ : ∃ A, rnum A9.2 = A := ⟨_, rfl⟩
  obtain ⟨B1, f1⟩ : ∃ A, rnum B0.2 = A := ⟨_, rfl⟩
  obtain ⟨B2, f2⟩ : ∃ A, gnames (min B1.1 4096) B1.2 = A := ⟨_, rfl⟩
  obtain ⟨B3, f3⟩ : ∃ A, rnum B2.2 = A := ⟨_, rfl⟩
  obtain ⟨B4, f4⟩ : ∃ A, gevs (min B3.1 32) B3.2 = A := ⟨_, rfl⟩
  obtain ⟨B5, f5⟩ : ∃ A, rnum B4.2 = A := ⟨_, rfl⟩
  have hR : readRep b = ⟨⟨A1.1, A2.1, A4.1, (A5.1 : Int) - 1, A6.1, A7.1, A8.1, A9.1, B0.1, B2.1, B4.1, B5.1⟩, A3.1, B1.1, B3.1, B5.2⟩ := by
    unfold readRep
    simp only [e1, e2, e3, e4, e5, e6, e7, e8, e9, f0, f1, f2, f3, f4, f5]
  have lt5 : A5.1 < 4611686018427387904 := by rw [← e5]; exact rnum_lt' _
  refine nw_cells (tag := tag) 2 hs fun Y tag1 σ1 st1 r1 => ?_
  refine newReader_ok (tag := tag1) (r := 31) (h.step (st1 [])) (st1 []).sep hl fun A tag2 σ2 st2 rd2 => ?_
  refine rdNum_ok rd2 (by decide) (st2 []).sep fun σ3 st3 rd3 => ?_
  rw [e1] at rd3 ⊢
  refine rdNum_ok rd3 (by decide) st3.sep fun σ4 st4 rd4 => ?_
  rw [e2] at rd4 ⊢
  refine nw_st (tag := tag2) 3 st4.sep rfl (by simp [storable, Sl.v]) fun X tag5 σ5 st5 r5 => ?_
  have y5 := (((r1.keep (st2 []) (by simp)).keep st3 (by decide)).keep st4 (by decide)).keep (st5 []) (by simp)
  refine rdNum_ok (rd4.keep (st5 []) (by simp) (by simp)) (by decide) (st5 []).sep fun σ6 st6 rd6 => ?_
  rw [e3] at rd6 ⊢
  have r6 := r5.keep st6 (by decide)
  have y6 := y5.keep st6 (by decide)
  have s6 : StepS (CG q) ro tag σ tag5 σ6 := ((st1 []).s (by simp)).trans (((st2 []).s (by simp)).trans ((st3.s (by simp)).trans ((st4.s (by simp)).trans (((st5 []).s (by simp)).trans (st6.s (by simp))))))
  have wide : ∀ {R : List Nat} {ta tb : Nat → Nat} {a c : AH}, Step R ro ta a tb c → (∀ x ∈ R, x % 64 ∈ CG q) → StepS (CG q) ro ta a tb c := fun k h => k.s h
  -- the end
  have last : ∀ (rs ds ns es : Sl) tag7 σ7, StepS (CG q) ro tag σ tag7 σ7 → Row tag7 σ7 2 30 ⟨some ⟨Y, 0, none⟩, 12, 12⟩ [vI 0, vI 0, Sl.v ⟨none, 0, 0⟩, vI 0, Sl.v ⟨none, 0, 0⟩, vI 0, vI 0, vI 0, vI 0, Sl.v ⟨none, 0, 0⟩, Sl.v ⟨none, 0, 0⟩, vI 0] →
      Row tag7 σ7 3 30 ⟨some ⟨X, 0, none⟩, 12, 12⟩ [vI A1.1, vI A2.1, Sl.v rs, vI ((A5.1 : Int) - 1), Sl.v ds, vI A7.1, vI A8.1, vI A9.1, vI B0.1, Sl.v ns, Sl.v es, vI 0] → RowW tag7 σ7 q 128 2 rs (A4.1.map resV) → Row tag7 σ7 6 5 ds (A6.1.map vU) → Row tag7 σ7 (q + 1) 9 ns (B2.1.map Pa.vS) → RowW tag7 σ7 (q + 2) 132 3 es (B4.1.map evV') →
      RdAt tag7 σ7 31 A B4.2 → j17_store_GetReply B ro Y X (some ⟨A, 0, none⟩) (A3.1 : Nat) (B1.1 : Nat) (B3.1 : Nat) Q σ7 := fun rs ds ns es tag7 σ7 s7 y7 x7 o1 o2 o3 o4 rd7 => by
    unfold j17_store_GetReply
    refine rdNum_ok rd7 (by decide) s7.sep fun σ8 st8 rd8 => ?_
    rw [f5] at rd8 ⊢
    have s8 := s7.trans (st8.s (C := CG q) (by simp))
    refine (x7.keep st8 (by decide)).stAt [.int .i64 (B5.1 : Nat)] 11 st8.sep (by simp) (by simp [storable]) fun σ9 st9 x9 => ?_
    have s9 := s8.trans (st9.s (C := CG q) (by simp))
    have x9 : Row tag7 σ9 3 30 ⟨some ⟨X, 0, none⟩, 12, 12⟩ [vI A1.1, vI A2.1, Sl.v rs, vI ((A5.1 : Int) - 1), Sl.v ds, vI A7.1, vI A8.1, vI A9.1, vI B0.1, Sl.v ns, Sl.v es, vI B5.1] := x9
    have rd9 := rd8.keep st9 (by decide) (by decide)
    have y9 := (y7.keep st8 (by decide)).keep st9 (by decide)
    have k9 : StepS [3, 31] ro tag7 σ7 tag7 σ9 := (st8.s (by simp)).trans (st9.s (by simp))
    have hat : RepAt tag7 σ9 q rs ds ns es (readRep b).x := by
      rw [hR]
      exact ⟨RowW.keepS o1 k9 (by rw [q0]; simp; omega), o2.keepS k9 (by decide), o3.keepS k9 (by rw [q1]; simp; omega), RowW.keepS o4 k9 (by rw [q2]; simp; omega)⟩
    refine rerr_ok rd9 st9.sep ?_
    have fin : ∀ (c : Bool), (((c = true ∨ 16 < A3.1) ∨ 4096 < B1.1) ∨ 32 < B3.1 ↔ ((readRep b).r.err ≠ 0 ∨ 0 < (readRep b).r.rest.length ∨ 16 < (readRep b).nr ∨ 4096 < (readRep b).nn ∨ 32 < (readRep b).ne)) → j20_store_GetReply B ro Y X (A3.1 : Nat) (B1.1 : Nat) (B3.1 : Nat) Q c σ9 := fun c hc => by
      unfold j20_store_GetReply
      by_cases k : (readRep b).r.err ≠ 0 ∨ 0 < (readRep b).r.rest.length ∨ 16 < (readRep b).nr ∨ 4096 < (readRep b).nn ∨ 32 < (readRep b).ne
      · have k' := hc.2 k
        rw [if_pos (by
          rcases k' with ((k' | k') | k') | k'
          · exact .inl (.inl (.inl k'))
          · exact .inl (.inl (.inr (by omega)))
          · exact .inl (.inr (by omega))
          · exact .inr (by omega))]
        refine y9.stAll s9.sep rfl (by simp [storable, Sl.v]) fun σa sta ra => ?_
        exact ⟨_, _, _, _, _, _, _, _, _, _, _, _, Row.cellsAt ra sta.sep, hno (by unfold getRep; rw [if_pos k]) tag7 σa (s9.trans (sta.s (by simp)))⟩
      · have k' : ¬ (((c = true ∨ 16 < A3.1) ∨ 4096 < B1.1) ∨ 32 < B3.1) := fun h => k (hc.1 h)
        rw [if_neg (by
          rintro (((h | h) | h) | h)
          · exact k' (.inl (.inl (.inl h)))
          · exact k' (.inl (.inl (.inr (by omega))))
          · exact k' (.inl (.inr (by omega)))
          · exact k' (.inr (by omega)))]
        refine ⟨_, _, _, _, _, _, _, _, _, _, _, _, Row.cellsAt x9 s9.sep, ?_⟩
        refine y9.stAll s9.sep rfl (by simp [storable, Sl.v]) fun σa sta ra => ?_
        have ka : StepS [2] ro tag7 σ9 tag7 σa := sta.s (by simp)
        have := hyes (readRep b).x (by unfold getRep; rw [if_neg k]) rs ds ns es tag7 σa (s9.trans (sta.s (by simp))) (hat.keepS ka (by rw [q0]; simp; omega) (by rw [q1]; simp; omega) (by rw [q2]; simp; omega) (by decide))
        rw [hR] at this
        exact ⟨_, _, _, _, _, _, _, _, _, _, _, _, Row.cellsAt ra sta.sep, this⟩
    have hr1 : (readRep b).r = B5.2 := by rw [hR]
    have hr2 : (readRep b).nr = A3.1 := by rw [hR]
    have hr3 : (readRep b).nn = B1.1 := by rw [hR]
    have hr4 : (readRep b).ne = B3.1 := by rw [hR]
    by_cases c : B5.2.err = 0
    · rw [if_neg (by simpa using c)]
      refine left_ok rd9 st9.sep ?_
      refine fin _ ?_
      rw [hr1, hr2, hr3, hr4]
      simp only [decide_eq_true_eq, ne_eq, c, not_true_eq_false, false_or]
      constructor
      · rintro (((h | h) | h) | h)
        · exact .inl (by omega)
        · exact .inr (.inl h)
        · exact .inr (.inr (.inl h))
        · exact .inr (.inr (.inr h))
      · rintro (h | h | h | h)
        · exact .inl (.inl (.inl (by omega)))
        · exact .inl (.inl (.inr h))
        · exact .inl (.inr h)
        · exact .inr h
    · rw [if_pos c]
      refine fin true ?_
      rw [hr1]
      exact ⟨fun _ => .inl c, fun _ => .inl (.inl (.inl rfl))⟩
  -- the events
  have evs : ∀ k j (es : Sl) (l : List (Int × Int × Str)) (x : Rd) (rs ds ns : Sl) tag7 σ7, j + k = min B3.1 32 → l.length = j → (l ++ (gevs k x).1, (gevs k x).2) = B4 → StepS (CG q) ro tag σ tag7 σ7 → Row tag7 σ7 2 30 ⟨some ⟨Y, 0, none⟩, 12, 12⟩ [vI 0, vI 0, Sl.v ⟨none, 0, 0⟩, vI 0, Sl.v ⟨none, 0, 0⟩, vI 0, vI 0, vI 0, vI 0, Sl.v ⟨none, 0, 0⟩, Sl.v ⟨none, 0, 0⟩, vI 0] →
      Row tag7 σ7 3 30 ⟨some ⟨X, 0, none⟩, 12, 12⟩ [vI A1.1, vI A2.1, Sl.v rs, vI ((A5.1 : Int) - 1), Sl.v ds, vI A7.1, vI A8.1, vI A9.1, vI B0.1, Sl.v ns, Sl.v es, vI 0] → RowW tag7 σ7 q 128 2 rs (A4.1.map resV) → Row tag7 σ7 6 5 ds (A6.1.map vU) → Row tag7 σ7 (q + 1) 9 ns (B2.1.map Pa.vS) → RowW tag7 σ7 (q + 2) 132 3 es (l.map evV') →
      RdAt tag7 σ7 31 A x → lfpD (l26_store_GetReply B ro Y X (some ⟨A, 0, none⟩) (A3.1 : Nat) (B1.1 : Nat) (B3.1 : Nat) Q) (j : Int) σ7 := by
    intro k
    induction k with
    | zero =>
      intro j es l x rs ds ns tag7 σ7 hj hlj hg s7 y7 x7 o1 o2 o3 o4 rd7
      refine lfpD.intro ?_
      unfold l26_store_GetReply
      have := min16 (n := B3.1) (m := 32)
      rw [if_neg (by rw [show ((32 : Nat) : Int) = 32 from rfl] at this; rw [this]; omega)]
      have h1 : l = B4.1 := by rw [← hg]; simp [gevs]
      have h2 : x = B4.2 := by rw [← hg]; simp [gevs]
      rw [h1] at o4; rw [h2] at rd7
      exact last rs ds ns es tag7 σ7 s7 y7 x7 o1 o2 o3 o4 rd7
    | succ k ih =>
      intro j es l x rs ds ns tag7 σ7 hj hlj hg s7 y7 x7 o1 o2 o3 o4 rd7
      refine lfpD.intro ?_
      unfold l26_store_GetReply
      have := min16 (n := B3.1) (m := 32)
      rw [if_pos (by rw [show ((32 : Nat) : Int) = 32 from rfl] at this; rw [this]; omega)]
      have hs7 := s7.sep
      obtain ⟨tX, hX⟩ := x7.tagOf
      refine lent_block X ?_
      refine ⟨es, by have := x7.lend hs7 (τ := fun _ => none) (i := 10) rfl; rwa [Nat.mul_one] at this, ?_⟩
      have rdL := rd7.del (b := X) (by rw [tX]; decide) (by rw [tX]; decide)
      refine rdNum_ok rdL (by decide) hs7.lent fun σ8 st8 rd8 => ?_
      refine rdNum_ok rd8 (by decide) st8.sep fun σ9 st9 rd9 => ?_
      refine rdText_ok rd9 (by decide) st9.sep fun tagA σA stA rdA => ?_
      refine nw_cells (tag := tagA) 0 stA.sep fun Z tagB σB stB rB => ?_
      intro hdis
      have kL : StepS [31] (join ro (SL.one σ7 X)) tag7 (SL.del σ7 X) tagB σB := (st8.s (by simp)).trans ((st9.s (by simp)).trans ((stA.s (by simp)).trans ((stB []).s (by simp))))
      have kB := StepS.back kL hs7 hdis hX
      have hsB := kB.sep
      have xB := x7.again (tag1 := tagB) hdis
      have rdB := (rdA.keep (stB []) (by simp) (by simp)).back (r' := tag7 X) hdis hX
      have zB := rB.back (r' := tag7 X) hdis hX
      have o4B := RowW.keepS o4 kB (by rw [q2]; simp; omega)
      generalize hT : setTag tagB X (tag7 X) = tagC at *
      generalize hS : join (SL.one σ7 X) σB = σC at *
      have ll : (l.map evV').length = j := by rw [List.length_map, hlj]
      refine awp_appendW (l2 := [evV' ((((rnum x).1 : Nat) : Int), (((rnum (rnum x).2).1 : Nat) : Int), (rblob (rnum (rnum x).2).2).1)]) o4B hsB (Row.readW1 zB hsB rfl (by decide)) (t := 28) (by kernel_rfl) tyEv rfl (by simp [evV', storable]) (by rw [ll]; simp; omega) (by decide) fun es' tagD σD stD rD => ?_
      have stD := stD [q + 2] (.inr (by simp))
      refine ⟨es', rfl, ?_⟩
      have kD : StepS [q + 2] ro tagC σC tagD σD := stD.s (by simp [q2])
      refine (xB.keep stD (by simp; omega)).stAt [Sl.v es'] 10 stD.sep (by simp) (by simp [storable, Sl.v]) fun σE stE xE => ?_
      have kE : StepS [3] ro tagD σD tagD σE := stE.s (by simp)
      rw [Pa.inc j (by omega)]
      have k7E : StepS (CG q) ro tag7 σ7 tagD σE := (kB.mono (by simp)).trans ((kD.mono (by simp)).trans (kE.mono (by simp)))
      refine ih (j + 1) es' (l ++ [((((rnum x).1 : Nat) : Int), (((rnum (rnum x).2).1 : Nat) : Int), (rblob (rnum (rnum x).2).2).1)]) (rblob (rnum (rnum x).2).2).2 rs ds ns tagD σE (by omega) (by simp [hlj]) ?_ (s7.trans k7E) ?_ xE ?_ ?_ ?_ ?_ ?_
      · rw [← hg, List.append_assoc]; rfl
      · exact ((y7.keepS kB (by decide)).keepS kD (by simp; omega)).keepS kE (by decide)
      · exact RowW.keepS (RowW.keepS (RowW.keepS o1 kB (by rw [q0]; simp; omega)) kD (by rw [q0]; simp)) kE (by rw [q0]; simp; omega)
      · exact ((o2.keepS kB (by decide)).keepS kD (by simp; omega)).keepS kE (by decide)
      · exact ((o3.keepS kB (by rw [q1]; simp; omega)).keepS kD (by rw [q1]; simp)).keepS kE (by rw [q1]; simp; omega)
      · rw [List.map_append]
        exact RowW.keepS rD kE (by rw [q2]; simp; omega)
      · exact (rdB.keep stD (by simp; omega) (by simp; omega)).keep stE (by decide) (by decide)
  -- the names
  have names : ∀ k j (ns : Sl) (l : List Str) (x : Rd) (rs ds : Sl) tag7 σ7, j + k = min B1.1 4096 → l.length = j → (l ++ (gnames k x).1, (gnames k x).2) = B2 → StepS (CG q) ro tag σ tag7 σ7 → Row tag7 σ7 2 30 ⟨some ⟨Y, 0, none⟩, 12, 12⟩ [vI 0, vI 0, Sl.v ⟨none, 0, 0⟩, vI 0, Sl.v ⟨none, 0, 0⟩, vI 0, vI 0, vI 0, vI 0, Sl.v ⟨none, 0, 0⟩, Sl.v ⟨none, 0, 0⟩, vI 0] →
      Row tag7 σ7 3 30 ⟨some ⟨X, 0, none⟩, 12, 12⟩ [vI A1.1, vI A2.1, Sl.v rs, vI ((A5.1 : Int) - 1), Sl.v ds, vI A7.1, vI A8.1, vI A9.1, vI B0.1, Sl.v ns, Sl.v ⟨none, 0, 0⟩, vI 0] → RowW tag7 σ7 q 128 2 rs (A4.1.map resV) → Row tag7 σ7 6 5 ds (A6.1.map vU) → Row tag7 σ7 (q + 1) 9 ns (l.map Pa.vS) →
      RdAt tag7 σ7 31 A x → lfpD (l34_store_GetReply B ro Y X (some ⟨A, 0, none⟩) (A3.1 : Nat) (B1.1 : Nat) Q) (j : Int) σ7 := by
    intro k
    induction k with
    | zero =>
      intro j ns l x rs ds tag7 σ7 hj hlj hg s7 y7 x7 o1 o2 o3 rd7
      refine lfpD.intro ?_
      unfold l34_store_GetReply
      have := min16 (n := B1.1) (m := 4096)
      rw [if_neg (by rw [show ((4096 : Nat) : Int) = 4096 from rfl] at this; rw [this]; omega)]
      have h1 : l = B2.1 := by rw [← hg]; simp [gnames]
      have h2 : x = B2.2 := by rw [← hg]; simp [gnames]
      rw [h1] at o3; rw [h2] at rd7
      unfold j15_store_GetReply
      refine rdNum_ok rd7 (by decide) s7.sep fun σ8 st8 rd8 => ?_
      rw [f3] at rd8 ⊢
      have k8 : StepS [31] ro tag7 σ7 tag7 σ8 := st8.s (by simp)
      exact evs _ 0 ⟨none, 0, 0⟩ [] B3.2 rs ds ns tag7 σ8 (Nat.zero_add _) rfl (by rw [f4]; rfl) (s7.trans (k8.mono (by simp))) (y7.keepS k8 (by decide)) (x7.keepS k8 (by decide)) (RowW.keepS o1 k8 (by rw [q0]; simp; omega)) (o2.keepS k8 (by decide)) (o3.keepS k8 (by rw [q1]; simp; omega)) (RowW.nil _ _ _) rd8
    | succ k ih =>
      intro j ns l x rs ds tag7 σ7 hj hlj hg s7 y7 x7 o1 o2 o3 rd7
      refine lfpD.intro ?_
      unfold l34_store_GetReply
      have := min16 (n := B1.1) (m := 4096)
      rw [if_pos (by rw [show ((4096 : Nat) : Int) = 4096 from rfl] at this; rw [this]; omega)]
      have hs7 := s7.sep
      obtain ⟨tX, hX⟩ := x7.tagOf
      refine lent_block X ?_
      refine ⟨ns, by have := x7.lend hs7 (τ := fun _ => none) (i := 9) rfl; rwa [Nat.mul_one] at this, ?_⟩
      have rdL := rd7.del (b := X) (by rw [tX]; decide) (by rw [tX]; decide)
      refine rdText_ok rdL (by decide) hs7.lent fun tagA σA stA rdA => ?_
      refine nw_cells (tag := tagA) 0 stA.sep fun Z tagB σB stB rB => ?_
      intro hdis
      have kL : StepS [31] (join ro (SL.one σ7 X)) tag7 (SL.del σ7 X) tagB σB := (stA.s (by simp)).trans ((stB []).s (by simp))
      have kB := StepS.back kL hs7 hdis hX
      have hsB := kB.sep
      have xB := x7.again (tag1 := tagB) hdis
      have rdB := (rdA.keep (stB []) (by simp) (by simp)).back (r' := tag7 X) hdis hX
      have zB := rB.back (r' := tag7 X) hdis hX
      have o3B := o3.keepS kB (by rw [q1]; simp; omega)
      generalize hT : setTag tagB X (tag7 X) = tagC at *
      generalize hS : join (SL.one σ7 X) σB = σC at *
      refine awp_append1 o3B hsB t25 ty9 rfl rfl (Row.cell1 zB hsB) rfl (by rw [List.length_map, hlj]; omega) (by decide) fun ns' tagD σD stD rD => ?_
      refine ⟨ns', rfl, ?_⟩
      have kD : StepS [q + 1] ro tagC σC tagD σD := stD.s (by simp [q1])
      refine (xB.keep stD (by simp; omega)).stAt [Sl.v ns'] 9 stD.sep (by simp) (by simp [storable, Sl.v]) fun σE stE xE => ?_
      have kE : StepS [3] ro tagD σD tagD σE := stE.s (by simp)
      rw [Pa.inc j (by omega)]
      have k7E : StepS (CG q) ro tag7 σ7 tagD σE := (kB.mono (by simp)).trans ((kD.mono (by simp)).trans (kE.mono (by simp)))
      refine ih (j + 1) ns' (l ++ [(rblob x).1]) (rblob x).2 rs ds tagD σE (by omega) (by simp [hlj]) ?_ (s7.trans k7E) ?_ xE ?_ ?_ ?_ ?_
      · rw [← hg, List.append_assoc]; rfl
      · exact ((y7.keepS kB (by decide)).keepS kD (by simp; omega)).keepS kE (by decide)
      · exact RowW.keepS (RowW.keepS (RowW.keepS o1 kB (by rw [q0]; simp; omega)) kD (by rw [q0]; simp)) kE (by rw [q0]; simp; omega)
      · exact ((o2.keepS kB (by decide)).keepS kD (by simp; omega)).keepS kE (by decide)
      · rw [List.map_append]
        exact rD.keepS kE (by rw [q1]; simp; omega)
      · exact (rdB.keep stD (by simp; omega) (by simp; omega)).keep stE (by decide) (by decide)
  -- behind the results
  have mid : ∀ (rs : Sl) tag7 σ7, StepS (CG q) ro tag σ tag7 σ7 → Row tag7 σ7 2 30 ⟨some ⟨Y, 0, none⟩, 12, 12⟩ [vI 0, vI 0, Sl.v ⟨none, 0, 0⟩, vI 0, Sl.v ⟨none, 0, 0⟩, vI 0, vI 0, vI 0, vI 0, Sl.v ⟨none, 0, 0⟩, Sl.v ⟨none, 0, 0⟩, vI 0] →
      Row tag7 σ7 3 30 ⟨some ⟨X, 0, none⟩, 12, 12⟩ [vI A1.1, vI A2.1, Sl.v rs, vI 0, Sl.v ⟨none, 0, 0⟩, vI 0, vI 0, vI 0, vI 0, Sl.v ⟨none, 0, 0⟩, Sl.v ⟨none, 0, 0⟩, vI 0] → RowW tag7 σ7 q 128 2 rs (A4.1.map resV) → RdAt tag7 σ7 31 A A4.2 → j7_store_GetReply B ro Y X (some ⟨A, 0, none⟩) (A3.1 : Nat) Q σ7 := fun rs tag7 σ7 s7 y7 x7 o1 rd7 => by
    unfold j7_store_GetReply
    refine rdNum_ok rd7 (by decide) s7.sep fun σ8 st8 rd8 => ?_
    rw [e5] at rd8 ⊢
    rw [show IntKind.i64.wrap ((A5.1 : Nat) - 1 : Int) = (A5.1 : Int) - 1 from SL.w64_eq (by omega) (by omega)]
    refine (x7.keep st8 (by decide)).stAt [.int .i64 ((A5.1 : Int) - 1)] 3 st8.sep (by simp) (by simp [storable]) fun σ9 st9 x9 => ?_
    refine rdBlob_ok (rd8.keep st9 (by decide) (by decide)) (by decide) st9.sep fun ds tagA σA stA oA rdA => ?_
    rw [e6] at oA rdA
    refine (x9.keep stA (by decide)).stAt [Sl.v ds] 4 stA.sep (by simp) (by simp [storable, Sl.v]) fun σB stB xB => ?_
    refine rdNum_ok (rdA.keep stB (by decide) (by decide)) (by decide) stB.sep fun σC stC rdC => ?_
    rw [e7] at rdC ⊢
    refine rdNum_ok rdC (by decide) stC.sep fun σD stD rdD => ?_
    rw [e8] at rdD ⊢
    refine rdNum_ok rdD (by decide) stD.sep fun σE stE rdE => ?_
    rw [e9] at rdE ⊢
    refine rdNum_ok rdE (by decide) stE.sep fun σF stF rdF => ?_
    rw [f0] at rdF ⊢
    refine ((((xB.keep stC (by decide)).keep stD (by decide)).keep stE (by decide)).keep stF (by decide)).stAt [.int .i64 (A7.1 : Nat), .int .i64 (A8.1 : Nat), .int .i64 (A9.1 : Nat), .int .i64 (B0.1 : Nat)] 5 stF.sep (by simp) (by simp [storable]) fun σG stG xG => ?_
    refine rdNum_ok (rdF.keep stG (by decide) (by decide)) (by decide) stG.sep fun σH stH rdH => ?_
    rw [f1] at rdH ⊢
    have k8 : StepS [3, 31] ro tag7 σ7 tag7 σ9 := (st8.s (by simp)).trans (st9.s (by simp))
    have kH : StepS [3, 31] ro tagA σA tagA σH := (stB.s (by simp)).trans ((stC.s (by simp)).trans ((stD.s (by simp)).trans ((stE.s (by simp)).trans ((stF.s (by simp)).trans ((stG.s (by simp)).trans (stH.s (by simp)))))))
    have k7 : StepS [3, 31] ro tag7 σ7 tagA σH := k8.trans ((stA.s (by simp)).trans kH)
    exact names _ 0 ⟨none, 0, 0⟩ [] B1.2 rs ds tagA σH (Nat.zero_add _) rfl (by rw [f2]; rfl) (s7.trans (k7.mono (by simp))) (y7.keepS k7 (by decide)) (xG.keep stH (by decide)) (RowW.keepS o1 k7 (by rw [q0]; simp; omega)) (oA.keepS kH (by decide)) (Row.nil _ _) rdH
  suffices ∀ k j (rs : Sl) (l : List (Str × Int)) (x : Rd) tag7 σ7, j + k = min A3.1 16 → l.length = j → (l ++ (gres k x).1, (gres k x).2) = A4 → StepS (CG q) ro tag σ tag7 σ7 → Row tag7 σ7 2 30 ⟨some ⟨Y, 0, none⟩, 12, 12⟩ [vI 0, vI 0, Sl.v ⟨none, 0, 0⟩, vI 0, Sl.v ⟨none, 0, 0⟩, vI 0, vI 0, vI 0, vI 0, Sl.v ⟨none, 0, 0⟩, Sl.v ⟨none, 0, 0⟩, vI 0] →
      Row tag7 σ7 3 30 ⟨some ⟨X, 0, none⟩, 12, 12⟩ [vI A1.1, vI A2.1, Sl.v rs, vI 0, Sl.v ⟨none, 0, 0⟩, vI 0, vI 0, vI 0, vI 0, Sl.v ⟨none, 0, 0⟩, Sl.v ⟨none, 0, 0⟩, vI 0] → RowW tag7 σ7 q 128 2 rs (l.map resV) → RdAt tag7 σ7 31 A x → lfpD (l40_store_GetReply B ro Y X (some ⟨A, 0, none⟩) (A3.1 : Nat) Q) (j : Int) σ7 from
    this _ 0 ⟨none, 0, 0⟩ [] A3.2 tag5 σ6 (Nat.zero_add _) rfl (by rw [e4]; rfl) s6 y6 r6 (RowW.nil _ _ _) rd6
  intro k
  induction k with
  | zero =>
    intro j rs l x tag7 σ7 hj hlj hg s7 y7 x7 o1 rd7
    refine lfpD.intro ?_
    unfold l40_store_GetReply
    have := min16 (n := A3.1) (m := 16)
    rw [if_neg (by rw [show ((16 : Nat) : Int) = 16 from rfl] at this; rw [this]; omega)]
    have h1 : l = A4.1 := by rw [← hg]; simp [gres]
    have h2 : x = A4.2 := by rw [← hg]; simp [gres]
    rw [h1] at o1; rw [h2] at rd7
    exact mid rs tag7 σ7 s7 y7 x7 o1 rd7
  | succ k ih =>
    intro j rs l x tag7 σ7 hj hlj hg s7 y7 x7 o1 rd7
    refine lfpD.intro ?_
    unfold l40_store_GetReply
    have := min16 (n := A3.1) (m := 16)
    rw [if_pos (by rw [show ((16 : Nat) : Int) = 16 from rfl] at this; rw [this]; omega)]
    have hs7 := s7.sep
    obtain ⟨tX, hX⟩ := x7.tagOf
    refine lent_block X ?_
    refine ⟨rs, by have := x7.lend hs7 (τ := fun _ => none) (i := 2) rfl; rwa [Nat.mul_one] at this, ?_⟩
    have rdL := rd7.del (b := X) (by rw [tX]; decide) (by rw [tX]; decide)
    refine rdText_ok rdL (by decide) hs7.lent fun tagA σA stA rdA => ?_
    refine rdNum_ok rdA (by decide) stA.sep fun σ9 st9 rd9 => ?_
    refine nw_cells (tag := tagA) 0 st9.sep fun Z tagB σB stB rB => ?_
    intro hdis
    have kL : StepS [31] (join ro (SL.one σ7 X)) tag7 (SL.del σ7 X) tagB σB := (stA.s (by simp)).trans ((st9.s (by simp)).trans ((stB []).s (by simp)))
    have kB := StepS.back kL hs7 hdis hX
    have hsB := kB.sep
    have xB := x7.again (tag1 := tagB) hdis
    have rdB := (rd9.keep (stB []) (by simp) (by simp)).back (r' := tag7 X) hdis hX
    have zB := rB.back (r' := tag7 X) hdis hX
    have o1B := RowW.keepS o1 kB (by rw [q0]; simp; omega)
    generalize hT : setTag tagB X (tag7 X) = tagC at *
    generalize hS : join (SL.one σ7 X) σB = σC at *
    have ll : (l.map resV).length = j := by rw [List.length_map, hlj]
    refine awp_appendW (l2 := [resV ((rblob x).1, (((rnum (rblob x).2).1 : Nat) : Int))]) o1B hsB (Row.readW1 zB hsB rfl (by decide)) (t := 23) (by kernel_rfl) tyRes rfl (by simp [resV, storable]) (by rw [ll]; simp; omega) (by decide) fun rs' tagD σD stD rD => ?_
    have stD := stD [q] (.inr (by simp))
    refine ⟨rs', rfl, ?_⟩
    have kD : StepS [q] ro tagC σC tagD σD := stD.s (by simp [q0])
    refine (xB.keep stD (by simp; omega)).stAt [Sl.v rs'] 2 stD.sep (by simp) (by simp [storable, Sl.v]) fun σE stE xE => ?_
    have kE : StepS [3] ro tagD σD tagD σE := stE.s (by simp)
    rw [Pa.inc j (by omega)]
    have k7E : StepS (CG q) ro tag7 σ7 tagD σE := (kB.mono (by simp)).trans ((kD.mono (by simp)).trans (kE.mono (by simp)))
    refine ih (j + 1) rs' (l ++ [((rblob x).1, (((rnum (rblob x).2).1 : Nat) : Int))]) (rnum (rblob x).2).2 tagD σE (by omega) (by simp [hlj]) ?_ (s7.trans k7E) ?_ xE ?_ ?_
    · rw [← hg, List.append_assoc]; rfl
    · exact ((y7.keepS kB (by decide)).keepS kD (by simp; omega)).keepS kE (by decide)
    · rw [List.map_append]
      exact RowW.keepS rD kE (by rw [q0]; simp; omega)
    · exact (rdB.keep stD (by simp; omega) (by simp; omega)).keep stE (by decide) (by decide)
end Go.Proofs.YtomdigihapdhnaaGreatDoor.Zt

/- Calls that make new blocks alone; everything lent. Generic over any program. -/
namespace Go.Proofs.YtomdigihapdhnaaGreatDoor.SL
open Go
set_option linter.unusedVariables false
variable {P : Program} {B : World} {ro σ σ' : AH} {tag tag' : Nat → Nat}
/-- the role that all old blocks have while only new ones are turned -/
abbrev T7 : Nat → Nat := fun _ => 7
theorem Step.hle {R : List Nat} {tag1 : Nat → Nat} {σ1 : AH} (st : Step R ro T7 σ tag1 σ1) (h : 7 ∉ R) : HLe σ σ1 := fun b o hb => (st.keep b o hb h).2
theorem StepS.hle {C : List Nat} {tag1 : Nat → Nat} {σ1 : AH} (st : StepS C ro T7 σ tag1 σ1) (h : 7 ∉ C) : HLe σ σ1 := by
  obtain ⟨R, h1, h2⟩ := st
  exact h2.hle fun m => h (h1 7 m)
theorem rd_hle {b : Nat} {o : Obj} (h : HLe σ σ') (hr : rd ro σ b = some o) : rd ro σ' b = some o := by
  unfold rd at hr ⊢
  cases hb : ro b with
  | some x => rw [hb] at hr; exact hr
  | none => rw [hb] at hr; exact h b o hr
theorem acell_hle {a : Addr} {v : Value} (h : HLe σ σ') (hr : acell ro σ a = some v) : acell ro σ' a = some v := by
  unfold acell at hr ⊢
  cases hb : rd ro σ a.block with
  | none => rw [hb] at hr; simp [cellOf] at hr
  | some o => rw [rd_hle h hb, ← hb]; exact hr
theorem Read.hle {s : Sl} {l : List Value} (h : Read ro σ s l) (k : HLe σ σ') : Read ro σ' s l := ⟨h.1, h.2.1, fun p hp i v hv => acell_hle k (h.2.2 p hp i v hv)⟩
theorem ReadW.hle {w : Nat} {s : Sl} {l : List (List Value)} (h : ReadW ro σ w s l) (k : HLe σ σ') : ReadW ro σ' w s l := ⟨h.1, h.2.1, h.2.2.1, fun p hp i v hv => acell_hle k (h.2.2.2 p hp i v hv)⟩
/-- old blocks keep their roles, new ones have those that they got -/
def mixT (σ : AH) (tag tag1 : Nat → Nat) : Nat → Nat := fun c => if (σ c).isSome then tag c else tag1 c
theorem StepS.mix {C : List Nat} {tag1 : Nat → Nat} {σ1 : AH} (st : StepS C ro T7 σ tag1 σ1) (h : 7 ∉ C) (tag : Nat → Nat) : ∀ R, Step R ro tag σ (mixT σ tag tag1) σ1 := fun R => by
  have hl := st.hle h
  exact ⟨fun b o hb _ => ⟨by simp [mixT, hb], hl b o hb⟩, fun b o hb => ⟨by simp [mixT, hb], o, hl b o hb⟩, st.sep⟩
theorem StepS.old7 {C : List Nat} {tag1 : Nat → Nat} {σ1 : AH} (st : StepS C ro T7 σ tag1 σ1) {b : Nat} {o : Obj} (hb : σ b = some o) : tag1 b = 7 := by
  obtain ⟨R, h1, h2⟩ := st
  exact (h2.old b o hb).1
theorem Row.mix {C : List Nat} {tag1 : Nat → Nat} {σ1 : AH} {r : Nat} {e : TypeId} {s : Sl} {l : List Value} (h : Row tag1 σ1 r e s l) (st : StepS C ro T7 σ tag1 σ1) (hr : r ≠ 7) (tag : Nat → Nat) : Row (mixT σ tag tag1) σ1 r e s l := by
  rcases h with h | ⟨b, cs, ha, ht, hb, hx⟩
  · exact .inl h
  · refine .inr ⟨b, cs, ha, ?_, hb, hx⟩
    unfold mixT
    cases e : σ b with
    | none => simpa using ht
    | some o => exact absurd (by rw [← ht]; exact st.old7 e) hr
theorem RowW.mix {C : List Nat} {tag1 : Nat → Nat} {σ1 : AH} {r w : Nat} {e : TypeId} {s : Sl} {l : List (List Value)} (h : RowW tag1 σ1 r e w s l) (st : StepS C ro T7 σ tag1 σ1) (hr : r ≠ 7) (tag : Nat → Nat) : RowW (mixT σ tag tag1) σ1 r e w s l := by
  rcases h with h | ⟨b, cs, ha, ht, hb, hx⟩
  · exact .inl h
  · refine .inr ⟨b, cs, ha, ?_, hb, hx⟩
    unfold mixT
    cases e : σ b with
    | none => simpa using ht
    | some o => exact absurd (by rw [← ht]; exact st.old7 e) hr
/-- a new row in another role -/
theorem fresh_row {tag1 : Nat → Nat} {σ1 : AH} {r : Nat} (st : ∀ R, Step R ro T7 σ tag1 σ1) (hr : r ≠ 7) (tag : Nat → Nat) (q : Nat) :
    ∃ tag', (∀ R, Step R ro tag σ tag' σ1) ∧ ∀ e s l, Row tag1 σ1 r e s l → Row tag' σ1 q e s l := by
  refine ⟨fun c => if (σ c).isSome then tag c else q, fun R => ⟨fun b o hb _ => ⟨by simp [hb], ((st []).keep b o hb (by simp)).2⟩, fun b o hb => ⟨by simp [hb], o, ((st []).keep b o hb (by simp)).2⟩, (st []).sep⟩, fun e s l h => ?_⟩
  rcases h with h | ⟨b, cs, ha, ht, hb, hx'⟩
  · exact .inl h
  · refine .inr ⟨b, cs, ha, ?_, hb, hx'⟩
    cases e : σ b with
    | none => simp [e]
    | some o =>
      have := ((st []).old b o e).1
      rw [ht] at this; exact absurd this hr
theorem cellsAt_get' {p : Addr} {l : List Value} (h : cellsAt ro σ p 0 l) {i : Nat} {v : Value} (hv : l[i]? = some v) : acell ro σ (p.add i) = some v := by
  have gen : ∀ (l : List Value) (k i : Nat) (v : Value), cellsAt ro σ p k l → l[i]? = some v → acell ro σ (p.add (k + i)) = some v := by
    intro l
    induction l with
    | nil => intro k i v _ hv; cases hv
    | cons x l ih =>
      intro k i v h hv
      cases i with
      | zero => cases hv; exact h.1
      | succ i => have := ih (k + 1) i v h.2 (by simpa using hv); rw [← this]; congr 2; omega
  have := gen l 0 i v h hv
  rwa [Nat.zero_add] at this
/-! everything lent -/
theorem lent_all {K : AH → AH → Prop} (h : K σ (fun _ => none)) : lent σ K := by
  refine ⟨σ, fun _ => none, fun c o hc => rfl, ?_, h⟩
  funext c; unfold join; cases σ c <;> rfl
theorem Sep.none : Sep ro (fun _ => Option.none) := fun c o hc => by cases hc
theorem acell_all {τ : AH} {a : Addr} {v : Value} (hs : Sep ro σ) (h : acell ro σ a = some v) : acell (join ro σ) τ a = some v := by
  unfold acell rd at h ⊢
  cases hr : ro a.block with
  | some o => rw [hr] at h; unfold join; rw [hr]; exact h
  | none =>
    rw [hr] at h
    cases hb : σ a.block with
    | none => simp only at h; rw [hb] at h; simp [cellOf] at h
    | some o => unfold join; simp only [hr, hb] at h ⊢; exact h
theorem Read.all {τ : AH} {s : Sl} {l : List Value} (h : Read ro σ s l) (hs : Sep ro σ) : Read (join ro σ) τ s l := ⟨h.1, h.2.1, fun p hp i v hv => acell_all hs (h.2.2 p hp i v hv)⟩
theorem ReadW.all {τ : AH} {w : Nat} {s : Sl} {l : List (List Value)} (h : ReadW ro σ w s l) (hs : Sep ro σ) : ReadW (join ro σ) τ w s l := ⟨h.1, h.2.1, h.2.2.1, fun p hp i v hv => acell_all hs (h.2.2.2 p hp i v hv)⟩
theorem all_step {tag1 : Nat → Nat} {τ : AH} (hs : Sep ro σ) (hd : Disj σ τ) (ht : Sep (join ro σ) τ) (tag : Nat → Nat) : ∀ R, Step R ro tag σ (mixT σ tag tag1) (join σ τ) := fun R =>
  ⟨fun b o hb _ => ⟨by simp [mixT, hb], join_left hb⟩, fun b o hb => ⟨by simp [mixT, hb], o, join_left hb⟩, fun c o hc => by
    rcases join_some hc with h | ⟨h1, h2⟩
    · exact hs c o h
    · exact (join_none (ht c o h2)).1⟩
theorem Row.allB {tag1 : Nat → Nat} {τ : AH} {r : Nat} {e : TypeId} {s : Sl} {l : List Value} (h : Row tag1 τ r e s l) (hd : Disj σ τ) (tag : Nat → Nat) : Row (mixT σ tag tag1) (join σ τ) r e s l := by
  rcases h with h | ⟨b, cs, ha, ht, hb, hx⟩
  · exact .inl h
  · have hn : σ b = Option.none := by
      cases e : σ b with
      | none => rfl
      | some o => have := hd b o e; rw [hb] at this; cases this
    exact .inr ⟨b, cs, ha, by simp [mixT, hn, ht], by unfold join; rw [hn]; exact hb, hx⟩
end Go.Proofs.YtomdigihapdhnaaGreatDoor.SL

/- The base, twelfth part: an array as a slice. Generic over any program. -/
namespace Go.Proofs.YtomdigihapdhnaaGreatDoor.SL
open Go
set_option linter.unusedVariables false
variable {P : Program} {B : World} {ro σ : AH} {o : Oper} {fr : Fr} {x : Operand}
theorem V_slA {t e : TypeId} {n : Nat} {ad : Addr} {zv : Value} {s bt : Nat} (ho : o.op = .slice t x none none none) (ht : P.underlying t = some (.array n e)) (hz : TyIs P e zv s bt) (hx : evalF fr x = some (.pointer (some ad))) : PureEv P ro o fr (.slice (some ad) n n) := by
  intro ρ hρ
  have e' : execOp ρ o = (do pure (.value (← Instr.sliceAt t (.pointer (some ad)) none none none))) := by
    unfold execOp; rw [ho]; simp only [hρ _ _ hx]; rfl
  rw [e']
  show aread P ro (Sem.bind (Instr.sliceAt t (.pointer (some ad)) none none none) _) _ = _
  unfold Instr.sliceAt
  simp only [bind_def, bind_assoc']
  rw [underlying_bind _ _ ht]; dsimp only
  unfold Instr.sureAddr Instr.sliceBounds
  simp only [bind_def, bind_assoc', pure_def, bind_pure']
  rw [aread_size hz]
  have : ad.add (0 * s) = ad := by rw [Nat.zero_mul]; rfl
  rw [this]
  simp only [ite_self, Nat.sub_zero]
  rfl
end Go.Proofs.YtomdigihapdhnaaGreatDoor.SL
