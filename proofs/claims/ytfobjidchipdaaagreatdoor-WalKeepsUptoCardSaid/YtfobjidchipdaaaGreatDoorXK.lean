/- GWal -/
import Derived.Test.YtfobjidchipdaaaGreatDoorXJ
/- Functions as predicate transformers, and the proofs that the code does what they tell: printed by wip/tools/gen.py. -/
namespace Go.Proofs.YtfobjidchipdaaaGreatDoor.G
open Go Go.Proofs.YtfobjidchipdaaaGreatDoor.SL
set_option linter.unusedVariables false
set_option linter.unusedSimpArgs false

def j7_wal_Open (B : World) (ro : AH) (x33_2 : Nat) (Q : Option Addr → Int → AH → Prop) (σ : AH) : Prop :=
 c_wal_Log_Next B ro (some ⟨x33_2, 0, none⟩) σ fun x113_8 σ =>
 stN ((⟨x33_2, 0, none⟩ : Addr).add 4) (fun σ =>
  Q (some ⟨x33_2, 0, none⟩) 0 σ) [.int .i64 x113_8] 0 σ

def l10_wal_Open (B : World) (ro : AH) (a0 : Option Addr) (x33_2 : Nat) (x92_9 : Sl) (Q : Option Addr → Int → AH → Prop) : (Int) → AH → ((Int) → AH → Prop) → Prop := fun x94_11 σ Y10 =>
 if x94_11 < (x92_9.len : Int) then
  ∃ p96_12 : Addr, x92_9.a = some p96_12 ∧ (0 : Int) ≤ x94_11 ∧ x94_11 < (x92_9.len : Int) ∧
  ∃ (x97_13 : Option Addr), acell ro σ (p96_12.add (Int.toNat x94_11 * 1)) = some (.pointer x97_13) ∧
  ∃ p104_14 : Addr, x97_13 = some p104_14 ∧
  ∃ (x102_15a : Option Addr) (x102_15b : ByteArray), cellsAt ro σ ⟨x33_2, 0, none⟩ 0 [.pointer x102_15a, .string x102_15b] ∧
  ∃ (x106_16 : Int), acell ro σ p104_14 = some (.int .i64 x106_16) ∧
  c_wal_place_file B ro x102_15a x102_15b x106_16 σ fun x107_17 σ =>
  nw ro σ (.cells #[.string x107_17] 9) fun x108_18 σ =>
  c_disk_Disk_Sync B ro a0 (⟨some ⟨x108_18, 0, none⟩, 1, 1⟩ : Sl) σ fun x109_19 σ =>
  Y10 (IntKind.i64.wrap (x94_11 + 1)) σ
 else
 j7_wal_Open B ro x33_2 Q σ

def j6_wal_Open (B : World) (ro : AH) (a0 : Option Addr) (x33_2 : Nat) (Q : Option Addr → Int → AH → Prop) (σ : AH) : Prop :=
 ∃ (x92_9 : Sl), acell ro σ ((⟨x33_2, 0, none⟩ : Addr).add 3) = some (Sl.v x92_9) ∧
 lfpD (l10_wal_Open B ro a0 x33_2 x92_9 Q ) (0) σ

def j5_wal_Open (B : World) (ro : AH) (a0 : Option Addr) (x11_4 : Nat) (x33_2 : Nat) (Q : Option Addr → Int → AH → Prop) (σ : AH) : Prop :=
 ∃ (x82_20 : Bool), acell ro σ ⟨x11_4, 0, none⟩ = some (.bool x82_20) ∧
 if ¬ (x82_20 = true) then
  c_wal_Log_cut B ro (some ⟨x33_2, 0, none⟩) σ fun x85_21 σ =>
  if ¬ (x85_21 = 0) then
   Q none x85_21 σ
  else
  j6_wal_Open B ro a0 x33_2 Q σ
 else
 j6_wal_Open B ro a0 x33_2 Q σ

def j26_wal_Open (B : World) (ro : AH) (a0 : Option Addr) (x11_4 : Nat) (x33_2 : Nat) (x58_23 : Sl) (x60_25 : Int) (Q : Option Addr → Int → AH → Prop) (Y24 : (Int) → AH → Prop) (σ : AH) : Prop :=
 Y24 (IntKind.i64.wrap (x60_25 + 1)) σ

def j30_wal_Open (B : World) (ro : AH) (a0 : Option Addr) (x11_4 : Nat) (x33_2 : Nat) (x58_23 : Sl) (x60_25 : Int) (x63_28 : Int) (Q : Option Addr → Int → AH → Prop) (Y24 : (Int) → AH → Prop) (x71_31 : Bool) (σ : AH) : Prop :=
 if x71_31 = true then
  stN ⟨x11_4, 0, none⟩ (fun σ =>
   ∃ (x76_32a : Option Addr) (x76_32b : ByteArray), cellsAt ro σ ⟨x33_2, 0, none⟩ 0 [.pointer x76_32a, .string x76_32b] ∧
   c_wal_place_file B ro x76_32a x76_32b x63_28 σ fun x78_33 σ =>
   nw ro σ (.cells #[.string x78_33] 9) fun x79_34 σ =>
   c_disk_Disk_Remove B ro a0 (⟨some ⟨x79_34, 0, none⟩, 1, 1⟩ : Sl) σ fun x80_35 σ =>
   j26_wal_Open B ro a0 x11_4 x33_2 x58_23 x60_25 Q Y24 σ) [.bool false] 0 σ
 else
 j26_wal_Open B ro a0 x11_4 x33_2 x58_23 x60_25 Q Y24 σ

def l24_wal_Open (B : World) (ro : AH) (a0 : Option Addr) (x11_4 : Nat) (x33_2 : Nat) (x58_23 : Sl) (Q : Option Addr → Int → AH → Prop) : (Int) → AH → ((Int) → AH → Prop) → Prop := fun x60_25 σ Y24 =>
 if x60_25 < (x58_23.len : Int) then
  ∃ p62_27 : Addr, x58_23.a = some p62_27 ∧ (0 : Int) ≤ x60_25 ∧ x60_25 < (x58_23.len : Int) ∧
  ∃ (x63_28 : Int), acell ro σ (p62_27.add (Int.toNat x60_25 * 1)) = some (.int .i64 x63_28) ∧
  ∃ (x64_29 : Bool), acell ro σ ⟨x11_4, 0, none⟩ = some (.bool x64_29) ∧
  if ¬ (x64_29 = true) then
   j30_wal_Open B ro a0 x11_4 x33_2 x58_23 x60_25 x63_28 Q Y24 true σ
  else
  c_wal_Log_take B ro (some ⟨x33_2, 0, none⟩) x63_28 (some ⟨x11_4, 0, none⟩) σ fun x69_36 σ =>
  j30_wal_Open B ro a0 x11_4 x33_2 x58_23 x60_25 x63_28 Q Y24 (!x69_36) σ
 else
 j5_wal_Open B ro a0 x11_4 x33_2 Q σ

def j3_wal_Open (B : World) (ro : AH) (a0 : Option Addr) (x33_2 : Nat) (Q : Option Addr → Int → AH → Prop) (σ : AH) : Prop :=
 nw ro σ (.cells #[.bool false] 4) fun x11_4 σ =>
 stN ⟨x11_4, 0, none⟩ (fun σ =>
  ∃ (x57_22a : Option Addr) (x57_22b : ByteArray), cellsAt ro σ ⟨x33_2, 0, none⟩ 0 [.pointer x57_22a, .string x57_22b] ∧
  c_wal_place_numbers B ro x57_22a x57_22b σ fun x58_23 σ =>
  lfpD (l24_wal_Open B ro a0 x11_4 x33_2 x58_23 Q ) (0) σ) [.bool true] 0 σ

def f_wal_Open (B : World) (ro : AH) (a0 : Option Addr) (a1 : ByteArray) (a2 : Int) (σ : AH) (Q : Option Addr → Int → AH → Prop) : Prop :=
 c_wal_rightName B ro a1 σ fun x18_1 σ =>
 if ((¬ (x18_1 = true)) ∨ (a2 < 16)) ∨ (1048576 < a2) then
  Q none 40 σ
 else
 nw ro σ (.cells #[.pointer a0, .string a1, .int .i64 a2, Sl.v (⟨none, 0, 0⟩ : Sl), .int .i64 0] 131) fun x33_2 σ =>
 ∃ (x39_37a : Option Addr) (x39_37b : ByteArray), cellsAt ro σ ⟨x33_2, 0, none⟩ 0 [.pointer x39_37a, .string x39_37b] ∧
 c_wal_place_cutFile B ro x39_37a x39_37b σ fun x40_38 σ =>
 c_disk_Disk_Read B ro a0 x40_38 σ fun x41_39 x41_40 σ =>
 if x41_40 = 0 then
  ∃ (x50_41a : Option Addr) (x50_41b : ByteArray), cellsAt ro σ ⟨x33_2, 0, none⟩ 0 [.pointer x50_41a, .string x50_41b] ∧
  c_wal_place_cutFile B ro x50_41a x50_41b σ fun x51_42 σ =>
  nw ro σ (.cells #[.string x51_42] 9) fun x52_43 σ =>
  c_disk_Disk_Remove B ro a0 (⟨some ⟨x52_43, 0, none⟩, 1, 1⟩ : Sl) σ fun x53_44 σ =>
  j3_wal_Open B ro a0 x33_2 Q σ
 else
 j3_wal_Open B ro a0 x33_2 Q σ

set_option maxRecDepth 100000 in
set_option maxHeartbeats 4000000 in
theorem wal_Open_ok {B : World} {ro : AH} {a0 : Option Addr} {a1 : ByteArray} {a2 : Int} {σ : AH} {Q : Option Addr → Int → AH → Prop} (h : Sep ro σ → f_wal_Open B ro a0 a1 a2 σ Q) : c_wal_Open B ro a0 a1 a2 σ Q := by
  refine ACalls.of_sep fun hsep => ?_
  replace h := h hsep
  refine ACalls.of_body (args := [.pointer a0, .string a1, .int .i64 a2]) Tryz.func29 rfl (by rw [Tryz.ntmps29]; simp) ?_
  rw [Tryz.ntmps29]
  unfold f_wal_Open at h
  refine AW.seq ?_
  refine AW.reg ?_
  refine Lp (V_asg rfl rfl) rfl rfl ?_
  refine Lp (V_asg rfl rfl) rfl rfl ?_
  refine Lnil ?_
  refine thenN ?_
  refine AW.seq ?_
  refine AW.seq ?_
  refine AW.reg ?_
  refine Lp (V_move rfl rfl) rfl rfl ?_
  refine Ls rfl rfl (X_call rfl Tryz.func66 rfl rfl rfl (ACalls.mono h ?_))
  rintro v σ ⟨x18_1, rfl, h⟩
  refine Lp (V_not rfl rfl) rfl rfl ?_
  refine Lp (V_move rfl rfl) rfl rfl ?_
  refine Lsplit 3 (!x18_1) [(0, .pointer a0), (1, .string a1), (2, .int .i64 a2), (23, .bool ((!x18_1) || (decide (a2 < 16))))] ?_ ?_ ?_
  · intro e3 hk3
    refine Ln rfl rfl rfl rfl (.inl (by rw [e3]; rfl)) ?_
    refine Ln rfl rfl rfl rfl (.inl (by rw [e3]; rfl)) ?_
    refine Lp (V_pickT rfl (evb e3) rfl) rfl rfl ?_
    exact hk3 _ (FrLe.cons rfl (FrLe.cons rfl (FrLe.cons rfl (FrLe.cons (by rw [e3]; rfl) (FrLe.nil _)))))
  · intro e3 hk3
    refine Lypb (V_move rfl rfl) rfl rfl rfl rfl e3 ?_
    refine Lypb (V_lss rfl rfl rfl) rfl rfl rfl rfl e3 ?_
    refine Lp (V_pickF rfl (evb e3) rfl) rfl rfl ?_
    exact hk3 _ (FrLe.cons rfl (FrLe.cons rfl (FrLe.cons rfl (FrLe.cons (by rw [e3]; rfl) (FrLe.nil _)))))
  intro fr hl
  refine Lfr hl ?_
  refine Lp (V_move rfl rfl) rfl rfl ?_
  refine Lsplit 3 ((!x18_1) || (decide (a2 < 16))) [(0, .pointer a0), (1, .string a1), (2, .int .i64 a2), (27, .bool (((!x18_1) || (decide (a2 < 16))) || (decide (1048576 < a2))))] ?_ ?_ ?_
  · intro e7 hk7
    refine Ln rfl rfl rfl rfl (.inl (by rw [e7]; rfl)) ?_
    refine Ln rfl rfl rfl rfl (.inl (by rw [e7]; rfl)) ?_
    refine Lp (V_pickT rfl (evb e7) rfl) rfl rfl ?_
    exact hk7 _ (FrLe.cons rfl (FrLe.cons rfl (FrLe.cons rfl (FrLe.cons (by rw [e7]; rfl) (FrLe.nil _)))))
  · intro e7 hk7
    refine Lypb (V_move rfl rfl) rfl rfl rfl rfl e7 ?_
    refine Lypb (V_gtr rfl rfl rfl) rfl rfl rfl rfl e7 ?_
    refine Lp (V_pickF rfl (evb e7) rfl) rfl rfl ?_
    exact hk7 _ (FrLe.cons rfl (FrLe.cons rfl (FrLe.cons rfl (FrLe.cons (by rw [e7]; rfl) (FrLe.nil _)))))
  intro fr hl
  refine Lfr hl ?_
  refine Lnil ?_
  refine thenN ?_
  refine AW.iff rfl (bor_iff (bor_iff (bnot_iff Iff.rfl) decide_eq_true_iff) decide_eq_true_iff) h (fun h => ?_) (fun h => ?_)
  · refine AW.seq ?_
    refine AW.reg ?_
    refine Lp (V_asg rfl rfl) rfl rfl ?_
    refine Lp (V_asg rfl rfl) rfl rfl ?_
    refine Lnil ?_
    refine thenN ?_
    refine AW.ret ?_
    refine thenR ?_
    exact bR2 Tryz.results29 rfl rfl ⟨_, _, rfl, h⟩
  refine AW.skip ?_
  refine thenN ?_
  refine AW.seq ?_
  refine AW.reg ?_
  refine Lp (V_move rfl rfl) rfl rfl ?_
  refine Lp (V_move rfl rfl) rfl rfl ?_
  refine Lp (V_bld (vs := [(0, .pointer a0), (1, .string a1)]) (cs := #[.pointer a0, .string a1]) rfl Tryz.underlying128 ty128 pl128 rfl rfl) rfl rfl ?_
  refine Lp (V_move rfl rfl) rfl rfl ?_
  refine Lp (V_bld (vs := [(0, .agg #[.pointer a0, .string a1]), (1, .int .i64 a2)]) (cs := #[.pointer a0, .string a1, .int .i64 a2, Sl.v (⟨none, 0, 0⟩ : Sl), .int .i64 0]) rfl Tryz.underlying131 ty131 pl131 rfl rfl) rfl rfl ?_
  refine Ls rfl rfl (X_new (A_box rfl rfl) fun x33_2 g1 g2 => ?_)
  replace h := h x33_2 g1 g2
  refine Lp (V_asg rfl rfl) rfl rfl ?_
  refine Lnil ?_
  refine thenN ?_
  refine AW.seqJ (fun fr σ => FrLe [(0, .pointer a0), (8, .pointer (some ⟨x33_2, 0, none⟩))] fr ∧ j3_wal_Open B ro a0 x33_2 Q σ) ?_ ?_
  rotate_left
  · refine AW.seq ?_
    refine AW.reg ?_
    refine Lp (V_move rfl rfl) rfl rfl ?_
    refine Lp (V_move rfl rfl) rfl rfl ?_
    refine Lp (V_nil rfl rfl) rfl rfl ?_
    refine Lp (V_fld rfl Tryz.underlying131 rfl ty128 (by decide) rfl) rfl rfl ?_
    obtain ⟨x39_37a, x39_37b, hc, h⟩ := h
    refine Ls rfl rfl (X_lda rfl Tryz.underlying128 rfl ty128 rfl hc ?_)
    refine Ls rfl rfl (X_call rfl Tryz.func67 rfl rfl rfl (ACalls.mono h ?_))
    rintro v σ ⟨x40_38, rfl, h⟩
    refine Ls rfl rfl (X_call rfl Tryz.func51 rfl rfl rfl (ACalls.mono h ?_))
    rintro v σ ⟨x41_39, x41_40, rfl, h⟩
    refine Lp (V_move rfl rfl) rfl rfl ?_
    refine Lp (V_ext rfl rfl rfl) rfl rfl ?_
    refine Lp (V_ext rfl rfl rfl) rfl rfl ?_
    refine Lp (V_asg rfl rfl) rfl rfl ?_
    refine Lp (V_asg rfl rfl) rfl rfl ?_
    refine Lnil ?_
    refine thenN ?_
    refine AW.seq ?_
    refine AW.reg ?_
    refine Lp (V_move rfl rfl) rfl rfl ?_
    refine Lp (V_eql rfl rfl rfl) rfl rfl ?_
    refine Lnil ?_
    refine thenN ?_
    refine AW.iff rfl decide_eq_true_iff h (fun h => ?_) (fun h => ?_)
    rotate_left
    · refine AW.skip ?_
      refine thenN ?_
      exact ⟨(FrLe.cons rfl (FrLe.cons rfl (FrLe.nil _))), h⟩
    refine AW.reg ?_
    refine Lp (V_move rfl rfl) rfl rfl ?_
    refine Lp (V_move rfl rfl) rfl rfl ?_
    refine Lp (V_nil rfl rfl) rfl rfl ?_
    refine Lp (V_fld rfl Tryz.underlying131 rfl ty128 (by decide) rfl) rfl rfl ?_
    obtain ⟨x50_41a, x50_41b, hc, h⟩ := h
    refine Ls rfl rfl (X_lda rfl Tryz.underlying128 rfl ty128 rfl hc ?_)
    refine Ls rfl rfl (X_call rfl Tryz.func67 rfl rfl rfl (ACalls.mono h ?_))
    rintro v σ ⟨x51_42, rfl, h⟩
    refine Ls rfl rfl (X_new (A_bsl (vs := [(0, .string x51_42)]) (cs := #[.string x51_42]) rfl Tryz.underlying83 ty9 (by decide) rfl rfl) fun x52_43 g1 g2 => ?_)
    replace h := h x52_43 g1 g2
    refine Ls rfl rfl (X_call rfl Tryz.func40 rfl rfl rfl (ACalls.mono h ?_))
    rintro v σ ⟨x53_44, rfl, h⟩
    refine Lnil ?_
    refine thenN ?_
    exact ⟨(FrLe.cons rfl (FrLe.cons rfl (FrLe.nil _))), h⟩
  rintro fr σ ⟨hl, h⟩
  refine AW.weaken ?_ hl (HLe.refl _)
  unfold j3_wal_Open at h
  refine AW.seq ?_
  refine AW.reg ?_
  refine Ls rfl rfl (X_new (A_alloc rfl ty4) fun x11_4 g1 g2 => ?_)
  replace h := h x11_4 g1 g2
  refine Ls rfl rfl (X_st rfl ty4 rfl rfl rfl rfl (stN_mono h fun σ h => ?_))
  refine Lnil ?_
  refine thenN ?_
  refine AW.seqJ (fun fr σ => FrLe [(0, .pointer a0), (8, .pointer (some ⟨x33_2, 0, none⟩)), (11, .pointer (some ⟨x11_4, 0, none⟩))] fr ∧ j5_wal_Open B ro a0 x11_4 x33_2 Q σ) ?_ ?_
  rotate_left
  · refine AW.seq ?_
    refine AW.reg ?_
    refine Lp (V_move rfl rfl) rfl rfl ?_
    refine Lp (V_nil rfl rfl) rfl rfl ?_
    refine Lp (V_fld rfl Tryz.underlying131 rfl ty128 (by decide) rfl) rfl rfl ?_
    obtain ⟨x57_22a, x57_22b, hc, h⟩ := h
    refine Ls rfl rfl (X_lda rfl Tryz.underlying128 rfl ty128 rfl hc ?_)
    refine Ls rfl rfl (X_call rfl Tryz.func68 rfl rfl rfl (ACalls.mono h ?_))
    rintro v σ ⟨x58_23, rfl, h⟩
    refine Lp (V_lenL rfl rfl Tryz.underlying23 rfl rfl) rfl rfl ?_
    refine Lp (V_move rfl rfl) rfl rfl ?_
    refine Lnil ?_
    refine thenN ?_
    refine AW.block ?_
    refine ARound.loop (fr' := [(0, .pointer a0), (8, .pointer (some ⟨x33_2, 0, none⟩)), (11, .pointer (some ⟨x11_4, 0, none⟩)), (58, Sl.v x58_23), (59, .int .i64 (x58_23.len : Int)), (60, .int .i64 0)]) ?_ (FrLe.cons rfl (FrLe.cons rfl (FrLe.cons rfl (FrLe.cons rfl (FrLe.cons rfl (FrLe.cons rfl (FrLe.nil _)))))))
    refine h (fun x60_25 σ => ARound _ _ _ _ _ _ [(0, .pointer a0), (8, .pointer (some ⟨x33_2, 0, none⟩)), (11, .pointer (some ⟨x11_4, 0, none⟩)), (58, Sl.v x58_23), (59, .int .i64 (x58_23.len : Int)), (60, .int .i64 x60_25)] σ) ?_
    rintro x60_25 σ Y24 hY24 h
    show AW _ _ _ _ _ _ _ _
    unfold l24_wal_Open at h
    refine AW.seq ?_
    refine AW.reg ?_
    refine Lp (V_lss rfl rfl rfl) rfl rfl ?_
    refine Lnil ?_
    refine thenN ?_
    refine AW.seq ?_
    refine AW.iff rfl decide_eq_true_iff h (fun h => ?_) (fun h => ?_)
    rotate_left
    · refine AW.exit ?_
      refine thenE ?_
      refine thenE ?_
      refine blockE ?_
      refine thenN ?_
      exact ⟨(FrLe.cons rfl (FrLe.cons rfl (FrLe.cons rfl (FrLe.nil _)))), h⟩
    refine AW.skip ?_
    refine thenN ?_
    refine AW.seqJ (fun fr σ => FrLe [(0, .pointer a0), (8, .pointer (some ⟨x33_2, 0, none⟩)), (11, .pointer (some ⟨x11_4, 0, none⟩)), (58, Sl.v x58_23), (59, .int .i64 (x58_23.len : Int)), (60, .int .i64 x60_25)] fr ∧ j26_wal_Open B ro a0 x11_4 x33_2 x58_23 x60_25 Q Y24 σ) ?_ ?_
    · rintro fr σ ⟨hl, h⟩
      refine AW.weaken ?_ hl (HLe.refl _)
      unfold j26_wal_Open at h
      refine AW.reg ?_
      refine Lp (V_add rfl rfl rfl) rfl rfl ?_
      refine Lp (V_move rfl rfl) rfl rfl ?_
      refine Lnil ?_
      refine thenN ?_
      refine ARound.head (fr' := [(0, .pointer a0), (8, .pointer (some ⟨x33_2, 0, none⟩)), (11, .pointer (some ⟨x11_4, 0, none⟩)), (58, Sl.v x58_23), (59, .int .i64 (x58_23.len : Int)), (60, .int .i64 (IntKind.i64.wrap (x60_25 + 1)))]) ?_ (FrLe.cons rfl (FrLe.cons rfl (FrLe.cons rfl (FrLe.cons rfl (FrLe.cons rfl (FrLe.cons rfl (FrLe.nil _)))))))
      exact hY24 _ _ h
    refine AW.block ?_
    refine AW.seq ?_
    refine AW.reg ?_
    obtain ⟨p62_27, ha, h0, h1, h⟩ := h
    refine Lp (V_ixA rfl Tryz.underlying23 ty3 (ixL rfl ha) rfl h0 h1) rfl rfl ?_
    obtain ⟨x63_28, hc, h⟩ := h
    refine Ls rfl rfl (X_ld rfl Tryz.underlying3 rfl rfl hc ?_)
    refine Lp (V_asg rfl rfl) rfl rfl ?_
    refine Lnil ?_
    refine thenN ?_
    refine AW.seq ?_
    refine AW.reg ?_
    obtain ⟨x64_29, hc, h⟩ := h
    refine Ls rfl rfl (X_ld rfl Tryz.underlying4 rfl rfl hc ?_)
    refine Lp (V_not rfl rfl) rfl rfl ?_
    refine Lp (V_move rfl rfl) rfl rfl ?_
    refine LsplitJ 5 (!x64_29) (bnot_iff Iff.rfl) h (fun fr σ => ∃ (x71_31 : Bool), FrLe [(0, .pointer a0), (8, .pointer (some ⟨x33_2, 0, none⟩)), (11, .pointer (some ⟨x11_4, 0, none⟩)), (13, .int .i64 x63_28), (58, Sl.v x58_23), (59, .int .i64 (x58_23.len : Int)), (60, .int .i64 x60_25), (71, .bool x71_31)] fr ∧ j30_wal_Open B ro a0 x11_4 x33_2 x58_23 x60_25 x63_28 Q Y24 x71_31 σ) ?_ ?_ ?_
    · intro h e2 hk2
      refine Ln rfl rfl rfl rfl (.inl (by rw [e2]; rfl)) ?_
      refine Ln rfl rfl rfl rfl (.inl (by rw [e2]; rfl)) ?_
      refine Ln rfl rfl rfl rfl (.inl (by rw [e2]; rfl)) ?_
      refine Ln rfl rfl rfl rfl (.inl (by rw [e2]; rfl)) ?_
      refine Lp (V_pickT rfl (evb e2) rfl) rfl rfl ?_
      exact hk2 _ _ ⟨_, (FrLe.cons rfl (FrLe.cons rfl (FrLe.cons rfl (FrLe.cons rfl (FrLe.cons rfl (FrLe.cons rfl (FrLe.cons rfl (FrLe.cons rfl (FrLe.nil _))))))))), h⟩
    · intro h e2 hk2
      refine Lypb (V_move rfl rfl) rfl rfl rfl rfl e2 ?_
      refine Lypb (V_move rfl rfl) rfl rfl rfl rfl e2 ?_
      refine Lyb rfl rfl rfl rfl e2 (X_call rfl Tryz.func69 rfl rfl rfl (ACalls.mono h ?_))
      rintro v σ ⟨x69_36, rfl, h⟩
      refine Lypb (V_not rfl rfl) rfl rfl rfl rfl e2 ?_
      refine Lp (V_pickF rfl (evb e2) rfl) rfl rfl ?_
      exact hk2 _ _ ⟨_, (FrLe.cons rfl (FrLe.cons rfl (FrLe.cons rfl (FrLe.cons rfl (FrLe.cons rfl (FrLe.cons rfl (FrLe.cons rfl (FrLe.cons rfl (FrLe.nil _))))))))), h⟩
    rintro fr σ ⟨x71_31, hl, h⟩
    unfold j30_wal_Open at h
    refine Lfr hl ?_
    refine Lnil ?_
    refine thenN ?_
    refine AW.iff rfl Iff.rfl h (fun h => ?_) (fun h => ?_)
    rotate_left
    · refine AW.skip ?_
      refine blockN ?_
      refine thenN ?_
      exact ⟨(FrLe.cons rfl (FrLe.cons rfl (FrLe.cons rfl (FrLe.cons rfl (FrLe.cons rfl (FrLe.cons rfl (FrLe.nil _))))))), h⟩
    refine AW.seq ?_
    refine AW.reg ?_
    refine Ls rfl rfl (X_st rfl ty4 rfl rfl rfl rfl (stN_mono h fun σ h => ?_))
    refine Lnil ?_
    refine thenN ?_
    refine AW.reg ?_
    refine Lp (V_move rfl rfl) rfl rfl ?_
    refine Lp (V_move rfl rfl) rfl rfl ?_
    refine Lp (V_nil rfl rfl) rfl rfl ?_
    refine Lp (V_fld rfl Tryz.underlying131 rfl ty128 (by decide) rfl) rfl rfl ?_
    obtain ⟨x76_32a, x76_32b, hc, h⟩ := h
    refine Ls rfl rfl (X_lda rfl Tryz.underlying128 rfl ty128 rfl hc ?_)
    refine Lp (V_move rfl rfl) rfl rfl ?_
    refine Ls rfl rfl (X_call rfl Tryz.func70 rfl rfl rfl (ACalls.mono h ?_))
    rintro v σ ⟨x78_33, rfl, h⟩
    refine Ls rfl rfl (X_new (A_bsl (vs := [(0, .string x78_33)]) (cs := #[.string x78_33]) rfl Tryz.underlying83 ty9 (by decide) rfl rfl) fun x79_34 g1 g2 => ?_)
    replace h := h x79_34 g1 g2
    refine Ls rfl rfl (X_call rfl Tryz.func40 rfl rfl rfl (ACalls.mono h ?_))
    rintro v σ ⟨x80_35, rfl, h⟩
    refine Lnil ?_
    refine blockN ?_
    refine thenN ?_
    exact ⟨(FrLe.cons rfl (FrLe.cons rfl (FrLe.cons rfl (FrLe.cons rfl (FrLe.cons rfl (FrLe.cons rfl (FrLe.nil _))))))), h⟩
  rintro fr σ ⟨hl, h⟩
  refine AW.weaken ?_ hl (HLe.refl _)
  unfold j5_wal_Open at h
  refine AW.seqJ (fun fr σ => FrLe [(0, .pointer a0), (8, .pointer (some ⟨x33_2, 0, none⟩))] fr ∧ j6_wal_Open B ro a0 x33_2 Q σ) ?_ ?_
  rotate_left
  · refine AW.seq ?_
    refine AW.reg ?_
    obtain ⟨x82_20, hc, h⟩ := h
    refine Ls rfl rfl (X_ld rfl Tryz.underlying4 rfl rfl hc ?_)
    refine Lp (V_not rfl rfl) rfl rfl ?_
    refine Lnil ?_
    refine thenN ?_
    refine AW.iff rfl (bnot_iff Iff.rfl) h (fun h => ?_) (fun h => ?_)
    rotate_left
    · refine AW.skip ?_
      refine thenN ?_
      exact ⟨(FrLe.cons rfl (FrLe.cons rfl (FrLe.nil _))), h⟩
    refine AW.seq ?_
    refine AW.reg ?_
    refine Lp (V_move rfl rfl) rfl rfl ?_
    refine Ls rfl rfl (X_call rfl Tryz.func71 rfl rfl rfl (ACalls.mono h ?_))
    rintro v σ ⟨x85_21, rfl, h⟩
    refine Lp (V_asg rfl rfl) rfl rfl ?_
    refine Lnil ?_
    refine thenN ?_
    refine AW.seq ?_
    refine AW.reg ?_
    refine Lp (V_move rfl rfl) rfl rfl ?_
    refine Lp (V_neq rfl rfl rfl) rfl rfl ?_
    refine Lnil ?_
    refine thenN ?_
    refine AW.iff rfl (bnot_iff decide_eq_true_iff) h (fun h => ?_) (fun h => ?_)
    rotate_left
    · refine AW.skip ?_
      refine thenN ?_
      exact ⟨(FrLe.cons rfl (FrLe.cons rfl (FrLe.nil _))), h⟩
    refine AW.seq ?_
    refine AW.reg ?_
    refine Lp (V_move rfl rfl) rfl rfl ?_
    refine Lp (V_asg rfl rfl) rfl rfl ?_
    refine Lp (V_asg rfl rfl) rfl rfl ?_
    refine Lnil ?_
    refine thenN ?_
    refine AW.ret ?_
    refine thenR ?_
    exact bR2 Tryz.results29 rfl rfl ⟨_, _, rfl, h⟩
  rintro fr σ ⟨hl, h⟩
  refine AW.weaken ?_ hl (HLe.refl _)
  unfold j6_wal_Open at h
  refine AW.seqJ (fun fr σ => FrLe [(8, .pointer (some ⟨x33_2, 0, none⟩))] fr ∧ j7_wal_Open B ro x33_2 Q σ) ?_ ?_
  · rintro fr σ ⟨hl, h⟩
    refine AW.weaken ?_ hl (HLe.refl _)
    unfold j7_wal_Open at h
    refine AW.seq ?_
    refine AW.reg ?_
    refine Lp (V_move rfl rfl) rfl rfl ?_
    refine Lp (V_move rfl rfl) rfl rfl ?_
    refine Ls rfl rfl (X_call rfl Tryz.func32 rfl rfl rfl (ACalls.mono h ?_))
    rintro v σ ⟨x113_8, rfl, h⟩
    refine Lp (V_nil rfl rfl) rfl rfl ?_
    refine Lp (V_fld rfl Tryz.underlying131 rfl ty3 (by decide) rfl) rfl rfl ?_
    refine Ls rfl rfl (X_st rfl ty3 rfl rfl rfl rfl (stN_mono h fun σ h => ?_))
    refine Lnil ?_
    refine thenN ?_
    refine AW.seq ?_
    refine AW.reg ?_
    refine Lp (V_move rfl rfl) rfl rfl ?_
    refine Lp (V_asg rfl rfl) rfl rfl ?_
    refine Lp (V_asg rfl rfl) rfl rfl ?_
    refine Lnil ?_
    refine thenN ?_
    refine AW.ret ?_
    exact bR2 Tryz.results29 rfl rfl ⟨_, _, rfl, h⟩
  refine AW.seq ?_
  refine AW.reg ?_
  refine Lp (V_move rfl rfl) rfl rfl ?_
  refine Lp (V_nil rfl rfl) rfl rfl ?_
  refine Lp (V_fld rfl Tryz.underlying131 rfl ty129 (by decide) rfl) rfl rfl ?_
  obtain ⟨x92_9, hc, h⟩ := h
  refine Ls rfl rfl (X_ld rfl Tryz.underlying129 rfl rfl hc ?_)
  refine Lp (V_lenL rfl rfl Tryz.underlying129 rfl rfl) rfl rfl ?_
  refine Lp (V_move rfl rfl) rfl rfl ?_
  refine Lnil ?_
  refine thenN ?_
  refine AW.block ?_
  refine ARound.loop (fr' := [(0, .pointer a0), (8, .pointer (some ⟨x33_2, 0, none⟩)), (92, Sl.v x92_9), (93, .int .i64 (x92_9.len : Int)), (94, .int .i64 0)]) ?_ (FrLe.cons rfl (FrLe.cons rfl (FrLe.cons rfl (FrLe.cons rfl (FrLe.cons rfl (FrLe.nil _))))))
  refine h (fun x94_11 σ => ARound _ _ _ _ _ _ [(0, .pointer a0), (8, .pointer (some ⟨x33_2, 0, none⟩)), (92, Sl.v x92_9), (93, .int .i64 (x92_9.len : Int)), (94, .int .i64 x94_11)] σ) ?_
  rintro x94_11 σ Y10 hY10 h
  show AW _ _ _ _ _ _ _ _
  unfold l10_wal_Open at h
  refine AW.seq ?_
  refine AW.reg ?_
  refine Lp (V_lss rfl rfl rfl) rfl rfl ?_
  refine Lnil ?_
  refine thenN ?_
  refine AW.seq ?_
  refine AW.iff rfl decide_eq_true_iff h (fun h => ?_) (fun h => ?_)
  rotate_left
  · refine AW.exit ?_
    refine thenE ?_
    refine thenE ?_
    refine blockE ?_
    refine thenN ?_
    exact ⟨(FrLe.cons rfl (FrLe.nil _)), h⟩
  refine AW.skip ?_
  refine thenN ?_
  refine AW.seq ?_
  refine AW.block ?_
  refine AW.seq ?_
  refine AW.reg ?_
  obtain ⟨p96_12, ha, h0, h1, h⟩ := h
  refine Lp (V_ixA rfl Tryz.underlying129 ty136 (ixL rfl ha) rfl h0 h1) rfl rfl ?_
  obtain ⟨x97_13, hc, h⟩ := h
  refine Ls rfl rfl (X_ld rfl Tryz.underlying136 rfl rfl hc ?_)
  refine Lp (V_asg rfl rfl) rfl rfl ?_
  refine Lnil ?_
  refine thenN ?_
  refine AW.drawn0 (fun i => ([0, 0, 0, 0, 3, 0, 0, 0, 3, 2, 1, 2] : List Nat).getD i 2) [(4, 9), (4, 10), (4, 11), (8, 9), (8, 10), (8, 11)] [0, 1, 2, 3, 5, 6, 7, 4, 8, 9, 10, 11] Tryz.mixed (by decide +kernel) ?_
  refine Dp rfl rfl rfl rfl (V_move rfl rfl) ?_
  refine Dp rfl rfl rfl rfl (V_move rfl rfl) ?_
  refine Dp rfl rfl rfl rfl (V_nil rfl rfl) ?_
  refine Dp rfl rfl rfl rfl (V_fld rfl Tryz.underlying131 rfl ty128 (by decide) rfl) ?_
  refine Dp rfl rfl rfl rfl (V_move rfl rfl) ?_
  obtain ⟨p104_14, hc, h⟩ := h
  refine Dp rfl rfl rfl rfl (V_nil rfl (by rw [← hc]; rfl)) ?_
  refine Dp rfl rfl rfl rfl (V_fld rfl Tryz.underlying138 rfl ty3 (by decide) rfl) ?_
  obtain ⟨x102_15a, x102_15b, hc, h⟩ := h
  refine Dr rfl rfl rfl rfl (R_lda rfl Tryz.underlying128 rfl ty128 rfl hc) ?_
  obtain ⟨x106_16, hc, h⟩ := h
  refine Dr rfl rfl rfl rfl (R_ld rfl Tryz.underlying3 rfl rfl hc) ?_
  refine Dg rfl rfl rfl rfl (X_call rfl Tryz.func70 rfl rfl rfl (ACalls.mono h ?_))
  rintro v σ ⟨x107_17, rfl, h⟩
  refine Da rfl rfl rfl rfl (A_bsl (vs := [(0, .string x107_17)]) (cs := #[.string x107_17]) rfl Tryz.underlying83 ty9 (by decide) rfl rfl) fun x108_18 g1 g2 => ?_
  replace h := h x108_18 g1 g2
  refine Dg rfl rfl rfl rfl (X_call rfl Tryz.func44 rfl rfl rfl (ACalls.mono h ?_))
  rintro v σ ⟨x109_19, rfl, h⟩
  refine Dend ?_
  refine blockN ?_
  refine thenN ?_
  refine AW.reg ?_
  refine Lp (V_add rfl rfl rfl) rfl rfl ?_
  refine Lp (V_move rfl rfl) rfl rfl ?_
  refine Lnil ?_
  refine thenN ?_
  refine ARound.head (fr' := [(0, .pointer a0), (8, .pointer (some ⟨x33_2, 0, none⟩)), (92, Sl.v x92_9), (93, .int .i64 (x92_9.len : Int)), (94, .int .i64 (IntKind.i64.wrap (x94_11 + 1)))]) ?_ (FrLe.cons rfl (FrLe.cons rfl (FrLe.cons rfl (FrLe.cons rfl (FrLe.cons rfl (FrLe.nil _))))))
  exact hY10 _ _ h

def j2_wal_Log_Append (B : World) (ro : AH) (Q : Int → AH → Prop) (σ : AH) : Prop :=
 Q 0 σ

def l3_wal_Log_Append (B : World) (ro : AH) (a0 : Option Addr) (a1 : Sl) (Q : Int → AH → Prop) : (Int) → AH → ((Int) → AH → Prop) → Prop := fun x22_4 σ Y3 =>
 if x22_4 < (a1.len : Int) then
  ∃ p24_5 : Addr, a1.a = some p24_5 ∧ (0 : Int) ≤ x22_4 ∧ x22_4 < (a1.len : Int) ∧
  ∃ (x25_6 : Sl), acell ro σ (p24_5.add (Int.toNat x22_4 * 1)) = some (Sl.v x25_6) ∧
  c_wal_Log_write B ro a0 x25_6 σ fun x28_7 σ =>
  if ¬ (x28_7 = 0) then
   Q x28_7 σ
  else
  Y3 (IntKind.i64.wrap (x22_4 + 1)) σ
 else
 j2_wal_Log_Append B ro Q σ

def j1_wal_Log_Append (B : World) (ro : AH) (a0 : Option Addr) (a1 : Sl) (Q : Int → AH → Prop) (σ : AH) : Prop :=
 lfpD (l3_wal_Log_Append B ro a0 a1 Q ) (0) σ

def l8_wal_Log_Append (B : World) (ro : AH) (a0 : Option Addr) (a1 : Sl) (Q : Int → AH → Prop) : (Int) → AH → ((Int) → AH → Prop) → Prop := fun x12_9 σ Y8 =>
 if x12_9 < (a1.len : Int) then
  ∃ p14_10 : Addr, a1.a = some p14_10 ∧ (0 : Int) ≤ x12_9 ∧ x12_9 < (a1.len : Int) ∧
  ∃ (x15_11 : Sl), acell ro σ (p14_10.add (Int.toNat x12_9 * 1)) = some (Sl.v x15_11) ∧
  if 65536 < (x15_11.len : Int) then
   Q 14 σ
  else
  Y8 (IntKind.i64.wrap (x12_9 + 1)) σ
 else
 j1_wal_Log_Append B ro a0 a1 Q σ

def f_wal_Log_Append (B : World) (ro : AH) (a0 : Option Addr) (a1 : Sl) (σ : AH) (Q : Int → AH → Prop) : Prop :=
 lfpD (l8_wal_Log_Append B ro a0 a1 Q ) (0) σ

set_option maxRecDepth 100000 in
set_option maxHeartbeats 4000000 in
theorem wal_Log_Append_ok {B : World} {ro : AH} {a0 : Option Addr} {a1 : Sl} {σ : AH} {Q : Int → AH → Prop} (h : Sep ro σ → f_wal_Log_Append B ro a0 a1 σ Q) : c_wal_Log_Append B ro a0 a1 σ Q := by
  refine ACalls.of_sep fun hsep => ?_
  replace h := h hsep
  refine ACalls.of_body (args := [.pointer a0, Sl.v a1]) Tryz.func30 rfl (by rw [Tryz.ntmps30]; simp) ?_
  rw [Tryz.ntmps30]
  unfold f_wal_Log_Append at h
  refine AW.seq ?_
  refine AW.reg ?_
  refine Lp (V_asg rfl rfl) rfl rfl ?_
  refine Lnil ?_
  refine thenN ?_
  refine AW.seqJ (fun fr σ => FrLe [(0, .pointer a0), (1, Sl.v a1)] fr ∧ j1_wal_Log_Append B ro a0 a1 Q σ) ?_ ?_
  rotate_left
  · refine AW.seq ?_
    refine AW.reg ?_
    refine Lp (V_move rfl rfl) rfl rfl ?_
    refine Lp (V_lenL rfl rfl Tryz.underlying44 rfl rfl) rfl rfl ?_
    refine Lp (V_move rfl rfl) rfl rfl ?_
    refine Lnil ?_
    refine thenN ?_
    refine AW.block ?_
    refine ARound.loop (fr' := [(0, .pointer a0), (1, Sl.v a1), (10, Sl.v a1), (11, .int .i64 (a1.len : Int)), (12, .int .i64 0)]) ?_ (FrLe.cons rfl (FrLe.cons rfl (FrLe.cons rfl (FrLe.cons rfl (FrLe.cons rfl (FrLe.nil _))))))
    refine h (fun x12_9 σ => ARound _ _ _ _ _ _ [(0, .pointer a0), (1, Sl.v a1), (10, Sl.v a1), (11, .int .i64 (a1.len : Int)), (12, .int .i64 x12_9)] σ) ?_
    rintro x12_9 σ Y8 hY8 h
    show AW _ _ _ _ _ _ _ _
    unfold l8_wal_Log_Append at h
    refine AW.seq ?_
    refine AW.reg ?_
    refine Lp (V_lss rfl rfl rfl) rfl rfl ?_
    refine Lnil ?_
    refine thenN ?_
    refine AW.seq ?_
    refine AW.iff rfl decide_eq_true_iff h (fun h => ?_) (fun h => ?_)
    rotate_left
    · refine AW.exit ?_
      refine thenE ?_
      refine thenE ?_
      refine blockE ?_
      refine thenN ?_
      exact ⟨(FrLe.cons rfl (FrLe.cons rfl (FrLe.nil _))), h⟩
    refine AW.skip ?_
    refine thenN ?_
    refine AW.seq ?_
    refine AW.block ?_
    refine AW.seq ?_
    refine AW.reg ?_
    obtain ⟨p14_10, ha, h0, h1, h⟩ := h
    refine Lp (V_ixA rfl Tryz.underlying44 ty22 (ixL rfl ha) rfl h0 h1) rfl rfl ?_
    obtain ⟨x15_11, hc, h⟩ := h
    refine Ls rfl rfl (X_ld rfl Tryz.underlying22 rfl rfl hc ?_)
    refine Lp (V_asg rfl rfl) rfl rfl ?_
    refine Lnil ?_
    refine thenN ?_
    refine AW.seq ?_
    refine AW.reg ?_
    refine Lp (V_move rfl rfl) rfl rfl ?_
    refine Lp (V_lenL rfl rfl Tryz.underlying22 rfl rfl) rfl rfl ?_
    refine Lp (V_gtr rfl rfl rfl) rfl rfl ?_
    refine Lnil ?_
    refine thenN ?_
    refine AW.iff rfl decide_eq_true_iff h (fun h => ?_) (fun h => ?_)
    · refine AW.seq ?_
      refine AW.reg ?_
      refine Lp (V_asg rfl rfl) rfl rfl ?_
      refine Lnil ?_
      refine thenN ?_
      refine AW.ret ?_
      refine blockR ?_
      refine thenR ?_
      refine thenR ?_
      refine blockR ?_
      refine thenR ?_
      exact bR1 Tryz.results30 rfl ⟨_, rfl, h⟩
    refine AW.skip ?_
    refine blockN ?_
    refine thenN ?_
    refine AW.reg ?_
    refine Lp (V_add rfl rfl rfl) rfl rfl ?_
    refine Lp (V_move rfl rfl) rfl rfl ?_
    refine Lnil ?_
    refine thenN ?_
    refine ARound.head (fr' := [(0, .pointer a0), (1, Sl.v a1), (10, Sl.v a1), (11, .int .i64 (a1.len : Int)), (12, .int .i64 (IntKind.i64.wrap (x12_9 + 1)))]) ?_ (FrLe.cons rfl (FrLe.cons rfl (FrLe.cons rfl (FrLe.cons rfl (FrLe.cons rfl (FrLe.nil _))))))
    exact hY8 _ _ h
  rintro fr σ ⟨hl, h⟩
  refine AW.weaken ?_ hl (HLe.refl _)
  unfold j1_wal_Log_Append at h
  refine AW.seqJ (fun fr σ => FrLe [] fr ∧ j2_wal_Log_Append B ro Q σ) ?_ ?_
  · rintro fr σ ⟨hl, h⟩
    refine AW.weaken ?_ hl (HLe.refl _)
    unfold j2_wal_Log_Append at h
    refine AW.seq ?_
    refine AW.reg ?_
    refine Lp (V_asg rfl rfl) rfl rfl ?_
    refine Lnil ?_
    refine thenN ?_
    refine AW.ret ?_
    exact bR1 Tryz.results30 rfl ⟨_, rfl, h⟩
  refine AW.seq ?_
  refine AW.reg ?_
  refine Lp (V_move rfl rfl) rfl rfl ?_
  refine Lp (V_lenL rfl rfl Tryz.underlying44 rfl rfl) rfl rfl ?_
  refine Lp (V_move rfl rfl) rfl rfl ?_
  refine Lnil ?_
  refine thenN ?_
  refine AW.block ?_
  refine ARound.loop (fr' := [(0, .pointer a0), (20, Sl.v a1), (21, .int .i64 (a1.len : Int)), (22, .int .i64 0)]) ?_ (FrLe.cons rfl (FrLe.cons rfl (FrLe.cons rfl (FrLe.cons rfl (FrLe.nil _)))))
  refine h (fun x22_4 σ => ARound _ _ _ _ _ _ [(0, .pointer a0), (20, Sl.v a1), (21, .int .i64 (a1.len : Int)), (22, .int .i64 x22_4)] σ) ?_
  rintro x22_4 σ Y3 hY3 h
  show AW _ _ _ _ _ _ _ _
  unfold l3_wal_Log_Append at h
  refine AW.seq ?_
  refine AW.reg ?_
  refine Lp (V_lss rfl rfl rfl) rfl rfl ?_
  refine Lnil ?_
  refine thenN ?_
  refine AW.seq ?_
  refine AW.iff rfl decide_eq_true_iff h (fun h => ?_) (fun h => ?_)
  rotate_left
  · refine AW.exit ?_
    refine thenE ?_
    refine thenE ?_
    refine blockE ?_
    refine thenN ?_
    exact ⟨(FrLe.nil _), h⟩
  refine AW.skip ?_
  refine thenN ?_
  refine AW.seq ?_
  refine AW.block ?_
  refine AW.seq ?_
  refine AW.reg ?_
  obtain ⟨p24_5, ha, h0, h1, h⟩ := h
  refine Lp (V_ixA rfl Tryz.underlying44 ty22 (ixL rfl ha) rfl h0 h1) rfl rfl ?_
  obtain ⟨x25_6, hc, h⟩ := h
  refine Ls rfl rfl (X_ld rfl Tryz.underlying22 rfl rfl hc ?_)
  refine Lp (V_asg rfl rfl) rfl rfl ?_
  refine Lnil ?_
  refine thenN ?_
  refine AW.seq ?_
  refine AW.reg ?_
  refine Lp (V_move rfl rfl) rfl rfl ?_
  refine Lp (V_move rfl rfl) rfl rfl ?_
  refine Ls rfl rfl (X_call rfl Tryz.func72 rfl rfl rfl (ACalls.mono h ?_))
  rintro v σ ⟨x28_7, rfl, h⟩
  refine Lp (V_asg rfl rfl) rfl rfl ?_
  refine Lnil ?_
  refine thenN ?_
  refine AW.seq ?_
  refine AW.reg ?_
  refine Lp (V_move rfl rfl) rfl rfl ?_
  refine Lp (V_neq rfl rfl rfl) rfl rfl ?_
  refine Lnil ?_
  refine thenN ?_
  refine AW.iff rfl (bnot_iff decide_eq_true_iff) h (fun h => ?_) (fun h => ?_)
  · refine AW.seq ?_
    refine AW.reg ?_
    refine Lp (V_move rfl rfl) rfl rfl ?_
    refine Lp (V_asg rfl rfl) rfl rfl ?_
    refine Lnil ?_
    refine thenN ?_
    refine AW.ret ?_
    refine blockR ?_
    refine thenR ?_
    refine thenR ?_
    refine blockR ?_
    refine thenR ?_
    exact bR1 Tryz.results30 rfl ⟨_, rfl, h⟩
  refine AW.skip ?_
  refine blockN ?_
  refine thenN ?_
  refine AW.reg ?_
  refine Lp (V_add rfl rfl rfl) rfl rfl ?_
  refine Lp (V_move rfl rfl) rfl rfl ?_
  refine Lnil ?_
  refine thenN ?_
  refine ARound.head (fr' := [(0, .pointer a0), (20, Sl.v a1), (21, .int .i64 (a1.len : Int)), (22, .int .i64 (IntKind.i64.wrap (x22_4 + 1)))]) ?_ (FrLe.cons rfl (FrLe.cons rfl (FrLe.cons rfl (FrLe.cons rfl (FrLe.nil _)))))
  exact hY3 _ _ h

def f_wal_Log_Next (B : World) (ro : AH) (a0 : Option Addr) (σ : AH) (Q : Int → AH → Prop) : Prop :=
 ∃ p5_1 : Addr, a0 = some p5_1 ∧
 ∃ (x7_2 : Sl), acell ro σ (p5_1.add 3) = some (Sl.v x7_2) ∧
 if 0 < (x7_2.len : Int) then
  ∃ p12_3 : Addr, a0 = some p12_3 ∧
  ∃ (x14_4 : Sl), acell ro σ (p12_3.add 3) = some (Sl.v x14_4) ∧
  ∃ p17_5 : Addr, x14_4.a = some p17_5 ∧ (0 : Int) ≤ (IntKind.i64.wrap ((x7_2.len : Int) - 1)) ∧ (IntKind.i64.wrap ((x7_2.len : Int) - 1)) < (x14_4.len : Int) ∧
  ∃ (x18_6 : Option Addr), acell ro σ (p17_5.add (Int.toNat (IntKind.i64.wrap ((x7_2.len : Int) - 1)) * 1)) = some (.pointer x18_6) ∧
  c_wal_segment_next B ro x18_6 σ fun x19_7 σ =>
  Q x19_7 σ
 else
 Q 0 σ

set_option maxRecDepth 100000 in
set_option maxHeartbeats 4000000 in
theorem wal_Log_Next_ok {B : World} {ro : AH} {a0 : Option Addr} {σ : AH} {Q : Int → AH → Prop} (h : Sep ro σ → f_wal_Log_Next B ro a0 σ Q) : c_wal_Log_Next B ro a0 σ Q := by
  refine ACalls.of_sep fun hsep => ?_
  replace h := h hsep
  refine ACalls.of_body (args := [.pointer a0]) Tryz.func32 rfl (by rw [Tryz.ntmps32]; simp) ?_
  rw [Tryz.ntmps32]
  unfold f_wal_Log_Next at h
  refine AW.seq ?_
  refine AW.reg ?_
  refine Lp (V_asg rfl rfl) rfl rfl ?_
  refine Lnil ?_
  refine thenN ?_
  refine AW.seq ?_
  refine AW.seq ?_
  refine AW.reg ?_
  refine Lp (V_move rfl rfl) rfl rfl ?_
  obtain ⟨p5_1, hc, h⟩ := h
  refine Lp (V_nil rfl (by rw [← hc]; rfl)) rfl rfl ?_
  refine Lp (V_fld rfl Tryz.underlying131 rfl ty129 (by decide) rfl) rfl rfl ?_
  obtain ⟨x7_2, hc, h⟩ := h
  refine Ls rfl rfl (X_ld rfl Tryz.underlying129 rfl rfl hc ?_)
  refine Lp (V_lenL rfl rfl Tryz.underlying129 rfl rfl) rfl rfl ?_
  refine Lp (V_asg rfl rfl) rfl rfl ?_
  refine Lnil ?_
  refine thenN ?_
  refine AW.seq ?_
  refine AW.reg ?_
  refine Lp (V_move rfl rfl) rfl rfl ?_
  refine Lp (V_gtr rfl rfl rfl) rfl rfl ?_
  refine Lnil ?_
  refine thenN ?_
  refine AW.iff rfl decide_eq_true_iff h (fun h => ?_) (fun h => ?_)
  rotate_left
  · refine AW.skip ?_
    refine thenN ?_
    refine AW.seq ?_
    refine AW.reg ?_
    refine Lp (V_asg rfl rfl) rfl rfl ?_
    refine Lnil ?_
    refine thenN ?_
    refine AW.ret ?_
    exact bR1 Tryz.results32 rfl ⟨_, rfl, h⟩
  refine AW.seq ?_
  refine AW.reg ?_
  refine Lp (V_move rfl rfl) rfl rfl ?_
  obtain ⟨p12_3, hc, h⟩ := h
  refine Lp (V_nil rfl (by rw [← hc]; rfl)) rfl rfl ?_
  refine Lp (V_fld rfl Tryz.underlying131 rfl ty129 (by decide) rfl) rfl rfl ?_
  obtain ⟨x14_4, hc, h⟩ := h
  refine Ls rfl rfl (X_ld rfl Tryz.underlying129 rfl rfl hc ?_)
  refine Lp (V_move rfl rfl) rfl rfl ?_
  refine Lp (V_sub rfl rfl rfl) rfl rfl ?_
  obtain ⟨p17_5, ha, h0, h1, h⟩ := h
  refine Lp (V_ixA rfl Tryz.underlying129 ty136 (ixL rfl ha) rfl h0 h1) rfl rfl ?_
  obtain ⟨x18_6, hc, h⟩ := h
  refine Ls rfl rfl (X_ld rfl Tryz.underlying136 rfl rfl hc ?_)
  refine Ls rfl rfl (X_call rfl Tryz.func73 rfl rfl rfl (ACalls.mono h ?_))
  rintro v σ ⟨x19_7, rfl, h⟩
  refine Lp (V_asg rfl rfl) rfl rfl ?_
  refine Lnil ?_
  refine thenN ?_
  refine AW.ret ?_
  refine thenR ?_
  exact bR1 Tryz.results32 rfl ⟨_, rfl, h⟩

def j1_wal_Log_Sync (B : World) (ro : AH) (a0 : Option Addr) (Q : Int → AH → Prop) (σ : AH) : Prop :=
 c_wal_Log_Next B ro a0 σ fun x36_2 σ =>
 ∃ p37_3 : Addr, a0 = some p37_3 ∧
 stN (p37_3.add 4) (fun σ =>
  Q 0 σ) [.int .i64 x36_2] 0 σ

def f_wal_Log_Sync (B : World) (ro : AH) (a0 : Option Addr) (σ : AH) (Q : Int → AH → Prop) : Prop :=
 ∃ p5_4 : Addr, a0 = some p5_4 ∧
 ∃ (x7_5 : Sl), acell ro σ (p5_4.add 3) = some (Sl.v x7_5) ∧
 if 0 < (x7_5.len : Int) then
  lent σ fun ψ σ =>
   ∃ p12_6 : Addr, a0 = some p12_6 ∧
   ∃ (x15_7 : Option Addr), acell (join ro ψ) (fun _ => none) p12_6 = some (.pointer x15_7) ∧
   ∃ p17_8 : Addr, a0 = some p17_8 ∧
   ∃ p21_9 : Addr, a0 = some p21_9 ∧
   ∃ (x19_10a : Option Addr) (x19_10b : ByteArray), cellsAt (join ro ψ) σ p17_8 0 [.pointer x19_10a, .string x19_10b] ∧
   ∃ (x23_11 : Sl), acell (join ro ψ) σ (p21_9.add 3) = some (Sl.v x23_11) ∧
   ∃ p26_12 : Addr, x23_11.a = some p26_12 ∧ (0 : Int) ≤ (IntKind.i64.wrap ((x7_5.len : Int) - 1)) ∧ (IntKind.i64.wrap ((x7_5.len : Int) - 1)) < (x23_11.len : Int) ∧
   ∃ (x27_13 : Option Addr), acell (join ro ψ) σ (p26_12.add (Int.toNat (IntKind.i64.wrap ((x7_5.len : Int) - 1)) * 1)) = some (.pointer x27_13) ∧
   ∃ p28_14 : Addr, x27_13 = some p28_14 ∧
   ∃ (x30_15 : Int), acell (join ro ψ) σ p28_14 = some (.int .i64 x30_15) ∧
   c_wal_place_file B (join ro ψ) x19_10a x19_10b x30_15 σ fun x31_16 σ =>
   nw (join ro ψ) σ (.cells #[.string x31_16] 9) fun x32_17 σ =>
   c_disk_Disk_Sync B (join ro ψ) x15_7 (⟨some ⟨x32_17, 0, none⟩, 1, 1⟩ : Sl) σ fun x33_18 σ =>
   (Disj ψ σ → (fun σ => 
    j1_wal_Log_Sync B ro a0 Q σ) (join ψ σ))
 else
 j1_wal_Log_Sync B ro a0 Q σ

set_option maxRecDepth 100000 in
set_option maxHeartbeats 4000000 in
theorem wal_Log_Sync_ok {B : World} {ro : AH} {a0 : Option Addr} {σ : AH} {Q : Int → AH → Prop} (h : Sep ro σ → f_wal_Log_Sync B ro a0 σ Q) : c_wal_Log_Sync B ro a0 σ Q := by
  refine ACalls.of_sep fun hsep => ?_
  replace h := h hsep
  refine ACalls.of_body (args := [.pointer a0]) Tryz.func33 rfl (by rw [Tryz.ntmps33]; simp) ?_
  rw [Tryz.ntmps33]
  unfold f_wal_Log_Sync at h
  refine AW.seq ?_
  refine AW.reg ?_
  refine Lp (V_asg rfl rfl) rfl rfl ?_
  refine Lnil ?_
  refine thenN ?_
  refine AW.seqJ (fun fr σ => FrLe [(0, .pointer a0)] fr ∧ j1_wal_Log_Sync B ro a0 Q σ) ?_ ?_
  · rintro fr σ ⟨hl, h⟩
    refine AW.weaken ?_ hl (HLe.refl _)
    unfold j1_wal_Log_Sync at h
    refine AW.seq ?_
    refine AW.reg ?_
    refine Lp (V_move rfl rfl) rfl rfl ?_
    refine Lp (V_move rfl rfl) rfl rfl ?_
    refine Ls rfl rfl (X_call rfl Tryz.func32 rfl rfl rfl (ACalls.mono h ?_))
    rintro v σ ⟨x36_2, rfl, h⟩
    obtain ⟨p37_3, hc, h⟩ := h
    refine Lp (V_nil rfl (by rw [← hc]; rfl)) rfl rfl ?_
    refine Lp (V_fld rfl Tryz.underlying131 rfl ty3 (by decide) rfl) rfl rfl ?_
    refine Ls rfl rfl (X_st rfl ty3 rfl rfl rfl rfl (stN_mono h fun σ h => ?_))
    refine Lnil ?_
    refine thenN ?_
    refine AW.seq ?_
    refine AW.reg ?_
    refine Lp (V_asg rfl rfl) rfl rfl ?_
    refine Lnil ?_
    refine thenN ?_
    refine AW.ret ?_
    exact bR1 Tryz.results33 rfl ⟨_, rfl, h⟩
  refine AW.seq ?_
  refine AW.reg ?_
  refine Lp (V_move rfl rfl) rfl rfl ?_
  obtain ⟨p5_4, hc, h⟩ := h
  refine Lp (V_nil rfl (by rw [← hc]; rfl)) rfl rfl ?_
  refine Lp (V_fld rfl Tryz.underlying131 rfl ty129 (by decide) rfl) rfl rfl ?_
  obtain ⟨x7_5, hc, h⟩ := h
  refine Ls rfl rfl (X_ld rfl Tryz.underlying129 rfl rfl hc ?_)
  refine Lp (V_lenL rfl rfl Tryz.underlying129 rfl rfl) rfl rfl ?_
  refine Lp (V_asg rfl rfl) rfl rfl ?_
  refine Lnil ?_
  refine thenN ?_
  refine AW.seq ?_
  refine AW.reg ?_
  refine Lp (V_move rfl rfl) rfl rfl ?_
  refine Lp (V_gtr rfl rfl rfl) rfl rfl ?_
  refine Lnil ?_
  refine thenN ?_
  refine AW.iff rfl decide_eq_true_iff h (fun h => ?_) (fun h => ?_)
  rotate_left
  · refine AW.skip ?_
    refine thenN ?_
    exact ⟨(FrLe.cons rfl (FrLe.nil _)), h⟩
  refine AW.drawnL (fun i => ([0, 0, 0, 0, 0, 0, 0, 0, 3, 0, 0, 0, 3, 0, 0, 0, 3, 0, 0, 3, 2, 1, 2] : List Nat).getD i 2) [(8, 20), (8, 21), (8, 22), (12, 15), (12, 16), (12, 17), (12, 18), (12, 19), (12, 20), (12, 21), (12, 22), (16, 17), (16, 18), (16, 19), (16, 20), (16, 21), (16, 22), (19, 20), (19, 21), (19, 22)] [0, 1, 2, 3, 4, 5, 6, 7, 9, 10, 11, 13, 14, 8, 12, 15, 16, 17, 18, 19, 20, 21, 22] Tryz.mixed h (by decide +kernel) ?_
  clear h
  intro ψ σ h
  refine Dp rfl rfl rfl rfl (V_move rfl rfl) ?_
  obtain ⟨p12_6, hc, h⟩ := h
  refine Dp rfl rfl rfl rfl (V_nil rfl (by rw [← hc]; rfl)) ?_
  refine Dp rfl rfl rfl rfl (V_fld rfl Tryz.underlying131 rfl ty128 (by decide) rfl) ?_
  refine Dp rfl rfl rfl rfl (V_fld rfl Tryz.underlying128 rfl ty26 (by decide) rfl) ?_
  obtain ⟨x15_7, hc, h⟩ := h
  refine Dp rfl rfl rfl rfl (V_ld rfl Tryz.underlying26 rfl rfl hc) ?_
  refine Dp rfl rfl rfl rfl (V_move rfl rfl) ?_
  obtain ⟨p17_8, hc, h⟩ := h
  refine Dp rfl rfl rfl rfl (V_nil rfl (by rw [← hc]; rfl)) ?_
  refine Dp rfl rfl rfl rfl (V_fld rfl Tryz.underlying131 rfl ty128 (by decide) rfl) ?_
  refine Dp rfl rfl rfl rfl (V_move rfl rfl) ?_
  obtain ⟨p21_9, hc, h⟩ := h
  refine Dp rfl rfl rfl rfl (V_nil rfl (by rw [← hc]; rfl)) ?_
  refine Dp rfl rfl rfl rfl (V_fld rfl Tryz.underlying131 rfl ty129 (by decide) rfl) ?_
  refine Dp rfl rfl rfl rfl (V_move rfl rfl) ?_
  refine Dp rfl rfl rfl rfl (V_sub rfl rfl rfl) ?_
  obtain ⟨x19_10a, x19_10b, hc, h⟩ := h
  refine Dr rfl rfl rfl rfl (R_lda rfl Tryz.underlying128 rfl ty128 rfl hc) ?_
  obtain ⟨x23_11, hc, h⟩ := h
  refine Dr rfl rfl rfl rfl (R_ld rfl Tryz.underlying129 rfl rfl hc) ?_
  obtain ⟨p26_12, ha, h0, h1, h⟩ := h
  refine Dp rfl rfl rfl rfl (V_ixA rfl Tryz.underlying129 ty136 (ixL rfl ha) rfl h0 h1) ?_
  obtain ⟨x27_13, hc, h⟩ := h
  refine Dr rfl rfl rfl rfl (R_ld rfl Tryz.underlying136 rfl rfl hc) ?_
  obtain ⟨p28_14, hc, h⟩ := h
  refine Dp rfl rfl rfl rfl (V_nil rfl (by rw [← hc]; rfl)) ?_
  refine Dp rfl rfl rfl rfl (V_fld rfl Tryz.underlying138 rfl ty3 (by decide) rfl) ?_
  obtain ⟨x30_15, hc, h⟩ := h
  refine Dr rfl rfl rfl rfl (R_ld rfl Tryz.underlying3 rfl rfl hc) ?_
  refine Dg rfl rfl rfl rfl (X_call rfl Tryz.func70 rfl rfl rfl (ACalls.mono h ?_))
  rintro v σ ⟨x31_16, rfl, h⟩
  refine Da rfl rfl rfl rfl (A_bsl (vs := [(0, .string x31_16)]) (cs := #[.string x31_16]) rfl Tryz.underlying83 ty9 (by decide) rfl rfl) fun x32_17 g1 g2 => ?_
  replace h := h x32_17 g1 g2
  refine Dg rfl rfl rfl rfl (X_call rfl Tryz.func44 rfl rfl rfl (ACalls.mono h ?_))
  rintro v σ ⟨x33_18, rfl, h⟩
  refine ⟨_, FrEq.refl _, fun hdj => ?_⟩
  replace h := h hdj
  refine thenN ?_
  exact ⟨(FrLe.cons rfl (FrLe.nil _)), h⟩

def j1_wal_Log_Get (B : World) (ro : AH) (Q : Sl → Int → AH → Prop) (σ : AH) : Prop :=
 Q (⟨none, 0, 0⟩ : Sl) 41 σ

def j10_wal_Log_Get (B : World) (ro : AH) (a1 : Int) (x11_3 : Sl) (x13_5 : Int) (x16_7 : Option Addr) (Q : Sl → Int → AH → Prop) (Y4 : (Int) → AH → Prop) (x28_11 : Bool) (σ : AH) : Prop :=
 if x28_11 = true then
  ∃ p30_12 : Addr, x16_7 = some p30_12 ∧
  ∃ p35_13 : Addr, x16_7 = some p35_13 ∧
  ∃ (x32_14 : Sl), acell ro σ (p30_12.add 2) = some (Sl.v x32_14) ∧
  ∃ (x37_15 : Int), acell ro σ (p35_13.add 1) = some (.int .i64 x37_15) ∧
  ∃ p39_16 : Addr, x32_14.a = some p39_16 ∧ (0 : Int) ≤ (IntKind.i64.wrap (a1 - x37_15)) ∧ (IntKind.i64.wrap (a1 - x37_15)) < (x32_14.len : Int) ∧
  ∃ (x40_17 : Sl), acell ro σ (p39_16.add (Int.toNat (IntKind.i64.wrap (a1 - x37_15)) * 1)) = some (Sl.v x40_17) ∧
  c_bytes_Clone B ro x40_17 σ fun x41_18 σ =>
  Q x41_18 0 σ
 else
 Y4 (IntKind.i64.wrap (x13_5 + 1)) σ

def l4_wal_Log_Get (B : World) (ro : AH) (a1 : Int) (x11_3 : Sl) (Q : Sl → Int → AH → Prop) : (Int) → AH → ((Int) → AH → Prop) → Prop := fun x13_5 σ Y4 =>
 if x13_5 < (x11_3.len : Int) then
  ∃ p15_6 : Addr, x11_3.a = some p15_6 ∧ (0 : Int) ≤ x13_5 ∧ x13_5 < (x11_3.len : Int) ∧
  ∃ (x16_7 : Option Addr), acell ro σ (p15_6.add (Int.toNat x13_5 * 1)) = some (.pointer x16_7) ∧
  ∃ p19_8 : Addr, x16_7 = some p19_8 ∧
  ∃ (x21_9 : Int), acell ro σ (p19_8.add 1) = some (.int .i64 x21_9) ∧
  if x21_9 ≤ a1 then
   c_wal_segment_next B ro x16_7 σ fun x26_19 σ =>
   j10_wal_Log_Get B ro a1 x11_3 x13_5 x16_7 Q Y4 (decide (a1 < x26_19)) σ
  else
  j10_wal_Log_Get B ro a1 x11_3 x13_5 x16_7 Q Y4 false σ
 else
 j1_wal_Log_Get B ro Q σ

def f_wal_Log_Get (B : World) (ro : AH) (a0 : Option Addr) (a1 : Int) (σ : AH) (Q : Sl → Int → AH → Prop) : Prop :=
 ∃ p9_2 : Addr, a0 = some p9_2 ∧
 ∃ (x11_3 : Sl), acell ro σ (p9_2.add 3) = some (Sl.v x11_3) ∧
 lfpD (l4_wal_Log_Get B ro a1 x11_3 Q ) (0) σ

set_option maxRecDepth 100000 in
set_option maxHeartbeats 4000000 in
theorem wal_Log_Get_ok {B : World} {ro : AH} {a0 : Option Addr} {a1 : Int} {σ : AH} {Q : Sl → Int → AH → Prop} (h : Sep ro σ → f_wal_Log_Get B ro a0 a1 σ Q) : c_wal_Log_Get B ro a0 a1 σ Q := by
  refine ACalls.of_sep fun hsep => ?_
  replace h := h hsep
  refine ACalls.of_body (args := [.pointer a0, .int .i64 a1]) Tryz.func34 rfl (by rw [Tryz.ntmps34]; simp) ?_
  rw [Tryz.ntmps34]
  unfold f_wal_Log_Get at h
  refine AW.seq ?_
  refine AW.reg ?_
  refine Lp (V_asg rfl rfl) rfl rfl ?_
  refine Lp (V_asg rfl rfl) rfl rfl ?_
  refine Lnil ?_
  refine thenN ?_
  refine AW.seqJ (fun fr σ => FrLe [] fr ∧ j1_wal_Log_Get B ro Q σ) ?_ ?_
  · rintro fr σ ⟨hl, h⟩
    refine AW.weaken ?_ hl (HLe.refl _)
    unfold j1_wal_Log_Get at h
    refine AW.seq ?_
    refine AW.reg ?_
    refine Lp (V_asg rfl rfl) rfl rfl ?_
    refine Lp (V_asg rfl rfl) rfl rfl ?_
    refine Lnil ?_
    refine thenN ?_
    refine AW.ret ?_
    exact bR2 Tryz.results34 rfl rfl ⟨_, _, rfl, h⟩
  refine AW.seq ?_
  refine AW.reg ?_
  refine Lp (V_move rfl rfl) rfl rfl ?_
  obtain ⟨p9_2, hc, h⟩ := h
  refine Lp (V_nil rfl (by rw [← hc]; rfl)) rfl rfl ?_
  refine Lp (V_fld rfl Tryz.underlying131 rfl ty129 (by decide) rfl) rfl rfl ?_
  obtain ⟨x11_3, hc, h⟩ := h
  refine Ls rfl rfl (X_ld rfl Tryz.underlying129 rfl rfl hc ?_)
  refine Lp (V_lenL rfl rfl Tryz.underlying129 rfl rfl) rfl rfl ?_
  refine Lp (V_move rfl rfl) rfl rfl ?_
  refine Lnil ?_
  refine thenN ?_
  refine AW.block ?_
  refine ARound.loop (fr' := [(1, .int .i64 a1), (11, Sl.v x11_3), (12, .int .i64 (x11_3.len : Int)), (13, .int .i64 0)]) ?_ (FrLe.cons rfl (FrLe.cons rfl (FrLe.cons rfl (FrLe.cons rfl (FrLe.nil _)))))
  refine h (fun x13_5 σ => ARound _ _ _ _ _ _ [(1, .int .i64 a1), (11, Sl.v x11_3), (12, .int .i64 (x11_3.len : Int)), (13, .int .i64 x13_5)] σ) ?_
  rintro x13_5 σ Y4 hY4 h
  show AW _ _ _ _ _ _ _ _
  unfold l4_wal_Log_Get at h
  refine AW.seq ?_
  refine AW.reg ?_
  refine Lp (V_lss rfl rfl rfl) rfl rfl ?_
  refine Lnil ?_
  refine thenN ?_
  refine AW.seq ?_
  refine AW.iff rfl decide_eq_true_iff h (fun h => ?_) (fun h => ?_)
  rotate_left
  · refine AW.exit ?_
    refine thenE ?_
    refine thenE ?_
    refine blockE ?_
    refine thenN ?_
    exact ⟨(FrLe.nil _), h⟩
  refine AW.skip ?_
  refine thenN ?_
  refine AW.seq ?_
  refine AW.block ?_
  refine AW.seq ?_
  refine AW.reg ?_
  obtain ⟨p15_6, ha, h0, h1, h⟩ := h
  refine Lp (V_ixA rfl Tryz.underlying129 ty136 (ixL rfl ha) rfl h0 h1) rfl rfl ?_
  obtain ⟨x16_7, hc, h⟩ := h
  refine Ls rfl rfl (X_ld rfl Tryz.underlying136 rfl rfl hc ?_)
  refine Lp (V_asg rfl rfl) rfl rfl ?_
  refine Lnil ?_
  refine thenN ?_
  refine AW.seq ?_
  refine AW.reg ?_
  refine Lp (V_move rfl rfl) rfl rfl ?_
  refine Lp (V_move rfl rfl) rfl rfl ?_
  obtain ⟨p19_8, hc, h⟩ := h
  refine Lp (V_nil rfl (by rw [← hc]; rfl)) rfl rfl ?_
  refine Lp (V_fld rfl Tryz.underlying138 rfl ty3 (by decide) rfl) rfl rfl ?_
  obtain ⟨x21_9, hc, h⟩ := h
  refine Ls rfl rfl (X_ld rfl Tryz.underlying3 rfl rfl hc ?_)
  refine Lp (V_geq rfl rfl rfl) rfl rfl ?_
  refine Lp (V_move rfl rfl) rfl rfl ?_
  refine LsplitJ 5 (decide (x21_9 ≤ a1)) decide_eq_true_iff h (fun fr σ => ∃ (x28_11 : Bool), FrLe [(1, .int .i64 a1), (7, .pointer x16_7), (11, Sl.v x11_3), (12, .int .i64 (x11_3.len : Int)), (13, .int .i64 x13_5), (28, .bool x28_11)] fr ∧ j10_wal_Log_Get B ro a1 x11_3 x13_5 x16_7 Q Y4 x28_11 σ) ?_ ?_ ?_
  · intro h e6 hk6
    refine Lypb (V_move rfl rfl) rfl rfl rfl rfl e6 ?_
    refine Lypb (V_move rfl rfl) rfl rfl rfl rfl e6 ?_
    refine Lyb rfl rfl rfl rfl e6 (X_call rfl Tryz.func73 rfl rfl rfl (ACalls.mono h ?_))
    rintro v σ ⟨x26_19, rfl, h⟩
    refine Lypb (V_lss rfl rfl rfl) rfl rfl rfl rfl e6 ?_
    refine Lp (V_pickT rfl (evb e6) rfl) rfl rfl ?_
    exact hk6 _ _ ⟨_, (FrLe.cons rfl (FrLe.cons rfl (FrLe.cons rfl (FrLe.cons rfl (FrLe.cons rfl (FrLe.cons rfl (FrLe.nil _))))))), h⟩
  · intro h e6 hk6
    refine Ln rfl rfl rfl rfl (.inl (by rw [e6]; rfl)) ?_
    refine Ln rfl rfl rfl rfl (.inl (by rw [e6]; rfl)) ?_
    refine Ln rfl rfl rfl rfl (.inl (by rw [e6]; rfl)) ?_
    refine Ln rfl rfl rfl rfl (.inl (by rw [e6]; rfl)) ?_
    refine Lp (V_pickF rfl (evb e6) rfl) rfl rfl ?_
    exact hk6 _ _ ⟨_, (FrLe.cons rfl (FrLe.cons rfl (FrLe.cons rfl (FrLe.cons rfl (FrLe.cons rfl (FrLe.cons rfl (FrLe.nil _))))))), h⟩
  rintro fr σ ⟨x28_11, hl, h⟩
  unfold j10_wal_Log_Get at h
  refine Lfr hl ?_
  refine Lnil ?_
  refine thenN ?_
  refine AW.iff rfl Iff.rfl h (fun h => ?_) (fun h => ?_)
  rotate_left
  · refine AW.skip ?_
    refine blockN ?_
    refine thenN ?_
    refine AW.reg ?_
    refine Lp (V_add rfl rfl rfl) rfl rfl ?_
    refine Lp (V_move rfl rfl) rfl rfl ?_
    refine Lnil ?_
    refine thenN ?_
    refine ARound.head (fr' := [(1, .int .i64 a1), (11, Sl.v x11_3), (12, .int .i64 (x11_3.len : Int)), (13, .int .i64 (IntKind.i64.wrap (x13_5 + 1)))]) ?_ (FrLe.cons rfl (FrLe.cons rfl (FrLe.cons rfl (FrLe.cons rfl (FrLe.nil _)))))
    exact hY4 _ _ h
  refine AW.seq ?_
  refine AW.drawn0 (fun i => ([0, 0, 0, 3, 0, 0, 0, 0, 3, 0, 0, 3, 2, 0, 0] : List Nat).getD i 2) [(3, 10), (3, 11), (3, 12), (8, 9), (8, 10), (8, 11), (8, 12)] [0, 1, 2, 4, 5, 6, 7, 3, 8, 9, 10, 11, 12, 13, 14] Tryz.mixed (by decide +kernel) ?_
  refine Dp rfl rfl rfl rfl (V_move rfl rfl) ?_
  obtain ⟨p30_12, hc, h⟩ := h
  refine Dp rfl rfl rfl rfl (V_nil rfl (by rw [← hc]; rfl)) ?_
  refine Dp rfl rfl rfl rfl (V_fld rfl Tryz.underlying138 rfl ty44 (by decide) rfl) ?_
  refine Dp rfl rfl rfl rfl (V_move rfl rfl) ?_
  refine Dp rfl rfl rfl rfl (V_move rfl rfl) ?_
  obtain ⟨p35_13, hc, h⟩ := h
  refine Dp rfl rfl rfl rfl (V_nil rfl (by rw [← hc]; rfl)) ?_
  refine Dp rfl rfl rfl rfl (V_fld rfl Tryz.underlying138 rfl ty3 (by decide) rfl) ?_
  obtain ⟨x32_14, hc, h⟩ := h
  refine Dr rfl rfl rfl rfl (R_ld rfl Tryz.underlying44 rfl rfl hc) ?_
  obtain ⟨x37_15, hc, h⟩ := h
  refine Dr rfl rfl rfl rfl (R_ld rfl Tryz.underlying3 rfl rfl hc) ?_
  refine Dp rfl rfl rfl rfl (V_sub rfl rfl rfl) ?_
  obtain ⟨p39_16, ha, h0, h1, h⟩ := h
  refine Dp rfl rfl rfl rfl (V_ixA rfl Tryz.underlying44 ty22 (ixL rfl ha) rfl h0 h1) ?_
  obtain ⟨x40_17, hc, h⟩ := h
  refine Dr rfl rfl rfl rfl (R_ld rfl Tryz.underlying22 rfl rfl hc) ?_
  refine Dg rfl rfl rfl rfl (X_call rfl Tryz.func74 rfl rfl rfl (ACalls.mono h ?_))
  rintro v σ ⟨x41_18, rfl, h⟩
  refine Dp rfl rfl rfl rfl (V_asg rfl rfl) ?_
  refine Dp rfl rfl rfl rfl (V_asg rfl rfl) ?_
  refine Dend ?_
  refine thenN ?_
  refine AW.ret ?_
  refine blockR ?_
  refine thenR ?_
  refine thenR ?_
  refine blockR ?_
  refine thenR ?_
  exact bR2 Tryz.results34 rfl rfl ⟨_, _, rfl, h⟩

def f_wal_Log_Safe (B : World) (ro : AH) (a0 : Option Addr) (σ : AH) (Q : Int → AH → Prop) : Prop :=
 ∃ p4_1 : Addr, a0 = some p4_1 ∧
 ∃ (x6_2 : Int), acell ro σ (p4_1.add 4) = some (.int .i64 x6_2) ∧
 Q x6_2 σ

set_option maxRecDepth 100000 in
set_option maxHeartbeats 4000000 in
theorem wal_Log_Safe_ok {B : World} {ro : AH} {a0 : Option Addr} {σ : AH} {Q : Int → AH → Prop} (h : Sep ro σ → f_wal_Log_Safe B ro a0 σ Q) : c_wal_Log_Safe B ro a0 σ Q := by
  refine ACalls.of_sep fun hsep => ?_
  replace h := h hsep
  refine ACalls.of_body (args := [.pointer a0]) Tryz.func35 rfl (by rw [Tryz.ntmps35]; simp) ?_
  rw [Tryz.ntmps35]
  unfold f_wal_Log_Safe at h
  refine AW.seq ?_
  refine AW.reg ?_
  refine Lp (V_asg rfl rfl) rfl rfl ?_
  refine Lnil ?_
  refine thenN ?_
  refine AW.seq ?_
  refine AW.reg ?_
  refine Lp (V_move rfl rfl) rfl rfl ?_
  obtain ⟨p4_1, hc, h⟩ := h
  refine Lp (V_nil rfl (by rw [← hc]; rfl)) rfl rfl ?_
  refine Lp (V_fld rfl Tryz.underlying131 rfl ty3 (by decide) rfl) rfl rfl ?_
  obtain ⟨x6_2, hc, h⟩ := h
  refine Ls rfl rfl (X_ld rfl Tryz.underlying3 rfl rfl hc ?_)
  refine Lp (V_asg rfl rfl) rfl rfl ?_
  refine Lnil ?_
  refine thenN ?_
  refine AW.ret ?_
  exact bR1 Tryz.results35 rfl ⟨_, rfl, h⟩

def f_wal_Log_First (B : World) (ro : AH) (a0 : Option Addr) (σ : AH) (Q : Int → AH → Prop) : Prop :=
 ∃ p4_1 : Addr, a0 = some p4_1 ∧
 ∃ (x6_2 : Sl), acell ro σ (p4_1.add 3) = some (Sl.v x6_2) ∧
 if (x6_2.len : Int) = 0 then
  Q 0 σ
 else
 ∃ p10_3 : Addr, a0 = some p10_3 ∧
 ∃ (x12_4 : Sl), acell ro σ (p10_3.add 3) = some (Sl.v x12_4) ∧
 ∃ p13_5 : Addr, x12_4.a = some p13_5 ∧ (0 : Int) ≤ 0 ∧ 0 < (x12_4.len : Int) ∧
 ∃ (x14_6 : Option Addr), acell ro σ (p13_5.add (Int.toNat 0 * 1)) = some (.pointer x14_6) ∧
 ∃ p15_7 : Addr, x14_6 = some p15_7 ∧
 ∃ (x17_8 : Int), acell ro σ (p15_7.add 1) = some (.int .i64 x17_8) ∧
 Q x17_8 σ

set_option maxRecDepth 100000 in
set_option maxHeartbeats 4000000 in
theorem wal_Log_First_ok {B : World} {ro : AH} {a0 : Option Addr} {σ : AH} {Q : Int → AH → Prop} (h : Sep ro σ → f_wal_Log_First B ro a0 σ Q) : c_wal_Log_First B ro a0 σ Q := by
  refine ACalls.of_sep fun hsep => ?_
  replace h := h hsep
  refine ACalls.of_body (args := [.pointer a0]) Tryz.func36 rfl (by rw [Tryz.ntmps36]; simp) ?_
  rw [Tryz.ntmps36]
  unfold f_wal_Log_First at h
  refine AW.seq ?_
  refine AW.reg ?_
  refine Lp (V_asg rfl rfl) rfl rfl ?_
  refine Lnil ?_
  refine thenN ?_
  refine AW.seq ?_
  refine AW.seq ?_
  refine AW.reg ?_
  refine Lp (V_move rfl rfl) rfl rfl ?_
  obtain ⟨p4_1, hc, h⟩ := h
  refine Lp (V_nil rfl (by rw [← hc]; rfl)) rfl rfl ?_
  refine Lp (V_fld rfl Tryz.underlying131 rfl ty129 (by decide) rfl) rfl rfl ?_
  obtain ⟨x6_2, hc, h⟩ := h
  refine Ls rfl rfl (X_ld rfl Tryz.underlying129 rfl rfl hc ?_)
  refine Lp (V_lenL rfl rfl Tryz.underlying129 rfl rfl) rfl rfl ?_
  refine Lp (V_eql rfl rfl rfl) rfl rfl ?_
  refine Lnil ?_
  refine thenN ?_
  refine AW.iff rfl decide_eq_true_iff h (fun h => ?_) (fun h => ?_)
  · refine AW.seq ?_
    refine AW.reg ?_
    refine Lp (V_asg rfl rfl) rfl rfl ?_
    refine Lnil ?_
    refine thenN ?_
    refine AW.ret ?_
    refine thenR ?_
    exact bR1 Tryz.results36 rfl ⟨_, rfl, h⟩
  refine AW.skip ?_
  refine thenN ?_
  refine AW.seq ?_
  refine AW.reg ?_
  refine Lp (V_move rfl rfl) rfl rfl ?_
  obtain ⟨p10_3, hc, h⟩ := h
  refine Lp (V_nil rfl (by rw [← hc]; rfl)) rfl rfl ?_
  refine Lp (V_fld rfl Tryz.underlying131 rfl ty129 (by decide) rfl) rfl rfl ?_
  obtain ⟨x12_4, hc, h⟩ := h
  refine Ls rfl rfl (X_ld rfl Tryz.underlying129 rfl rfl hc ?_)
  obtain ⟨p13_5, ha, h0, h1, h⟩ := h
  refine Lp (V_ixA rfl Tryz.underlying129 ty136 (ixL rfl ha) rfl h0 h1) rfl rfl ?_
  obtain ⟨x14_6, hc, h⟩ := h
  refine Ls rfl rfl (X_ld rfl Tryz.underlying136 rfl rfl hc ?_)
  obtain ⟨p15_7, hc, h⟩ := h
  refine Lp (V_nil rfl (by rw [← hc]; rfl)) rfl rfl ?_
  refine Lp (V_fld rfl Tryz.underlying138 rfl ty3 (by decide) rfl) rfl rfl ?_
  obtain ⟨x17_8, hc, h⟩ := h
  refine Ls rfl rfl (X_ld rfl Tryz.underlying3 rfl rfl hc ?_)
  refine Lp (V_asg rfl rfl) rfl rfl ?_
  refine Lnil ?_
  refine thenN ?_
  refine AW.ret ?_
  exact bR1 Tryz.results36 rfl ⟨_, rfl, h⟩

def j1_wal_rightName (B : World) (ro : AH) (a0 : ByteArray) (Q : Bool → AH → Prop) (x13_2 : Bool) (σ : AH) : Prop :=
 if x13_2 = true then
  Q false σ
 else
 c_strings_Trim B ro a0 (⟨#[97, 98, 99, 100, 101, 102, 103, 104, 105, 106, 107, 108, 109, 110, 111, 112, 113, 114, 115, 116, 117, 118, 119, 120, 121, 122, 48, 49, 50, 51, 52, 53, 54, 55, 56, 57, 45]⟩ : ByteArray) σ fun x15_3 σ =>
 Q (decide (x15_3 = (⟨#[]⟩ : ByteArray))) σ

def f_wal_rightName (B : World) (ro : AH) (a0 : ByteArray) (σ : AH) (Q : Bool → AH → Prop) : Prop :=
 if (a0 = (⟨#[]⟩ : ByteArray)) ∨ (12 < (a0.size : Int)) then
  j1_wal_rightName B ro a0 Q true σ
 else
 c_strings_Contains B ro a0 (⟨#[46]⟩ : ByteArray) σ fun x12_4 σ =>
 j1_wal_rightName B ro a0 Q x12_4 σ

set_option maxRecDepth 100000 in
set_option maxHeartbeats 4000000 in
theorem wal_rightName_ok {B : World} {ro : AH} {a0 : ByteArray} {σ : AH} {Q : Bool → AH → Prop} (h : Sep ro σ → f_wal_rightName B ro a0 σ Q) : c_wal_rightName B ro a0 σ Q := by
  refine ACalls.of_sep fun hsep => ?_
  replace h := h hsep
  refine ACalls.of_body (args := [.string a0]) Tryz.func66 rfl (by rw [Tryz.ntmps66]; simp) ?_
  rw [Tryz.ntmps66]
  unfold f_wal_rightName at h
  refine AW.seq ?_
  refine AW.reg ?_
  refine Lp (V_asg rfl rfl) rfl rfl ?_
  refine Lnil ?_
  refine thenN ?_
  refine AW.seq ?_
  refine AW.seq ?_
  refine AW.reg ?_
  refine Lp (V_move rfl rfl) rfl rfl ?_
  refine Lp (V_eqlS rfl rfl rfl) rfl rfl ?_
  refine Lp (V_move rfl rfl) rfl rfl ?_
  refine Lsplit 4 (decide (a0 = (⟨#[]⟩ : ByteArray))) [(0, .string a0), (9, .bool ((decide (a0 = (⟨#[]⟩ : ByteArray))) || (decide (12 < (a0.size : Int)))))] ?_ ?_ ?_
  · intro e2 hk2
    refine Ln rfl rfl rfl rfl (.inl (by rw [e2]; rfl)) ?_
    refine Ln rfl rfl rfl rfl (.inl (by rw [e2]; rfl)) ?_
    refine Ln rfl rfl rfl rfl (.inl (by rw [e2]; rfl)) ?_
    refine Lp (V_pickT rfl (evb e2) rfl) rfl rfl ?_
    exact hk2 _ (FrLe.cons rfl (FrLe.cons (by rw [e2]; rfl) (FrLe.nil _)))
  · intro e2 hk2
    refine Lypb (V_move rfl rfl) rfl rfl rfl rfl e2 ?_
    refine Lypb (V_lenS rfl rfl Tryz.underlying9 rfl rfl) rfl rfl rfl rfl e2 ?_
    refine Lypb (V_gtr rfl rfl rfl) rfl rfl rfl rfl e2 ?_
    refine Lp (V_pickF rfl (evb e2) rfl) rfl rfl ?_
    exact hk2 _ (FrLe.cons rfl (FrLe.cons (by rw [e2]; rfl) (FrLe.nil _)))
  intro fr hl
  refine Lfr hl ?_
  refine Lp (V_move rfl rfl) rfl rfl ?_
  refine LsplitJ 3 ((decide (a0 = (⟨#[]⟩ : ByteArray))) || (decide (12 < (a0.size : Int)))) (bor_iff decide_eq_true_iff decide_eq_true_iff) h (fun fr σ => ∃ (x13_2 : Bool), FrLe [(0, .string a0), (13, .bool x13_2)] fr ∧ j1_wal_rightName B ro a0 Q x13_2 σ) ?_ ?_ ?_
  · intro h e7 hk7
    refine Ln rfl rfl rfl rfl (.inl (by rw [e7]; rfl)) ?_
    refine Ln rfl rfl rfl rfl (.inl (by rw [e7]; rfl)) ?_
    refine Lp (V_pickT rfl (evb e7) rfl) rfl rfl ?_
    exact hk7 _ _ ⟨_, (FrLe.cons rfl (FrLe.cons rfl (FrLe.nil _))), h⟩
  · intro h e7 hk7
    refine Lypb (V_move rfl rfl) rfl rfl rfl rfl e7 ?_
    refine Lyb rfl rfl rfl rfl e7 (X_call rfl Tryz.func96 rfl rfl rfl (ACalls.mono h ?_))
    rintro v σ ⟨x12_4, rfl, h⟩
    refine Lp (V_pickF rfl (evb e7) rfl) rfl rfl ?_
    exact hk7 _ _ ⟨_, (FrLe.cons rfl (FrLe.cons rfl (FrLe.nil _))), h⟩
  rintro fr σ ⟨x13_2, hl, h⟩
  unfold j1_wal_rightName at h
  refine Lfr hl ?_
  refine Lnil ?_
  refine thenN ?_
  refine AW.iff rfl Iff.rfl h (fun h => ?_) (fun h => ?_)
  · refine AW.seq ?_
    refine AW.reg ?_
    refine Lp (V_asg rfl rfl) rfl rfl ?_
    refine Lnil ?_
    refine thenN ?_
    refine AW.ret ?_
    refine thenR ?_
    exact bR1 Tryz.results66 rfl ⟨_, rfl, h⟩
  refine AW.skip ?_
  refine thenN ?_
  refine AW.seq ?_
  refine AW.reg ?_
  refine Lp (V_move rfl rfl) rfl rfl ?_
  refine Ls rfl rfl (X_call rfl Tryz.func85 rfl rfl rfl (ACalls.mono h ?_))
  rintro v σ ⟨x15_3, rfl, h⟩
  refine Lp (V_eqlS rfl rfl rfl) rfl rfl ?_
  refine Lp (V_asg rfl rfl) rfl rfl ?_
  refine Lnil ?_
  refine thenN ?_
  refine AW.ret ?_
  exact bR1 Tryz.results66 rfl ⟨_, rfl, h⟩

def f_wal_place_cutFile (B : World) (ro : AH) (a0_0 : Option Addr) (a0_1 : ByteArray) (σ : AH) (Q : ByteArray → AH → Prop) : Prop :=
 nw ro σ (.cells #[.pointer a0_0, .string a0_1] 128) fun x1_1 σ =>
 ∃ (x4_2 : ByteArray), acell ro σ ((⟨x1_1, 0, none⟩ : Addr).add 1) = some (.string x4_2) ∧
 x4_2.size + (⟨#[46, 99, 117, 116]⟩ : ByteArray).size ≤ 9223372036854775807 ∧
 Q (x4_2 ++ (⟨#[46, 99, 117, 116]⟩ : ByteArray)) σ

set_option maxRecDepth 100000 in
set_option maxHeartbeats 4000000 in
theorem wal_place_cutFile_ok {B : World} {ro : AH} {a0_0 : Option Addr} {a0_1 : ByteArray} {σ : AH} {Q : ByteArray → AH → Prop} (h : Sep ro σ → f_wal_place_cutFile B ro a0_0 a0_1 σ Q) : c_wal_place_cutFile B ro a0_0 a0_1 σ Q := by
  refine ACalls.of_sep fun hsep => ?_
  replace h := h hsep
  refine ACalls.of_body (args := [.agg #[.pointer a0_0, .string a0_1]]) Tryz.func67 rfl (by rw [Tryz.ntmps67]; simp) ?_
  rw [Tryz.ntmps67]
  unfold f_wal_place_cutFile at h
  refine AW.seq ?_
  refine AW.reg ?_
  refine Ls rfl rfl (X_new (A_box rfl rfl) fun x1_1 g1 g2 => ?_)
  replace h := h x1_1 g1 g2
  refine Lp (V_asg rfl rfl) rfl rfl ?_
  refine Lnil ?_
  refine thenN ?_
  refine AW.seq ?_
  refine AW.reg ?_
  refine Lp (V_fld rfl Tryz.underlying128 rfl ty9 (by decide) rfl) rfl rfl ?_
  obtain ⟨x4_2, hc, h⟩ := h
  refine Ls rfl rfl (X_ld rfl Tryz.underlying9 rfl rfl hc ?_)
  obtain ⟨hc, h⟩ := h
  refine Lp (V_cat rfl rfl rfl hc) rfl rfl ?_
  refine Lp (V_asg rfl rfl) rfl rfl ?_
  refine Lnil ?_
  refine thenN ?_
  refine AW.ret ?_
  exact bR1 Tryz.results67 rfl ⟨_, rfl, h⟩

def j2_wal_place_numbers (B : World) (ro : AH) (Q : Sl → AH → Prop) (x3_3 : Sl) (σ : AH) : Prop :=
 Q x3_3 σ

def j11_wal_place_numbers (B : World) (ro : AH) (x1_1 : Nat) (x15_7 : Sl) (x17_10 : Int) (Q : Sl → AH → Prop) (Y8 : (Sl × Int) → AH → Prop) (x3_12 : Sl) (σ : AH) : Prop :=
 Y8 (x3_12, IntKind.i64.wrap (x17_10 + 1)) σ

def j18_wal_place_numbers (B : World) (ro : AH) (x1_1 : Nat) (x3_9 : Sl) (x15_7 : Sl) (x17_10 : Int) (x26_16 : ByteArray) (Q : Sl → AH → Prop) (Y8 : (Sl × Int) → AH → Prop) (x40_19 : Bool) (σ : AH) : Prop :=
 if x40_19 = true then
  j11_wal_place_numbers B ro x1_1 x15_7 x17_10 Q Y8 x3_9 σ
 else
 c_strconv_Atoi B ro x26_16 σ fun x43_20 x43_21 σ =>
 if 0 < x43_20 then
  nw ro σ (.cells #[.int .i64 x43_20] 3) fun x50_22 σ =>
  awp Tryz.prog ro (Builtin.append_ #[23, 23] 23 #[Sl.v x3_9, Sl.v (⟨some ⟨x50_22, 0, none⟩, 1, 1⟩ : Sl)]) (fun v σ => ∃ (x51_23 : Sl), v = Sl.v x51_23 ∧
   j11_wal_place_numbers B ro x1_1 x15_7 x17_10 Q Y8 x51_23 σ) σ
 else
 j11_wal_place_numbers B ro x1_1 x15_7 x17_10 Q Y8 x3_9 σ

def l8_wal_place_numbers (B : World) (ro : AH) (x1_1 : Nat) (x15_7 : Sl) (Q : Sl → AH → Prop) : (Sl × Int) → AH → ((Sl × Int) → AH → Prop) → Prop := fun ⟨x3_9, x17_10⟩ σ Y8 =>
 if x17_10 < (x15_7.len : Int) then
  ∃ p19_13 : Addr, x15_7.a = some p19_13 ∧ (0 : Int) ≤ x17_10 ∧ x17_10 < (x15_7.len : Int) ∧
  ∃ (x20_14 : ByteArray), acell ro σ (p19_13.add (Int.toNat x17_10 * 1)) = some (.string x20_14) ∧
  ∃ (x24_15 : ByteArray), acell ro σ ((⟨x1_1, 0, none⟩ : Addr).add 1) = some (.string x24_15) ∧
  x24_15.size + (⟨#[46]⟩ : ByteArray).size ≤ 9223372036854775807 ∧
  c_strings_CutPrefix B ro x20_14 (x24_15 ++ (⟨#[46]⟩ : ByteArray)) σ fun x26_16 x26_17 σ =>
  if (¬ (x26_17 = true)) ∨ (¬ ((x26_16.size : Int) = 6)) then
   j18_wal_place_numbers B ro x1_1 x3_9 x15_7 x17_10 x26_16 Q Y8 true σ
  else
  c_strings_Trim B ro x26_16 (⟨#[48, 49, 50, 51, 52, 53, 54, 55, 56, 57]⟩ : ByteArray) σ fun x38_24 σ =>
  j18_wal_place_numbers B ro x1_1 x3_9 x15_7 x17_10 x26_16 Q Y8 (!(decide (x38_24 = (⟨#[]⟩ : ByteArray)))) σ
 else
 j2_wal_place_numbers B ro Q x3_9 σ

def f_wal_place_numbers (B : World) (ro : AH) (a0_0 : Option Addr) (a0_1 : ByteArray) (σ : AH) (Q : Sl → AH → Prop) : Prop :=
 nw ro σ (.cells #[.pointer a0_0, .string a0_1] 128) fun x1_1 σ =>
 ∃ (x11_4 : Option Addr), acell ro σ ⟨x1_1, 0, none⟩ = some (.pointer x11_4) ∧
 ∃ p12_5 : Addr, x11_4 = some p12_5 ∧
 ∃ (x14_6 : Option Nat), acell ro σ p12_5 = some (.map x14_6) ∧
 c_disk_table_Files B ro x14_6 σ fun x15_7 σ =>
 lfpD (l8_wal_place_numbers B ro x1_1 x15_7 Q ) ((⟨none, 0, 0⟩ : Sl), 0) σ

set_option maxRecDepth 100000 in
set_option maxHeartbeats 4000000 in
theorem wal_place_numbers_ok {B : World} {ro : AH} {a0_0 : Option Addr} {a0_1 : ByteArray} {σ : AH} {Q : Sl → AH → Prop} (h : Sep ro σ → f_wal_place_numbers B ro a0_0 a0_1 σ Q) : c_wal_place_numbers B ro a0_0 a0_1 σ Q := by
  refine ACalls.of_sep fun hsep => ?_
  replace h := h hsep
  refine ACalls.of_body (args := [.agg #[.pointer a0_0, .string a0_1]]) Tryz.func68 rfl (by rw [Tryz.ntmps68]; simp) ?_
  rw [Tryz.ntmps68]
  unfold f_wal_place_numbers at h
  refine AW.seq ?_
  refine AW.reg ?_
  refine Ls rfl rfl (X_new (A_box rfl rfl) fun x1_1 g1 g2 => ?_)
  replace h := h x1_1 g1 g2
  refine Lp (V_asg rfl rfl) rfl rfl ?_
  refine Lnil ?_
  refine thenN ?_
  refine AW.seq ?_
  refine AW.reg ?_
  refine Lp (V_asg rfl rfl) rfl rfl ?_
  refine Lnil ?_
  refine thenN ?_
  refine AW.seqJ (fun fr σ => ∃ (x3_3 : Sl), FrLe [(3, Sl.v x3_3)] fr ∧ j2_wal_place_numbers B ro Q x3_3 σ) ?_ ?_
  · rintro fr σ ⟨x3_3, hl, h⟩
    refine AW.weaken ?_ hl (HLe.refl _)
    unfold j2_wal_place_numbers at h
    refine AW.seq ?_
    refine AW.reg ?_
    refine Lp (V_move rfl rfl) rfl rfl ?_
    refine Lp (V_asg rfl rfl) rfl rfl ?_
    refine Lnil ?_
    refine thenN ?_
    refine AW.ret ?_
    exact bR1 Tryz.results68 rfl ⟨_, rfl, h⟩
  refine AW.seq ?_
  refine AW.reg ?_
  refine Lp (V_fld rfl Tryz.underlying128 rfl ty26 (by decide) rfl) rfl rfl ?_
  obtain ⟨x11_4, hc, h⟩ := h
  refine Ls rfl rfl (X_ld rfl Tryz.underlying26 rfl rfl hc ?_)
  obtain ⟨p12_5, hc, h⟩ := h
  refine Lp (V_nil rfl (by rw [← hc]; rfl)) rfl rfl ?_
  refine Lp (V_fld rfl Tryz.underlying39 rfl ty37 (by decide) rfl) rfl rfl ?_
  obtain ⟨x14_6, hc, h⟩ := h
  refine Ls rfl rfl (X_ld rfl Tryz.underlying37 rfl rfl hc ?_)
  refine Ls rfl rfl (X_call rfl Tryz.func46 rfl rfl rfl (ACalls.mono h ?_))
  rintro v σ ⟨x15_7, rfl, h⟩
  refine Lp (V_lenL rfl rfl Tryz.underlying83 rfl rfl) rfl rfl ?_
  refine Lp (V_move rfl rfl) rfl rfl ?_
  refine Lnil ?_
  refine thenN ?_
  refine AW.block ?_
  refine ARound.loop (fr' := [(1, .pointer (some ⟨x1_1, 0, none⟩)), (15, Sl.v x15_7), (16, .int .i64 (x15_7.len : Int)), (3, Sl.v (⟨none, 0, 0⟩ : Sl)), (17, .int .i64 0)]) ?_ (FrLe.cons rfl (FrLe.cons rfl (FrLe.cons rfl (FrLe.cons rfl (FrLe.cons rfl (FrLe.nil _))))))
  refine h (fun ⟨x3_9, x17_10⟩ σ => ARound _ _ _ _ _ _ [(1, .pointer (some ⟨x1_1, 0, none⟩)), (15, Sl.v x15_7), (16, .int .i64 (x15_7.len : Int)), (3, Sl.v x3_9), (17, .int .i64 x17_10)] σ) ?_
  rintro ⟨x3_9, x17_10⟩ σ Y8 hY8 h
  show AW _ _ _ _ _ _ _ _
  unfold l8_wal_place_numbers at h
  dsimp only at h
  refine AW.seq ?_
  refine AW.reg ?_
  refine Lp (V_lss rfl rfl rfl) rfl rfl ?_
  refine Lnil ?_
  refine thenN ?_
  refine AW.seq ?_
  refine AW.iff rfl decide_eq_true_iff h (fun h => ?_) (fun h => ?_)
  rotate_left
  · refine AW.exit ?_
    refine thenE ?_
    refine thenE ?_
    refine blockE ?_
    refine thenN ?_
    exact ⟨_, (FrLe.cons rfl (FrLe.nil _)), h⟩
  refine AW.skip ?_
  refine thenN ?_
  refine AW.seqJ (fun fr σ => ∃ (x3_12 : Sl), FrLe [(1, .pointer (some ⟨x1_1, 0, none⟩)), (15, Sl.v x15_7), (16, .int .i64 (x15_7.len : Int)), (17, .int .i64 x17_10), (3, Sl.v x3_12)] fr ∧ j11_wal_place_numbers B ro x1_1 x15_7 x17_10 Q Y8 x3_12 σ) ?_ ?_
  · rintro fr σ ⟨x3_12, hl, h⟩
    refine AW.weaken ?_ hl (HLe.refl _)
    unfold j11_wal_place_numbers at h
    refine AW.reg ?_
    refine Lp (V_add rfl rfl rfl) rfl rfl ?_
    refine Lp (V_move rfl rfl) rfl rfl ?_
    refine Lnil ?_
    refine thenN ?_
    refine ARound.head (fr' := [(1, .pointer (some ⟨x1_1, 0, none⟩)), (15, Sl.v x15_7), (16, .int .i64 (x15_7.len : Int)), (3, Sl.v x3_12), (17, .int .i64 (IntKind.i64.wrap (x17_10 + 1)))]) ?_ (FrLe.cons rfl (FrLe.cons rfl (FrLe.cons rfl (FrLe.cons rfl (FrLe.cons rfl (FrLe.nil _))))))
    exact hY8 _ _ h
  refine AW.block ?_
  refine AW.seq ?_
  refine AW.reg ?_
  obtain ⟨p19_13, ha, h0, h1, h⟩ := h
  refine Lp (V_ixA rfl Tryz.underlying83 ty9 (ixL rfl ha) rfl h0 h1) rfl rfl ?_
  obtain ⟨x20_14, hc, h⟩ := h
  refine Ls rfl rfl (X_ld rfl Tryz.underlying9 rfl rfl hc ?_)
  refine Lp (V_asg rfl rfl) rfl rfl ?_
  refine Lnil ?_
  refine thenN ?_
  refine AW.seq ?_
  refine AW.reg ?_
  refine Lp (V_move rfl rfl) rfl rfl ?_
  refine Lp (V_fld rfl Tryz.underlying128 rfl ty9 (by decide) rfl) rfl rfl ?_
  obtain ⟨x24_15, hc, h⟩ := h
  refine Ls rfl rfl (X_ld rfl Tryz.underlying9 rfl rfl hc ?_)
  obtain ⟨hc, h⟩ := h
  refine Lp (V_cat rfl rfl rfl hc) rfl rfl ?_
  refine Ls rfl rfl (X_call rfl Tryz.func83 rfl rfl rfl (ACalls.mono h ?_))
  rintro v σ ⟨x26_16, x26_17, rfl, h⟩
  refine Lp (V_move rfl rfl) rfl rfl ?_
  refine Lp (V_ext rfl rfl rfl) rfl rfl ?_
  refine Lp (V_ext rfl rfl rfl) rfl rfl ?_
  refine Lp (V_asg rfl rfl) rfl rfl ?_
  refine Lp (V_asg rfl rfl) rfl rfl ?_
  refine Lnil ?_
  refine thenN ?_
  refine AW.seq ?_
  refine AW.seq ?_
  refine AW.reg ?_
  refine Lp (V_move rfl rfl) rfl rfl ?_
  refine Lp (V_not rfl rfl) rfl rfl ?_
  refine Lp (V_move rfl rfl) rfl rfl ?_
  refine Lsplit 4 (!x26_17) [(1, .pointer (some ⟨x1_1, 0, none⟩)), (3, Sl.v x3_9), (6, .string x26_16), (15, Sl.v x15_7), (16, .int .i64 (x15_7.len : Int)), (17, .int .i64 x17_10), (35, .bool ((!x26_17) || (!(decide ((x26_16.size : Int) = 6)))))] ?_ ?_ ?_
  · intro e2 hk2
    refine Ln rfl rfl rfl rfl (.inl (by rw [e2]; rfl)) ?_
    refine Ln rfl rfl rfl rfl (.inl (by rw [e2]; rfl)) ?_
    refine Ln rfl rfl rfl rfl (.inl (by rw [e2]; rfl)) ?_
    refine Lp (V_pickT rfl (evb e2) rfl) rfl rfl ?_
    exact hk2 _ (FrLe.cons rfl (FrLe.cons rfl (FrLe.cons rfl (FrLe.cons rfl (FrLe.cons rfl (FrLe.cons rfl (FrLe.cons (by rw [e2]; rfl) (FrLe.nil _))))))))
  · intro e2 hk2
    refine Lypb (V_move rfl rfl) rfl rfl rfl rfl e2 ?_
    refine Lypb (V_lenS rfl rfl Tryz.underlying9 rfl rfl) rfl rfl rfl rfl e2 ?_
    refine Lypb (V_neq rfl rfl rfl) rfl rfl rfl rfl e2 ?_
    refine Lp (V_pickF rfl (evb e2) rfl) rfl rfl ?_
    exact hk2 _ (FrLe.cons rfl (FrLe.cons rfl (FrLe.cons rfl (FrLe.cons rfl (FrLe.cons rfl (FrLe.cons rfl (FrLe.cons (by rw [e2]; rfl) (FrLe.nil _))))))))
  intro fr hl
  refine Lfr hl ?_
  refine Lp (V_move rfl rfl) rfl rfl ?_
  refine LsplitJ 4 ((!x26_17) || (!(decide ((x26_16.size : Int) = 6)))) (bor_iff (bnot_iff Iff.rfl) (bnot_iff decide_eq_true_iff)) h (fun fr σ => ∃ (x40_19 : Bool), FrLe [(1, .pointer (some ⟨x1_1, 0, none⟩)), (3, Sl.v x3_9), (6, .string x26_16), (15, Sl.v x15_7), (16, .int .i64 (x15_7.len : Int)), (17, .int .i64 x17_10), (40, .bool x40_19)] fr ∧ j18_wal_place_numbers B ro x1_1 x3_9 x15_7 x17_10 x26_16 Q Y8 x40_19 σ) ?_ ?_ ?_
  · intro h e7 hk7
    refine Ln rfl rfl rfl rfl (.inl (by rw [e7]; rfl)) ?_
    refine Ln rfl rfl rfl rfl (.inl (by rw [e7]; rfl)) ?_
    refine Ln rfl rfl rfl rfl (.inl (by rw [e7]; rfl)) ?_
    refine Lp (V_pickT rfl (evb e7) rfl) rfl rfl ?_
    exact hk7 _ _ ⟨_, (FrLe.cons rfl (FrLe.cons rfl (FrLe.cons rfl (FrLe.cons rfl (FrLe.cons rfl (FrLe.cons rfl (FrLe.cons rfl (FrLe.nil _)))))))), h⟩
  · intro h e7 hk7
    refine Lypb (V_move rfl rfl) rfl rfl rfl rfl e7 ?_
    refine Lyb rfl rfl rfl rfl e7 (X_call rfl Tryz.func85 rfl rfl rfl (ACalls.mono h ?_))
    rintro v σ ⟨x38_24, rfl, h⟩
    refine Lypb (V_neqS rfl rfl rfl) rfl rfl rfl rfl e7 ?_
    refine Lp (V_pickF rfl (evb e7) rfl) rfl rfl ?_
    exact hk7 _ _ ⟨_, (FrLe.cons rfl (FrLe.cons rfl (FrLe.cons rfl (FrLe.cons rfl (FrLe.cons rfl (FrLe.cons rfl (FrLe.cons rfl (FrLe.nil _)))))))), h⟩
  rintro fr σ ⟨x40_19, hl, h⟩
  unfold j18_wal_place_numbers at h
  refine Lfr hl ?_
  refine Lnil ?_
  refine thenN ?_
  refine AW.iff rfl Iff.rfl h (fun h => ?_) (fun h => ?_)
  · refine AW.exit ?_
    refine thenE ?_
    refine blockE ?_
    refine thenN ?_
    exact ⟨_, (FrLe.cons rfl (FrLe.cons rfl (FrLe.cons rfl (FrLe.cons rfl (FrLe.cons rfl (FrLe.nil _)))))), h⟩
  refine AW.skip ?_
  refine thenN ?_
  refine AW.seq ?_
  refine AW.reg ?_
  refine Lp (V_move rfl rfl) rfl rfl ?_
  refine Ls rfl rfl (X_call rfl Tryz.func84 rfl rfl rfl (ACalls.mono h ?_))
  rintro v σ ⟨x43_20, x43_21, rfl, h⟩
  refine Lp (V_move rfl rfl) rfl rfl ?_
  refine Lp (V_ext rfl rfl rfl) rfl rfl ?_
  refine Lp (V_ext rfl rfl rfl) rfl rfl ?_
  refine Lp (V_asg rfl rfl) rfl rfl ?_
  refine Lp (V_asg rfl rfl) rfl rfl ?_
  refine Lnil ?_
  refine thenN ?_
  refine AW.seq ?_
  refine AW.reg ?_
  refine Lp (V_move rfl rfl) rfl rfl ?_
  refine Lp (V_gtr rfl rfl rfl) rfl rfl ?_
  refine Lnil ?_
  refine thenN ?_
  refine AW.iff rfl decide_eq_true_iff h (fun h => ?_) (fun h => ?_)
  rotate_left
  · refine AW.skip ?_
    refine blockN ?_
    refine thenN ?_
    exact ⟨_, (FrLe.cons rfl (FrLe.cons rfl (FrLe.cons rfl (FrLe.cons rfl (FrLe.cons rfl (FrLe.nil _)))))), h⟩
  refine AW.reg ?_
  refine Lp (V_move rfl rfl) rfl rfl ?_
  refine Lp (V_move rfl rfl) rfl rfl ?_
  refine Ls rfl rfl (X_new (A_bsl (vs := [(0, .int .i64 x43_20)]) (cs := #[.int .i64 x43_20]) rfl Tryz.underlying23 ty3 (by decide) rfl rfl) fun x50_22 g1 g2 => ?_)
  replace h := h x50_22 g1 g2
  refine Ls rfl rfl (X_bi (s := Builtin.append_ #[23, 23] 23 #[Sl.v x3_9, Sl.v (⟨some ⟨x50_22, 0, none⟩, 1, 1⟩ : Sl)]) rfl rfl (fun _ => rfl) (awp_mono _ h ?_))
  rintro v σ ⟨x51_23, rfl, h⟩
  refine Lp (V_asg rfl rfl) rfl rfl ?_
  refine Lnil ?_
  refine blockN ?_
  refine thenN ?_
  exact ⟨_, (FrLe.cons rfl (FrLe.cons rfl (FrLe.cons rfl (FrLe.cons rfl (FrLe.cons rfl (FrLe.nil _)))))), h⟩

def j21_wal_Log_take (B : World) (ro : AH) (a0 : Option Addr) (x100_20 : Nat) (Q : Bool → AH → Prop) (x10_22 : Int) (σ : AH) : Prop :=
 stN ((⟨x100_20, 0, none⟩ : Addr).add 3) (fun σ =>
  ∃ p133_23 : Addr, a0 = some p133_23 ∧
  ∃ (x135_24 : Sl), acell ro σ (p133_23.add 3) = some (Sl.v x135_24) ∧
  nw ro σ (.cells #[.pointer (some ⟨x100_20, 0, none⟩)] 136) fun x137_25 σ =>
  awp Tryz.prog ro (Builtin.append_ #[129, 129] 129 #[Sl.v x135_24, Sl.v (⟨some ⟨x137_25, 0, none⟩, 1, 1⟩ : Sl)]) (fun v σ => ∃ (x138_26 : Sl), v = Sl.v x138_26 ∧
   ∃ p139_27 : Addr, a0 = some p139_27 ∧
   stN (p139_27.add 3) (fun σ =>
    Q true σ) [Sl.v x138_26] 0 σ) σ) [.int .i64 x10_22] 0 σ

def l28_wal_Log_take (B : World) (ro : AH) (a0 : Option Addr) (a2 : Option Addr) (x31_6 : Sl) (x100_20 : Nat) (Q : Bool → AH → Prop) : (Int) → AH → ((Int) → AH → Prop) → Prop := fun x10_29 σ Y28 =>
 if x10_29 < (x31_6.len : Int) then
  c_wire_Unframe B ro x31_6 x10_29 σ fun x108_30 x108_31 x108_32 σ =>
  if ¬ (x108_32 = 0) then
   ∃ p115_33 : Addr, a2 = some p115_33 ∧
   stN p115_33 (fun σ =>
    j21_wal_Log_take B ro a0 x100_20 Q x10_29 σ) [.bool false] 0 σ
  else
  ∃ (x120_34 : Sl), acell ro σ ((⟨x100_20, 0, none⟩ : Addr).add 2) = some (Sl.v x120_34) ∧
  nw ro σ (.cells #[Sl.v x108_30] 22) fun x122_35 σ =>
  awp Tryz.prog ro (Builtin.append_ #[44, 44] 44 #[Sl.v x120_34, Sl.v (⟨some ⟨x122_35, 0, none⟩, 1, 1⟩ : Sl)]) (fun v σ => ∃ (x123_36 : Sl), v = Sl.v x123_36 ∧
   stN ((⟨x100_20, 0, none⟩ : Addr).add 2) (fun σ =>
    Y28 (x108_31) σ) [Sl.v x123_36] 0 σ) σ
 else
 j21_wal_Log_take B ro a0 x100_20 Q x10_29 σ

def j18_wal_Log_take (B : World) (ro : AH) (a0 : Option Addr) (a1 : Int) (a2 : Option Addr) (x31_6 : Sl) (x36_9 : Int) (x44_11 : Int) (Q : Bool → AH → Prop) (x96_19 : Bool) (σ : AH) : Prop :=
 if x96_19 = true then
  Q false σ
 else
 nw ro σ (.cells #[.int .i64 a1, .int .i64 x44_11, Sl.v (⟨none, 0, 0⟩ : Sl), .int .i64 0] 138) fun x100_20 σ =>
 lfpD (l28_wal_Log_take B ro a0 a2 x31_6 x100_20 Q ) (x36_9) σ

def j43_wal_Log_take (B : World) (ro : AH) (a0 : Option Addr) (a1 : Int) (a2 : Option Addr) (x31_6 : Sl) (x36_9 : Int) (x44_11 : Int) (x71_17 : Sl) (Q : Bool → AH → Prop) (x95_44 : Bool) (σ : AH) : Prop :=
 j18_wal_Log_take B ro a0 a1 a2 x31_6 x36_9 x44_11 Q x95_44 σ

def j14_wal_Log_take (B : World) (ro : AH) (a0 : Option Addr) (a1 : Int) (a2 : Option Addr) (x31_6 : Sl) (x36_9 : Int) (x44_11 : Int) (Q : Bool → AH → Prop) (x67_15 : Bool) (σ : AH) : Prop :=
 if x67_15 = true then
  Q false σ
 else
 ∃ p69_16 : Addr, a0 = some p69_16 ∧
 ∃ (x71_17 : Sl), acell ro σ (p69_16.add 3) = some (Sl.v x71_17) ∧
 if 0 < (x71_17.len : Int) then
  ∃ p78_37 : Addr, a0 = some p78_37 ∧
  ∃ (x80_38 : Sl), acell ro σ (p78_37.add 3) = some (Sl.v x80_38) ∧
  ∃ p83_39 : Addr, x80_38.a = some p83_39 ∧ (0 : Int) ≤ (IntKind.i64.wrap ((x71_17.len : Int) - 1)) ∧ (IntKind.i64.wrap ((x71_17.len : Int) - 1)) < (x80_38.len : Int) ∧
  ∃ (x84_40 : Option Addr), acell ro σ (p83_39.add (Int.toNat (IntKind.i64.wrap ((x71_17.len : Int) - 1)) * 1)) = some (.pointer x84_40) ∧
  ∃ p85_41 : Addr, x84_40 = some p85_41 ∧
  ∃ (x87_42 : Int), acell ro σ p85_41 = some (.int .i64 x87_42) ∧
  if ¬ (a1 = (IntKind.i64.wrap (x87_42 + 1))) then
   j43_wal_Log_take B ro a0 a1 a2 x31_6 x36_9 x44_11 x71_17 Q true σ
  else
  c_wal_Log_Next B ro a0 σ fun x93_45 σ =>
  j43_wal_Log_take B ro a0 a1 a2 x31_6 x36_9 x44_11 x71_17 Q (!(decide (x44_11 = x93_45))) σ
 else
 j18_wal_Log_take B ro a0 a1 a2 x31_6 x36_9 x44_11 Q false σ

def f_wal_Log_take (B : World) (ro : AH) (a0 : Option Addr) (a1 : Int) (a2 : Option Addr) (σ : AH) (Q : Bool → AH → Prop) : Prop :=
 lent σ fun ψ σ =>
  ∃ p21_1 : Addr, a0 = some p21_1 ∧
  ∃ (x24_2 : Option Addr), acell (join ro ψ) (fun _ => none) p21_1 = some (.pointer x24_2) ∧
  ∃ p26_3 : Addr, a0 = some p26_3 ∧
  ∃ (x28_4a : Option Addr) (x28_4b : ByteArray), cellsAt (join ro ψ) σ p26_3 0 [.pointer x28_4a, .string x28_4b] ∧
  c_wal_place_file B (join ro ψ) x28_4a x28_4b a1 σ fun x30_5 σ =>
  c_disk_Disk_Read B (join ro ψ) x24_2 x30_5 σ fun x31_6 x31_7 σ =>
  (Disj ψ σ → (fun σ => 
   c_wire_Unframe B ro x31_6 0 σ fun x36_8 x36_9 x36_10 σ =>
   if ¬ (x36_10 = 0) then
    Q false σ
   else
   c_wire_Number B ro x36_8 0 σ fun x44_11 x44_12 x44_13 σ =>
   if (¬ (x44_13 = 0)) ∨ (¬ (x44_12 = (x36_8.len : Int))) then
    j14_wal_Log_take B ro a0 a1 a2 x31_6 x36_9 x44_11 Q true σ
   else
   ∃ p58_46 : Addr, a0 = some p58_46 ∧
   ∃ (x60_47 : Sl), acell ro σ (p58_46.add 3) = some (Sl.v x60_47) ∧
   j14_wal_Log_take B ro a0 a1 a2 x31_6 x36_9 x44_11 Q ((decide ((x60_47.len : Int) = 0)) && (decide (1152921504606846976 < x44_11))) σ) (join ψ σ))

set_option maxRecDepth 100000 in
set_option maxHeartbeats 4000000 in
theorem wal_Log_take_ok {B : World} {ro : AH} {a0 : Option Addr} {a1 : Int} {a2 : Option Addr} {σ : AH} {Q : Bool → AH → Prop} (h : Sep ro σ → f_wal_Log_take B ro a0 a1 a2 σ Q) : c_wal_Log_take B ro a0 a1 a2 σ Q := by
  refine ACalls.of_sep fun hsep => ?_
  replace h := h hsep
  refine ACalls.of_body (args := [.pointer a0, .int .i64 a1, .pointer a2]) Tryz.func69 rfl (by rw [Tryz.ntmps69]; simp) ?_
  rw [Tryz.ntmps69]
  unfold f_wal_Log_take at h
  refine AW.seq ?_
  refine AW.reg ?_
  refine Lp (V_asg rfl rfl) rfl rfl ?_
  refine Lnil ?_
  refine thenN ?_
  refine AW.seq ?_
  refine AW.drawnL (fun i => ([0, 0, 0, 0, 0, 0, 0, 0, 3, 0, 2, 2, 0, 0, 0, 0, 0] : List Nat).getD i 2) [(8, 10), (8, 11)] [0, 1, 2, 3, 4, 5, 6, 7, 9, 8, 10, 11, 12, 13, 14, 15, 16] Tryz.mixed h (by decide +kernel) ?_
  clear h
  intro ψ σ h
  refine Dp rfl rfl rfl rfl (V_move rfl rfl) ?_
  obtain ⟨p21_1, hc, h⟩ := h
  refine Dp rfl rfl rfl rfl (V_nil rfl (by rw [← hc]; rfl)) ?_
  refine Dp rfl rfl rfl rfl (V_fld rfl Tryz.underlying131 rfl ty128 (by decide) rfl) ?_
  refine Dp rfl rfl rfl rfl (V_fld rfl Tryz.underlying128 rfl ty26 (by decide) rfl) ?_
  obtain ⟨x24_2, hc, h⟩ := h
  refine Dp rfl rfl rfl rfl (V_ld rfl Tryz.underlying26 rfl rfl hc) ?_
  refine Dp rfl rfl rfl rfl (V_move rfl rfl) ?_
  obtain ⟨p26_3, hc, h⟩ := h
  refine Dp rfl rfl rfl rfl (V_nil rfl (by rw [← hc]; rfl)) ?_
  refine Dp rfl rfl rfl rfl (V_fld rfl Tryz.underlying131 rfl ty128 (by decide) rfl) ?_
  refine Dp rfl rfl rfl rfl (V_move rfl rfl) ?_
  obtain ⟨x28_4a, x28_4b, hc, h⟩ := h
  refine Dr rfl rfl rfl rfl (R_lda rfl Tryz.underlying128 rfl ty128 rfl hc) ?_
  refine Dg rfl rfl rfl rfl (X_call rfl Tryz.func70 rfl rfl rfl (ACalls.mono h ?_))
  rintro v σ ⟨x30_5, rfl, h⟩
  refine Dg rfl rfl rfl rfl (X_call rfl Tryz.func51 rfl rfl rfl (ACalls.mono h ?_))
  rintro v σ ⟨x31_6, x31_7, rfl, h⟩
  refine Dp rfl rfl rfl rfl (V_move rfl rfl) ?_
  refine Dp rfl rfl rfl rfl (V_ext rfl rfl rfl) ?_
  refine Dp rfl rfl rfl rfl (V_ext rfl rfl rfl) ?_
  refine Dp rfl rfl rfl rfl (V_asg rfl rfl) ?_
  refine Dp rfl rfl rfl rfl (V_asg rfl rfl) ?_
  refine ⟨_, FrEq.refl _, fun hdj => ?_⟩
  replace h := h hdj
  refine thenN ?_
  refine AW.seq ?_
  refine AW.reg ?_
  refine Lp (V_move rfl rfl) rfl rfl ?_
  refine Ls rfl rfl (X_call rfl Tryz.func86 rfl rfl rfl (ACalls.mono h ?_))
  rintro v σ ⟨x36_8, x36_9, x36_10, rfl, h⟩
  refine Lp (V_move rfl rfl) rfl rfl ?_
  refine Lp (V_ext rfl rfl rfl) rfl rfl ?_
  refine Lp (V_ext rfl rfl rfl) rfl rfl ?_
  refine Lp (V_ext rfl rfl rfl) rfl rfl ?_
  refine Lp (V_asg rfl rfl) rfl rfl ?_
  refine Lp (V_asg rfl rfl) rfl rfl ?_
  refine Lp (V_asg rfl rfl) rfl rfl ?_
  refine Lnil ?_
  refine thenN ?_
  refine AW.seq ?_
  refine AW.seq ?_
  refine AW.reg ?_
  refine Lp (V_move rfl rfl) rfl rfl ?_
  refine Lp (V_neq rfl rfl rfl) rfl rfl ?_
  refine Lnil ?_
  refine thenN ?_
  refine AW.iff rfl (bnot_iff decide_eq_true_iff) h (fun h => ?_) (fun h => ?_)
  · refine AW.seq ?_
    refine AW.reg ?_
    refine Lp (V_asg rfl rfl) rfl rfl ?_
    refine Lnil ?_
    refine thenN ?_
    refine AW.ret ?_
    refine thenR ?_
    exact bR1 Tryz.results69 rfl ⟨_, rfl, h⟩
  refine AW.skip ?_
  refine thenN ?_
  refine AW.seq ?_
  refine AW.reg ?_
  refine Lp (V_move rfl rfl) rfl rfl ?_
  refine Ls rfl rfl (X_call rfl Tryz.func97 rfl rfl rfl (ACalls.mono h ?_))
  rintro v σ ⟨x44_11, x44_12, x44_13, rfl, h⟩
  refine Lp (V_move rfl rfl) rfl rfl ?_
  refine Lp (V_ext rfl rfl rfl) rfl rfl ?_
  refine Lp (V_ext rfl rfl rfl) rfl rfl ?_
  refine Lp (V_ext rfl rfl rfl) rfl rfl ?_
  refine Lp (V_asg rfl rfl) rfl rfl ?_
  refine Lp (V_asg rfl rfl) rfl rfl ?_
  refine Lp (V_asg rfl rfl) rfl rfl ?_
  refine Lnil ?_
  refine thenN ?_
  refine AW.seq ?_
  refine AW.seq ?_
  refine AW.reg ?_
  refine Lp (V_move rfl rfl) rfl rfl ?_
  refine Lp (V_neq rfl rfl rfl) rfl rfl ?_
  refine Lp (V_move rfl rfl) rfl rfl ?_
  refine Lsplit 5 (!(decide (x44_13 = 0))) [(0, .pointer a0), (1, .int .i64 a1), (2, .pointer a2), (7, Sl.v x31_6), (10, .int .i64 x36_9), (12, .int .i64 x44_11), (55, .bool ((!(decide (x44_13 = 0))) || (!(decide (x44_12 = (x36_8.len : Int))))))] ?_ ?_ ?_
  · intro e2 hk2
    refine Ln rfl rfl rfl rfl (.inl (by rw [e2]; rfl)) ?_
    refine Ln rfl rfl rfl rfl (.inl (by rw [e2]; rfl)) ?_
    refine Ln rfl rfl rfl rfl (.inl (by rw [e2]; rfl)) ?_
    refine Ln rfl rfl rfl rfl (.inl (by rw [e2]; rfl)) ?_
    refine Lp (V_pickT rfl (evb e2) rfl) rfl rfl ?_
    exact hk2 _ (FrLe.cons rfl (FrLe.cons rfl (FrLe.cons rfl (FrLe.cons rfl (FrLe.cons rfl (FrLe.cons rfl (FrLe.cons (by rw [e2]; rfl) (FrLe.nil _))))))))
  · intro e2 hk2
    refine Lypb (V_move rfl rfl) rfl rfl rfl rfl e2 ?_
    refine Lypb (V_move rfl rfl) rfl rfl rfl rfl e2 ?_
    refine Lypb (V_lenL rfl rfl Tryz.underlying22 rfl rfl) rfl rfl rfl rfl e2 ?_
    refine Lypb (V_neq rfl rfl rfl) rfl rfl rfl rfl e2 ?_
    refine Lp (V_pickF rfl (evb e2) rfl) rfl rfl ?_
    exact hk2 _ (FrLe.cons rfl (FrLe.cons rfl (FrLe.cons rfl (FrLe.cons rfl (FrLe.cons rfl (FrLe.cons rfl (FrLe.cons (by rw [e2]; rfl) (FrLe.nil _))))))))
  intro fr hl
  refine Lfr hl ?_
  refine Lp (V_move rfl rfl) rfl rfl ?_
  refine LsplitJ 11 ((!(decide (x44_13 = 0))) || (!(decide (x44_12 = (x36_8.len : Int))))) (bor_iff (bnot_iff decide_eq_true_iff) (bnot_iff decide_eq_true_iff)) h (fun fr σ => ∃ (x67_15 : Bool), FrLe [(0, .pointer a0), (1, .int .i64 a1), (2, .pointer a2), (7, Sl.v x31_6), (10, .int .i64 x36_9), (12, .int .i64 x44_11), (67, .bool x67_15)] fr ∧ j14_wal_Log_take B ro a0 a1 a2 x31_6 x36_9 x44_11 Q x67_15 σ) ?_ ?_ ?_
  · intro h e8 hk8
    refine Ln rfl rfl rfl rfl (.inl (by rw [e8]; rfl)) ?_
    refine Ln rfl rfl rfl rfl (.inl (by rw [e8]; rfl)) ?_
    refine Ln rfl rfl rfl rfl (.inl (by rw [e8]; rfl)) ?_
    refine Ln rfl rfl rfl rfl (.inl (by rw [e8]; rfl)) ?_
    refine Ln rfl rfl rfl rfl (.inl (by rw [e8]; rfl)) ?_
    refine Ln rfl rfl rfl rfl (.inl (by rw [e8]; rfl)) ?_
    refine Ln rfl rfl rfl rfl (.inl (by rw [e8]; rfl)) ?_
    refine Ln rfl rfl rfl rfl (.inr rfl) ?_
    refine Ln rfl rfl rfl rfl (.inr rfl) ?_
    refine Ln rfl rfl rfl rfl (.inl (by rw [e8]; rfl)) ?_
    refine Lp (V_pickT rfl (evb e8) rfl) rfl rfl ?_
    exact hk8 _ _ ⟨_, (FrLe.cons rfl (FrLe.cons rfl (FrLe.cons rfl (FrLe.cons rfl (FrLe.cons rfl (FrLe.cons rfl (FrLe.cons rfl (FrLe.nil _)))))))), h⟩
  · intro h e8 hk8
    refine Lypb (V_move rfl rfl) rfl rfl rfl rfl e8 ?_
    obtain ⟨p58_46, hc, h⟩ := h
    refine Lypb (V_nil rfl (by rw [← hc]; rfl)) rfl rfl rfl rfl e8 ?_
    refine Lypb (V_fld rfl Tryz.underlying131 rfl ty129 (by decide) rfl) rfl rfl rfl rfl e8 ?_
    obtain ⟨x60_47, hc, h⟩ := h
    refine Lyb rfl rfl rfl rfl e8 (X_ld rfl Tryz.underlying129 rfl rfl hc ?_)
    refine Lypb (V_lenL rfl rfl Tryz.underlying129 rfl rfl) rfl rfl rfl rfl e8 ?_
    refine Lypb (V_eql rfl rfl rfl) rfl rfl rfl rfl e8 ?_
    refine Lypb (V_move rfl rfl) rfl rfl rfl rfl e8 ?_
    refine Lsplit 3 (decide ((x60_47.len : Int) = 0)) [(0, .pointer a0), (1, .int .i64 a1), (2, .pointer a2), (7, Sl.v x31_6), (10, .int .i64 x36_9), (12, .int .i64 x44_11), (56, .bool ((!(decide (x44_13 = 0))) || (!(decide (x44_12 = (x36_8.len : Int)))))), (66, .bool ((decide ((x60_47.len : Int) = 0)) && (decide (1152921504606846976 < x44_11))))] ?_ ?_ ?_
    · intro e15 hk15
      refine Lypb (V_move rfl rfl) rfl rfl rfl rfl e15 ?_
      refine Lypb (V_gtr rfl rfl rfl) rfl rfl rfl rfl e15 ?_
      refine Lypb (V_pickT rfl (evb e15) rfl) rfl rfl rfl rfl e8 ?_
      exact hk15 _ (FrLe.cons rfl (FrLe.cons rfl (FrLe.cons rfl (FrLe.cons rfl (FrLe.cons rfl (FrLe.cons rfl (FrLe.cons rfl (FrLe.cons (by rw [e15]; rfl) (FrLe.nil _)))))))))
    · intro e15 hk15
      refine Ln rfl rfl rfl rfl (.inl (by rw [e15]; rfl)) ?_
      refine Ln rfl rfl rfl rfl (.inl (by rw [e15]; rfl)) ?_
      refine Lypb (V_pickF rfl (evb e15) rfl) rfl rfl rfl rfl e8 ?_
      exact hk15 _ (FrLe.cons rfl (FrLe.cons rfl (FrLe.cons rfl (FrLe.cons rfl (FrLe.cons rfl (FrLe.cons rfl (FrLe.cons rfl (FrLe.cons (by rw [e15]; rfl) (FrLe.nil _)))))))))
    intro fr hl
    refine Lfr hl ?_
    refine Lp (V_pickF rfl (evb e8) rfl) rfl rfl ?_
    exact hk8 _ _ ⟨_, (FrLe.cons rfl (FrLe.cons rfl (FrLe.cons rfl (FrLe.cons rfl (FrLe.cons rfl (FrLe.cons rfl (FrLe.cons rfl (FrLe.nil _)))))))), h⟩
  rintro fr σ ⟨x67_15, hl, h⟩
  unfold j14_wal_Log_take at h
  refine Lfr hl ?_
  refine Lnil ?_
  refine thenN ?_
  refine AW.iff rfl Iff.rfl h (fun h => ?_) (fun h => ?_)
  · refine AW.seq ?_
    refine AW.reg ?_
    refine Lp (V_asg rfl rfl) rfl rfl ?_
    refine Lnil ?_
    refine thenN ?_
    refine AW.ret ?_
    refine thenR ?_
    exact bR1 Tryz.results69 rfl ⟨_, rfl, h⟩
  refine AW.skip ?_
  refine thenN ?_
  refine AW.seq ?_
  refine AW.seq ?_
  refine AW.reg ?_
  refine Lp (V_move rfl rfl) rfl rfl ?_
  obtain ⟨p69_16, hc, h⟩ := h
  refine Lp (V_nil rfl (by rw [← hc]; rfl)) rfl rfl ?_
  refine Lp (V_fld rfl Tryz.underlying131 rfl ty129 (by decide) rfl) rfl rfl ?_
  obtain ⟨x71_17, hc, h⟩ := h
  refine Ls rfl rfl (X_ld rfl Tryz.underlying129 rfl rfl hc ?_)
  refine Lp (V_lenL rfl rfl Tryz.underlying129 rfl rfl) rfl rfl ?_
  refine Lp (V_asg rfl rfl) rfl rfl ?_
  refine Lnil ?_
  refine thenN ?_
  refine AW.seq ?_
  refine AW.reg ?_
  refine Lp (V_move rfl rfl) rfl rfl ?_
  refine Lp (V_gtr rfl rfl rfl) rfl rfl ?_
  refine Lp (V_move rfl rfl) rfl rfl ?_
  refine LsplitJ 21 (decide (0 < (x71_17.len : Int))) decide_eq_true_iff h (fun fr σ => ∃ (x96_19 : Bool), FrLe [(0, .pointer a0), (1, .int .i64 a1), (2, .pointer a2), (7, Sl.v x31_6), (10, .int .i64 x36_9), (12, .int .i64 x44_11), (96, .bool x96_19)] fr ∧ j18_wal_Log_take B ro a0 a1 a2 x31_6 x36_9 x44_11 Q x96_19 σ) ?_ ?_ ?_
  · intro h e2 hk2
    refine Lypb (V_move rfl rfl) rfl rfl rfl rfl e2 ?_
    refine Lypb (V_move rfl rfl) rfl rfl rfl rfl e2 ?_
    obtain ⟨p78_37, hc, h⟩ := h
    refine Lypb (V_nil rfl (by rw [← hc]; rfl)) rfl rfl rfl rfl e2 ?_
    refine Lypb (V_fld rfl Tryz.underlying131 rfl ty129 (by decide) rfl) rfl rfl rfl rfl e2 ?_
    obtain ⟨x80_38, hc, h⟩ := h
    refine Lyb rfl rfl rfl rfl e2 (X_ld rfl Tryz.underlying129 rfl rfl hc ?_)
    refine Lypb (V_move rfl rfl) rfl rfl rfl rfl e2 ?_
    refine Lypb (V_sub rfl rfl rfl) rfl rfl rfl rfl e2 ?_
    obtain ⟨p83_39, ha, h0, h1, h⟩ := h
    refine Lypb (V_ixA rfl Tryz.underlying129 ty136 (ixL rfl ha) rfl h0 h1) rfl rfl rfl rfl e2 ?_
    obtain ⟨x84_40, hc, h⟩ := h
    refine Lyb rfl rfl rfl rfl e2 (X_ld rfl Tryz.underlying136 rfl rfl hc ?_)
    obtain ⟨p85_41, hc, h⟩ := h
    refine Lypb (V_nil rfl (by rw [← hc]; rfl)) rfl rfl rfl rfl e2 ?_
    refine Lypb (V_fld rfl Tryz.underlying138 rfl ty3 (by decide) rfl) rfl rfl rfl rfl e2 ?_
    obtain ⟨x87_42, hc, h⟩ := h
    refine Lyb rfl rfl rfl rfl e2 (X_ld rfl Tryz.underlying3 rfl rfl hc ?_)
    refine Lypb (V_add rfl rfl rfl) rfl rfl rfl rfl e2 ?_
    refine Lypb (V_neq rfl rfl rfl) rfl rfl rfl rfl e2 ?_
    refine Lypb (V_move rfl rfl) rfl rfl rfl rfl e2 ?_
    refine LsplitJ 5 (!(decide (a1 = (IntKind.i64.wrap (x87_42 + 1))))) (bnot_iff decide_eq_true_iff) h (fun fr σ => ∃ (x95_44 : Bool), FrLe [(0, .pointer a0), (1, .int .i64 a1), (2, .pointer a2), (7, Sl.v x31_6), (10, .int .i64 x36_9), (12, .int .i64 x44_11), (75, .bool (decide (0 < (x71_17.len : Int)))), (95, .bool x95_44)] fr ∧ j43_wal_Log_take B ro a0 a1 a2 x31_6 x36_9 x44_11 x71_17 Q x95_44 σ) ?_ ?_ ?_
    · intro h e17 hk17
      refine Ln rfl rfl rfl rfl (.inl (by rw [e17]; rfl)) ?_
      refine Ln rfl rfl rfl rfl (.inl (by rw [e17]; rfl)) ?_
      refine Ln rfl rfl rfl rfl (.inl (by rw [e17]; rfl)) ?_
      refine Ln rfl rfl rfl rfl (.inl (by rw [e17]; rfl)) ?_
      refine Lypb (V_pickT rfl (evb e17) rfl) rfl rfl rfl rfl e2 ?_
      exact hk17 _ _ ⟨_, (FrLe.cons rfl (FrLe.cons rfl (FrLe.cons rfl (FrLe.cons rfl (FrLe.cons rfl (FrLe.cons rfl (FrLe.cons rfl (FrLe.cons rfl (FrLe.nil _))))))))), h⟩
    · intro h e17 hk17
      refine Lypb (V_move rfl rfl) rfl rfl rfl rfl e17 ?_
      refine Lypb (V_move rfl rfl) rfl rfl rfl rfl e17 ?_
      refine Lyb rfl rfl rfl rfl e17 (X_call rfl Tryz.func32 rfl rfl rfl (ACalls.mono h ?_))
      rintro v σ ⟨x93_45, rfl, h⟩
      refine Lypb (V_neq rfl rfl rfl) rfl rfl rfl rfl e17 ?_
      refine Lypb (V_pickF rfl (evb e17) rfl) rfl rfl rfl rfl e2 ?_
      exact hk17 _ _ ⟨_, (FrLe.cons rfl (FrLe.cons rfl (FrLe.cons rfl (FrLe.cons rfl (FrLe.cons rfl (FrLe.cons rfl (FrLe.cons rfl (FrLe.cons rfl (FrLe.nil _))))))))), h⟩
    rintro fr σ ⟨x95_44, hl, h⟩
    unfold j43_wal_Log_take at h
    refine Lfr hl ?_
    refine Lp (V_pickT rfl (evb e2) rfl) rfl rfl ?_
    exact hk2 _ _ ⟨_, (FrLe.cons rfl (FrLe.cons rfl (FrLe.cons rfl (FrLe.cons rfl (FrLe.cons rfl (FrLe.cons rfl (FrLe.cons rfl (FrLe.nil _)))))))), h⟩
  · intro h e2 hk2
    refine Ln rfl rfl rfl rfl (.inl (by rw [e2]; rfl)) ?_
    refine Ln rfl rfl rfl rfl (.inl (by rw [e2]; rfl)) ?_
    refine Ln rfl rfl rfl rfl (.inl (by rw [e2]; rfl)) ?_
    refine Ln rfl rfl rfl rfl (.inl (by rw [e2]; rfl)) ?_
    refine Ln rfl rfl rfl rfl (.inl (by rw [e2]; rfl)) ?_
    refine Ln rfl rfl rfl rfl (.inl (by rw [e2]; rfl)) ?_
    refine Ln rfl rfl rfl rfl (.inl (by rw [e2]; rfl)) ?_
    refine Ln rfl rfl rfl rfl (.inl (by rw [e2]; rfl)) ?_
    refine Ln rfl rfl rfl rfl (.inl (by rw [e2]; rfl)) ?_
    refine Ln rfl rfl rfl rfl (.inl (by rw [e2]; rfl)) ?_
    refine Ln rfl rfl rfl rfl (.inl (by rw [e2]; rfl)) ?_
    refine Ln rfl rfl rfl rfl (.inl (by rw [e2]; rfl)) ?_
    refine Ln rfl rfl rfl rfl (.inl (by rw [e2]; rfl)) ?_
    refine Ln rfl rfl rfl rfl (.inl (by rw [e2]; rfl)) ?_
    refine Ln rfl rfl rfl rfl (.inl (by rw [e2]; rfl)) ?_
    refine Ln rfl rfl rfl rfl (.inr rfl) ?_
    refine Ln rfl rfl rfl rfl (.inr rfl) ?_
    refine Ln rfl rfl rfl rfl (.inr rfl) ?_
    refine Ln rfl rfl rfl rfl (.inr rfl) ?_
    refine Ln rfl rfl rfl rfl (.inl (by rw [e2]; rfl)) ?_
    refine Lp (V_pickF rfl (evb e2) rfl) rfl rfl ?_
    exact hk2 _ _ ⟨_, (FrLe.cons rfl (FrLe.cons rfl (FrLe.cons rfl (FrLe.cons rfl (FrLe.cons rfl (FrLe.cons rfl (FrLe.cons rfl (FrLe.nil _)))))))), h⟩
  rintro fr σ ⟨x96_19, hl, h⟩
  unfold j18_wal_Log_take at h
  refine Lfr hl ?_
  refine Lnil ?_
  refine thenN ?_
  refine AW.iff rfl Iff.rfl h (fun h => ?_) (fun h => ?_)
  · refine AW.seq ?_
    refine AW.reg ?_
    refine Lp (V_asg rfl rfl) rfl rfl ?_
    refine Lnil ?_
    refine thenN ?_
    refine AW.ret ?_
    refine thenR ?_
    exact bR1 Tryz.results69 rfl ⟨_, rfl, h⟩
  refine AW.skip ?_
  refine thenN ?_
  refine AW.seq ?_
  refine AW.reg ?_
  refine Lp (V_move rfl rfl) rfl rfl ?_
  refine Lp (V_move rfl rfl) rfl rfl ?_
  refine Lp (V_bld (vs := [(0, .int .i64 a1), (1, .int .i64 x44_11)]) (cs := #[.int .i64 a1, .int .i64 x44_11, Sl.v (⟨none, 0, 0⟩ : Sl), .int .i64 0]) rfl Tryz.underlying138 ty138 pl138 rfl rfl) rfl rfl ?_
  refine Ls rfl rfl (X_new (A_box rfl rfl) fun x100_20 g1 g2 => ?_)
  replace h := h x100_20 g1 g2
  refine Lp (V_asg rfl rfl) rfl rfl ?_
  refine Lnil ?_
  refine thenN ?_
  refine AW.seqJ (fun fr σ => ∃ (x10_22 : Int), FrLe [(0, .pointer a0), (15, .pointer (some ⟨x100_20, 0, none⟩)), (10, .int .i64 x10_22)] fr ∧ j21_wal_Log_take B ro a0 x100_20 Q x10_22 σ) ?_ ?_
  · rintro fr σ ⟨x10_22, hl, h⟩
    refine AW.weaken ?_ hl (HLe.refl _)
    unfold j21_wal_Log_take at h
    refine AW.seq ?_
    refine AW.reg ?_
    refine Lp (V_move rfl rfl) rfl rfl ?_
    refine Lp (V_move rfl rfl) rfl rfl ?_
    refine Lp (V_nil rfl rfl) rfl rfl ?_
    refine Lp (V_fld rfl Tryz.underlying138 rfl ty3 (by decide) rfl) rfl rfl ?_
    refine Ls rfl rfl (X_st rfl ty3 rfl rfl rfl rfl (stN_mono h fun σ h => ?_))
    refine Lnil ?_
    refine thenN ?_
    refine AW.seq ?_
    refine AW.reg ?_
    refine Lp (V_move rfl rfl) rfl rfl ?_
    refine Lp (V_move rfl rfl) rfl rfl ?_
    obtain ⟨p133_23, hc, h⟩ := h
    refine Lp (V_nil rfl (by rw [← hc]; rfl)) rfl rfl ?_
    refine Lp (V_fld rfl Tryz.underlying131 rfl ty129 (by decide) rfl) rfl rfl ?_
    obtain ⟨x135_24, hc, h⟩ := h
    refine Ls rfl rfl (X_ld rfl Tryz.underlying129 rfl rfl hc ?_)
    refine Lp (V_move rfl rfl) rfl rfl ?_
    refine Ls rfl rfl (X_new (A_bsl (vs := [(0, .pointer (some ⟨x100_20, 0, none⟩))]) (cs := #[.pointer (some ⟨x100_20, 0, none⟩)]) rfl Tryz.underlying129 ty136 (by decide) rfl rfl) fun x137_25 g1 g2 => ?_)
    replace h := h x137_25 g1 g2
    refine Ls rfl rfl (X_bi (s := Builtin.append_ #[129, 129] 129 #[Sl.v x135_24, Sl.v (⟨some ⟨x137_25, 0, none⟩, 1, 1⟩ : Sl)]) rfl rfl (fun _ => rfl) (awp_mono _ h ?_))
    rintro v σ ⟨x138_26, rfl, h⟩
    obtain ⟨p139_27, hc, h⟩ := h
    refine Lp (V_nil rfl (by rw [← hc]; rfl)) rfl rfl ?_
    refine Lp (V_fld rfl Tryz.underlying131 rfl ty129 (by decide) rfl) rfl rfl ?_
    refine Ls rfl rfl (X_st rfl ty129 rfl rfl rfl rfl (stN_mono h fun σ h => ?_))
    refine Lnil ?_
    refine thenN ?_
    refine AW.seq ?_
    refine AW.reg ?_
    refine Lp (V_asg rfl rfl) rfl rfl ?_
    refine Lnil ?_
    refine thenN ?_
    refine AW.ret ?_
    exact bR1 Tryz.results69 rfl ⟨_, rfl, h⟩
  refine AW.block ?_
  refine ARound.loop (fr' := [(0, .pointer a0), (2, .pointer a2), (7, Sl.v x31_6), (15, .pointer (some ⟨x100_20, 0, none⟩)), (10, .int .i64 x36_9)]) ?_ (FrLe.cons rfl (FrLe.cons rfl (FrLe.cons rfl (FrLe.cons rfl (FrLe.cons rfl (FrLe.nil _))))))
  refine h (fun x10_29 σ => ARound _ _ _ _ _ _ [(0, .pointer a0), (2, .pointer a2), (7, Sl.v x31_6), (15, .pointer (some ⟨x100_20, 0, none⟩)), (10, .int .i64 x10_29)] σ) ?_
  rintro x10_29 σ Y28 hY28 h
  show AW _ _ _ _ _ _ _ _
  unfold l28_wal_Log_take at h
  refine AW.seq ?_
  refine AW.seq ?_
  refine AW.reg ?_
  refine Lp (V_move rfl rfl) rfl rfl ?_
  refine Lp (V_move rfl rfl) rfl rfl ?_
  refine Lp (V_lenL rfl rfl Tryz.underlying22 rfl rfl) rfl rfl ?_
  refine Lp (V_lss rfl rfl rfl) rfl rfl ?_
  refine Lnil ?_
  refine thenN ?_
  refine AW.iff rfl decide_eq_true_iff h (fun h => ?_) (fun h => ?_)
  rotate_left
  · refine AW.exit ?_
    refine thenE ?_
    refine thenE ?_
    refine blockE ?_
    refine thenN ?_
    exact ⟨_, (FrLe.cons rfl (FrLe.cons rfl (FrLe.cons rfl (FrLe.nil _)))), h⟩
  refine AW.skip ?_
  refine thenN ?_
  refine AW.block ?_
  refine AW.seq ?_
  refine AW.reg ?_
  refine Lp (V_move rfl rfl) rfl rfl ?_
  refine Lp (V_move rfl rfl) rfl rfl ?_
  refine Ls rfl rfl (X_call rfl Tryz.func86 rfl rfl rfl (ACalls.mono h ?_))
  rintro v σ ⟨x108_30, x108_31, x108_32, rfl, h⟩
  refine Lp (V_move rfl rfl) rfl rfl ?_
  refine Lp (V_ext rfl rfl rfl) rfl rfl ?_
  refine Lp (V_ext rfl rfl rfl) rfl rfl ?_
  refine Lp (V_ext rfl rfl rfl) rfl rfl ?_
  refine Lp (V_asg rfl rfl) rfl rfl ?_
  refine Lp (V_asg rfl rfl) rfl rfl ?_
  refine Lp (V_asg rfl rfl) rfl rfl ?_
  refine Lnil ?_
  refine thenN ?_
  refine AW.seq ?_
  refine AW.seq ?_
  refine AW.reg ?_
  refine Lp (V_move rfl rfl) rfl rfl ?_
  refine Lp (V_neq rfl rfl rfl) rfl rfl ?_
  refine Lnil ?_
  refine thenN ?_
  refine AW.iff rfl (bnot_iff decide_eq_true_iff) h (fun h => ?_) (fun h => ?_)
  · refine AW.seq ?_
    refine AW.reg ?_
    refine Lp (V_move rfl rfl) rfl rfl ?_
    obtain ⟨p115_33, hc, h⟩ := h
    refine Lp (V_nil rfl (by rw [← hc]; rfl)) rfl rfl ?_
    refine Ls rfl rfl (X_st rfl ty4 rfl rfl rfl rfl (stN_mono h fun σ h => ?_))
    refine Lnil ?_
    refine thenN ?_
    refine AW.exit ?_
    refine thenE ?_
    refine blockO rfl ?_
    refine thenE ?_
    refine blockE ?_
    refine thenN ?_
    exact ⟨_, (FrLe.cons rfl (FrLe.cons rfl (FrLe.cons rfl (FrLe.nil _)))), h⟩
  refine AW.skip ?_
  refine thenN ?_
  refine AW.seq ?_
  refine AW.reg ?_
  refine Lp (V_move rfl rfl) rfl rfl ?_
  refine Lp (V_move rfl rfl) rfl rfl ?_
  refine Lp (V_nil rfl rfl) rfl rfl ?_
  refine Lp (V_fld rfl Tryz.underlying138 rfl ty44 (by decide) rfl) rfl rfl ?_
  obtain ⟨x120_34, hc, h⟩ := h
  refine Ls rfl rfl (X_ld rfl Tryz.underlying44 rfl rfl hc ?_)
  refine Lp (V_move rfl rfl) rfl rfl ?_
  refine Ls rfl rfl (X_new (A_bsl (vs := [(0, Sl.v x108_30)]) (cs := #[Sl.v x108_30]) rfl Tryz.underlying44 ty22 (by decide) rfl rfl) fun x122_35 g1 g2 => ?_)
  replace h := h x122_35 g1 g2
  refine Ls rfl rfl (X_bi (s := Builtin.append_ #[44, 44] 44 #[Sl.v x120_34, Sl.v (⟨some ⟨x122_35, 0, none⟩, 1, 1⟩ : Sl)]) rfl rfl (fun _ => rfl) (awp_mono _ h ?_))
  rintro v σ ⟨x123_36, rfl, h⟩
  refine Lp (V_nil rfl rfl) rfl rfl ?_
  refine Lp (V_fld rfl Tryz.underlying138 rfl ty44 (by decide) rfl) rfl rfl ?_
  refine Ls rfl rfl (X_st rfl ty44 rfl rfl rfl rfl (stN_mono h fun σ h => ?_))
  refine Lnil ?_
  refine thenN ?_
  refine AW.reg ?_
  refine Lp (V_move rfl rfl) rfl rfl ?_
  refine Lp (V_asg rfl rfl) rfl rfl ?_
  refine Lnil ?_
  refine blockN ?_
  refine thenN ?_
  refine ARound.head (fr' := [(0, .pointer a0), (2, .pointer a2), (7, Sl.v x31_6), (15, .pointer (some ⟨x100_20, 0, none⟩)), (10, .int .i64 x108_31)]) ?_ (FrLe.cons rfl (FrLe.cons rfl (FrLe.cons rfl (FrLe.cons rfl (FrLe.cons rfl (FrLe.nil _))))))
  exact hY28 _ _ h

def f_wal_place_file (B : World) (ro : AH) (a0_0 : Option Addr) (a0_1 : ByteArray) (a1 : Int) (σ : AH) (Q : ByteArray → AH → Prop) : Prop :=
 nw ro σ (.cells #[.pointer a0_0, .string a0_1] 128) fun x2_1 σ =>
 c_strconv_Itoa B ro a1 σ fun x7_2 σ =>
 lent σ fun ψ σ =>
  ∃ (x9_3 : ByteArray), acell (join ro ψ) (fun _ => none) ((⟨x2_1, 0, none⟩ : Addr).add 1) = some (.string x9_3) ∧
  x9_3.size + (⟨#[46]⟩ : ByteArray).size ≤ 9223372036854775807 ∧
  c_strings_Repeat B (join ro ψ) (⟨#[48]⟩ : ByteArray) (if 0 < IntKind.i64.wrap (6 - (x7_2.size : Int)) then IntKind.i64.wrap (6 - (x7_2.size : Int)) else 0) σ fun x15_4 σ =>
  (x9_3 ++ (⟨#[46]⟩ : ByteArray)).size + x15_4.size ≤ 9223372036854775807 ∧
  ((x9_3 ++ (⟨#[46]⟩ : ByteArray)) ++ x15_4).size + x7_2.size ≤ 9223372036854775807 ∧
  (Disj ψ σ → (fun σ => 
   Q (((x9_3 ++ (⟨#[46]⟩ : ByteArray)) ++ x15_4) ++ x7_2) σ) (join ψ σ))

set_option maxRecDepth 100000 in
set_option maxHeartbeats 4000000 in
theorem wal_place_file_ok {B : World} {ro : AH} {a0_0 : Option Addr} {a0_1 : ByteArray} {a1 : Int} {σ : AH} {Q : ByteArray → AH → Prop} (h : Sep ro σ → f_wal_place_file B ro a0_0 a0_1 a1 σ Q) : c_wal_place_file B ro a0_0 a0_1 a1 σ Q := by
  refine ACalls.of_sep fun hsep => ?_
  replace h := h hsep
  refine ACalls.of_body (args := [.agg #[.pointer a0_0, .string a0_1], .int .i64 a1]) Tryz.func70 rfl (by rw [Tryz.ntmps70]; simp) ?_
  rw [Tryz.ntmps70]
  unfold f_wal_place_file at h
  refine AW.seq ?_
  refine AW.reg ?_
  refine Ls rfl rfl (X_new (A_box rfl rfl) fun x2_1 g1 g2 => ?_)
  replace h := h x2_1 g1 g2
  refine Lp (V_asg rfl rfl) rfl rfl ?_
  refine Lnil ?_
  refine thenN ?_
  refine AW.seq ?_
  refine AW.reg ?_
  refine Lp (V_move rfl rfl) rfl rfl ?_
  refine Ls rfl rfl (X_call rfl Tryz.func75 rfl rfl rfl (ACalls.mono h ?_))
  rintro v σ ⟨x7_2, rfl, h⟩
  refine Lp (V_asg rfl rfl) rfl rfl ?_
  refine Lnil ?_
  refine thenN ?_
  refine AW.seq ?_
  refine AW.drawnL (fun i => ([0, 0, 0, 0, 0, 0, 0, 2, 0, 0, 0, 0] : List Nat).getD i 2) [] [0, 1, 2, 3, 4, 5, 6, 9, 7, 8, 10, 11] Tryz.mixed h (by decide +kernel) ?_
  clear h
  intro ψ σ h
  refine Dp rfl rfl rfl rfl (V_fld rfl Tryz.underlying128 rfl ty9 (by decide) rfl) ?_
  obtain ⟨x9_3, hc, h⟩ := h
  refine Dp rfl rfl rfl rfl (V_ld rfl Tryz.underlying9 rfl rfl hc) ?_
  obtain ⟨hc, h⟩ := h
  refine Dp rfl rfl rfl rfl (V_cat rfl rfl rfl hc) ?_
  refine Dp rfl rfl rfl rfl (V_move rfl rfl) ?_
  refine Dp rfl rfl rfl rfl (V_lenS rfl rfl Tryz.underlying9 rfl rfl) ?_
  refine Dp rfl rfl rfl rfl (V_sub rfl rfl rfl) ?_
  refine Dp rfl rfl rfl rfl (V_max2 rfl rfl) ?_
  refine Dp rfl rfl rfl rfl (V_move rfl rfl) ?_
  refine Dg rfl rfl rfl rfl (X_call rfl Tryz.func98 rfl rfl rfl (ACalls.mono h ?_))
  rintro v σ ⟨x15_4, rfl, h⟩
  obtain ⟨hc, h⟩ := h
  refine Dp rfl rfl rfl rfl (V_cat rfl rfl rfl hc) ?_
  obtain ⟨hc, h⟩ := h
  refine Dp rfl rfl rfl rfl (V_cat rfl rfl rfl hc) ?_
  refine Dp rfl rfl rfl rfl (V_asg rfl rfl) ?_
  refine ⟨_, FrEq.refl _, fun hdj => ?_⟩
  replace h := h hdj
  refine thenN ?_
  refine AW.ret ?_
  exact bR1 Tryz.results70 rfl ⟨_, rfl, h⟩

def f_wal_Log_cut (B : World) (ro : AH) (a0 : Option Addr) (σ : AH) (Q : Int → AH → Prop) : Prop :=
 ∃ p8_1 : Addr, a0 = some p8_1 ∧
 ∃ (x10_2 : Sl), acell ro σ (p8_1.add 3) = some (Sl.v x10_2) ∧
 if (x10_2.len : Int) = 0 then
  Q 0 σ
 else
 ∃ p14_3 : Addr, a0 = some p14_3 ∧
 ∃ p18_4 : Addr, a0 = some p18_4 ∧
 ∃ (x16_5 : Sl), acell ro σ (p14_3.add 3) = some (Sl.v x16_5) ∧
 ∃ (x20_6 : Sl), acell ro σ (p18_4.add 3) = some (Sl.v x20_6) ∧
 ∃ p23_7 : Addr, x16_5.a = some p23_7 ∧ (0 : Int) ≤ (IntKind.i64.wrap ((x20_6.len : Int) - 1)) ∧ (IntKind.i64.wrap ((x20_6.len : Int) - 1)) < (x16_5.len : Int) ∧
 ∃ (x24_8 : Option Addr), acell ro σ (p23_7.add (Int.toNat (IntKind.i64.wrap ((x20_6.len : Int) - 1)) * 1)) = some (.pointer x24_8) ∧
 lent σ fun ψ σ =>
  ∃ p27_9 : Addr, a0 = some p27_9 ∧
  ∃ (x30_10 : Option Addr), acell (join ro ψ) (fun _ => none) p27_9 = some (.pointer x30_10) ∧
  ∃ p32_11 : Addr, a0 = some p32_11 ∧
  ∃ p36_12 : Addr, x24_8 = some p36_12 ∧
  ∃ (x34_13a : Option Addr) (x34_13b : ByteArray), cellsAt (join ro ψ) σ p32_11 0 [.pointer x34_13a, .string x34_13b] ∧
  ∃ (x38_14 : Int), acell (join ro ψ) σ p36_12 = some (.int .i64 x38_14) ∧
  c_wal_place_file B (join ro ψ) x34_13a x34_13b x38_14 σ fun x39_15 σ =>
  c_disk_Disk_Read B (join ro ψ) x30_10 x39_15 σ fun x40_16 x40_17 σ =>
  (Disj ψ σ → (fun σ => 
   ∃ p46_18 : Addr, x24_8 = some p46_18 ∧
   ∃ (x48_19 : Int), acell ro σ (p46_18.add 3) = some (.int .i64 x48_19) ∧
   if (x40_16.len : Int) = x48_19 then
    Q 0 σ
   else
   lent σ fun ψ σ =>
    ∃ p51_20 : Addr, a0 = some p51_20 ∧
    ∃ (x54_21 : Option Addr), acell (join ro ψ) (fun _ => none) p51_20 = some (.pointer x54_21) ∧
    ∃ p56_22 : Addr, a0 = some p56_22 ∧
    ∃ p62_23 : Addr, x24_8 = some p62_23 ∧
    ∃ (x64_24 : Int), acell (join ro ψ) (fun _ => none) (p62_23.add 3) = some (.int .i64 x64_24) ∧
    cutOk none (some x64_24) x40_16.len x40_16.cap ∧
    ∃ (x58_25a : Option Addr) (x58_25b : ByteArray), cellsAt (join ro ψ) σ p56_22 0 [.pointer x58_25a, .string x58_25b] ∧
    c_wal_place_cutFile B (join ro ψ) x58_25a x58_25b σ fun x59_26 σ =>
    c_disk_Disk_Append B (join ro ψ) x54_21 x59_26 (⟨cutA x40_16.a (0) x40_16.cap 1, Int.toNat x64_24 - 0, x40_16.cap - 0⟩ : Sl) σ fun x66_27 σ =>
    (Disj ψ σ → (fun σ => 
     if ¬ (x66_27 = 0) then
      Q x66_27 σ
     else
     lent σ fun ψ σ =>
      ∃ p71_28 : Addr, a0 = some p71_28 ∧
      ∃ (x74_29 : Option Addr), acell (join ro ψ) (fun _ => none) p71_28 = some (.pointer x74_29) ∧
      ∃ p76_30 : Addr, a0 = some p76_30 ∧
      ∃ (x78_31a : Option Addr) (x78_31b : ByteArray), cellsAt (join ro ψ) σ p76_30 0 [.pointer x78_31a, .string x78_31b] ∧
      c_wal_place_cutFile B (join ro ψ) x78_31a x78_31b σ fun x79_32 σ =>
      nw (join ro ψ) σ (.cells #[.string x79_32] 9) fun x80_33 σ =>
      c_disk_Disk_Sync B (join ro ψ) x74_29 (⟨some ⟨x80_33, 0, none⟩, 1, 1⟩ : Sl) σ fun x81_34 σ =>
      (Disj ψ σ → (fun σ => 
       lent σ fun ψ σ =>
        ∃ p83_35 : Addr, a0 = some p83_35 ∧
        ∃ (x86_36 : Option Addr), acell (join ro ψ) (fun _ => none) p83_35 = some (.pointer x86_36) ∧
        ∃ p88_37 : Addr, a0 = some p88_37 ∧
        ∃ p93_38 : Addr, a0 = some p93_38 ∧
        ∃ (x95_39a : Option Addr) (x95_39b : ByteArray), cellsAt (join ro ψ) (fun _ => none) p93_38 0 [.pointer x95_39a, .string x95_39b] ∧
        ∃ p97_40 : Addr, x24_8 = some p97_40 ∧
        ∃ (x99_41 : Int), acell (join ro ψ) (fun _ => none) p97_40 = some (.int .i64 x99_41) ∧
        ∃ (x90_42a : Option Addr) (x90_42b : ByteArray), cellsAt (join ro ψ) σ p88_37 0 [.pointer x90_42a, .string x90_42b] ∧
        c_wal_place_cutFile B (join ro ψ) x90_42a x90_42b σ fun x91_43 σ =>
        c_wal_place_file B (join ro ψ) x95_39a x95_39b x99_41 σ fun x100_44 σ =>
        c_disk_Disk_Rename B (join ro ψ) x86_36 x91_43 x100_44 σ fun x101_45 σ =>
        (Disj ψ σ → (fun σ => 
         Q x101_45 σ) (join ψ σ))) (join ψ σ))) (join ψ σ))) (join ψ σ))

set_option maxRecDepth 100000 in
set_option maxHeartbeats 4000000 in
theorem wal_Log_cut_ok {B : World} {ro : AH} {a0 : Option Addr} {σ : AH} {Q : Int → AH → Prop} (h : Sep ro σ → f_wal_Log_cut B ro a0 σ Q) : c_wal_Log_cut B ro a0 σ Q := by
  refine ACalls.of_sep fun hsep => ?_
  replace h := h hsep
  refine ACalls.of_body (args := [.pointer a0]) Tryz.func71 rfl (by rw [Tryz.ntmps71]; simp) ?_
  rw [Tryz.ntmps71]
  unfold f_wal_Log_cut at h
  refine AW.seq ?_
  refine AW.reg ?_
  refine Lp (V_asg rfl rfl) rfl rfl ?_
  refine Lnil ?_
  refine thenN ?_
  refine AW.seq ?_
  refine AW.seq ?_
  refine AW.reg ?_
  refine Lp (V_move rfl rfl) rfl rfl ?_
  obtain ⟨p8_1, hc, h⟩ := h
  refine Lp (V_nil rfl (by rw [← hc]; rfl)) rfl rfl ?_
  refine Lp (V_fld rfl Tryz.underlying131 rfl ty129 (by decide) rfl) rfl rfl ?_
  obtain ⟨x10_2, hc, h⟩ := h
  refine Ls rfl rfl (X_ld rfl Tryz.underlying129 rfl rfl hc ?_)
  refine Lp (V_lenL rfl rfl Tryz.underlying129 rfl rfl) rfl rfl ?_
  refine Lp (V_eql rfl rfl rfl) rfl rfl ?_
  refine Lnil ?_
  refine thenN ?_
  refine AW.iff rfl decide_eq_true_iff h (fun h => ?_) (fun h => ?_)
  · refine AW.seq ?_
    refine AW.reg ?_
    refine Lp (V_asg rfl rfl) rfl rfl ?_
    refine Lnil ?_
    refine thenN ?_
    refine AW.ret ?_
    refine thenR ?_
    exact bR1 Tryz.results71 rfl ⟨_, rfl, h⟩
  refine AW.skip ?_
  refine thenN ?_
  refine AW.seq ?_
  refine AW.drawn0 (fun i => ([0, 0, 0, 3, 0, 0, 0, 3, 0, 0, 0, 3, 0] : List Nat).getD i 2) [] [0, 1, 2, 4, 5, 6, 3, 7, 8, 9, 10, 11, 12] Tryz.mixed (by decide +kernel) ?_
  refine Dp rfl rfl rfl rfl (V_move rfl rfl) ?_
  obtain ⟨p14_3, hc, h⟩ := h
  refine Dp rfl rfl rfl rfl (V_nil rfl (by rw [← hc]; rfl)) ?_
  refine Dp rfl rfl rfl rfl (V_fld rfl Tryz.underlying131 rfl ty129 (by decide) rfl) ?_
  refine Dp rfl rfl rfl rfl (V_move rfl rfl) ?_
  obtain ⟨p18_4, hc, h⟩ := h
  refine Dp rfl rfl rfl rfl (V_nil rfl (by rw [← hc]; rfl)) ?_
  refine Dp rfl rfl rfl rfl (V_fld rfl Tryz.underlying131 rfl ty129 (by decide) rfl) ?_
  obtain ⟨x16_5, hc, h⟩ := h
  refine Dr rfl rfl rfl rfl (R_ld rfl Tryz.underlying129 rfl rfl hc) ?_
  obtain ⟨x20_6, hc, h⟩ := h
  refine Dr rfl rfl rfl rfl (R_ld rfl Tryz.underlying129 rfl rfl hc) ?_
  refine Dp rfl rfl rfl rfl (V_lenL rfl rfl Tryz.underlying129 rfl rfl) ?_
  refine Dp rfl rfl rfl rfl (V_sub rfl rfl rfl) ?_
  obtain ⟨p23_7, ha, h0, h1, h⟩ := h
  refine Dp rfl rfl rfl rfl (V_ixA rfl Tryz.underlying129 ty136 (ixL rfl ha) rfl h0 h1) ?_
  obtain ⟨x24_8, hc, h⟩ := h
  refine Dr rfl rfl rfl rfl (R_ld rfl Tryz.underlying136 rfl rfl hc) ?_
  refine Dp rfl rfl rfl rfl (V_asg rfl rfl) ?_
  refine Dend ?_
  refine thenN ?_
  refine AW.seq ?_
  refine AW.drawnL (fun i => ([0, 0, 0, 0, 0, 0, 0, 0, 3, 0, 0, 0, 3, 2, 2, 0, 0, 0, 0, 0] : List Nat).getD i 2) [(8, 13), (8, 14), (12, 13), (12, 14)] [0, 1, 2, 3, 4, 5, 6, 7, 9, 10, 11, 8, 12, 13, 14, 15, 16, 17, 18, 19] Tryz.mixed h (by decide +kernel) ?_
  clear h
  intro ψ σ h
  refine Dp rfl rfl rfl rfl (V_move rfl rfl) ?_
  obtain ⟨p27_9, hc, h⟩ := h
  refine Dp rfl rfl rfl rfl (V_nil rfl (by rw [← hc]; rfl)) ?_
  refine Dp rfl rfl rfl rfl (V_fld rfl Tryz.underlying131 rfl ty128 (by decide) rfl) ?_
  refine Dp rfl rfl rfl rfl (V_fld rfl Tryz.underlying128 rfl ty26 (by decide) rfl) ?_
  obtain ⟨x30_10, hc, h⟩ := h
  refine Dp rfl rfl rfl rfl (V_ld rfl Tryz.underlying26 rfl rfl hc) ?_
  refine Dp rfl rfl rfl rfl (V_move rfl rfl) ?_
  obtain ⟨p32_11, hc, h⟩ := h
  refine Dp rfl rfl rfl rfl (V_nil rfl (by rw [← hc]; rfl)) ?_
  refine Dp rfl rfl rfl rfl (V_fld rfl Tryz.underlying131 rfl ty128 (by decide) rfl) ?_
  refine Dp rfl rfl rfl rfl (V_move rfl rfl) ?_
  obtain ⟨p36_12, hc, h⟩ := h
  refine Dp rfl rfl rfl rfl (V_nil rfl (by rw [← hc]; rfl)) ?_
  refine Dp rfl rfl rfl rfl (V_fld rfl Tryz.underlying138 rfl ty3 (by decide) rfl) ?_
  obtain ⟨x34_13a, x34_13b, hc, h⟩ := h
  refine Dr rfl rfl rfl rfl (R_lda rfl Tryz.underlying128 rfl ty128 rfl hc) ?_
  obtain ⟨x38_14, hc, h⟩ := h
  refine Dr rfl rfl rfl rfl (R_ld rfl Tryz.underlying3 rfl rfl hc) ?_
  refine Dg rfl rfl rfl rfl (X_call rfl Tryz.func70 rfl rfl rfl (ACalls.mono h ?_))
  rintro v σ ⟨x39_15, rfl, h⟩
  refine Dg rfl rfl rfl rfl (X_call rfl Tryz.func51 rfl rfl rfl (ACalls.mono h ?_))
  rintro v σ ⟨x40_16, x40_17, rfl, h⟩
  refine Dp rfl rfl rfl rfl (V_move rfl rfl) ?_
  refine Dp rfl rfl rfl rfl (V_ext rfl rfl rfl) ?_
  refine Dp rfl rfl rfl rfl (V_ext rfl rfl rfl) ?_
  refine Dp rfl rfl rfl rfl (V_asg rfl rfl) ?_
  refine Dp rfl rfl rfl rfl (V_asg rfl rfl) ?_
  refine ⟨_, FrEq.refl _, fun hdj => ?_⟩
  replace h := h hdj
  refine thenN ?_
  refine AW.seq ?_
  refine AW.seq ?_
  refine AW.reg ?_
  refine Lp (V_move rfl rfl) rfl rfl ?_
  refine Lp (V_lenL rfl rfl Tryz.underlying22 rfl rfl) rfl rfl ?_
  refine Lp (V_move rfl rfl) rfl rfl ?_
  obtain ⟨p46_18, hc, h⟩ := h
  refine Lp (V_nil rfl (by rw [← hc]; rfl)) rfl rfl ?_
  refine Lp (V_fld rfl Tryz.underlying138 rfl ty3 (by decide) rfl) rfl rfl ?_
  obtain ⟨x48_19, hc, h⟩ := h
  refine Ls rfl rfl (X_ld rfl Tryz.underlying3 rfl rfl hc ?_)
  refine Lp (V_eql rfl rfl rfl) rfl rfl ?_
  refine Lnil ?_
  refine thenN ?_
  refine AW.iff rfl decide_eq_true_iff h (fun h => ?_) (fun h => ?_)
  · refine AW.seq ?_
    refine AW.reg ?_
    refine Lp (V_asg rfl rfl) rfl rfl ?_
    refine Lnil ?_
    refine thenN ?_
    refine AW.ret ?_
    refine thenR ?_
    exact bR1 Tryz.results71 rfl ⟨_, rfl, h⟩
  refine AW.skip ?_
  refine thenN ?_
  refine AW.seq ?_
  refine AW.seq ?_
  refine AW.drawnL (fun i => ([0, 0, 0, 0, 0, 0, 0, 0, 3, 2, 0, 0, 0, 0, 0, 0, 2, 0] : List Nat).getD i 2) [(8, 9), (8, 16)] [0, 1, 2, 3, 4, 5, 6, 7, 10, 11, 12, 13, 14, 15, 8, 9, 16, 17] Tryz.mixed h (by decide +kernel) ?_
  clear h
  intro ψ σ h
  refine Dp rfl rfl rfl rfl (V_move rfl rfl) ?_
  obtain ⟨p51_20, hc, h⟩ := h
  refine Dp rfl rfl rfl rfl (V_nil rfl (by rw [← hc]; rfl)) ?_
  refine Dp rfl rfl rfl rfl (V_fld rfl Tryz.underlying131 rfl ty128 (by decide) rfl) ?_
  refine Dp rfl rfl rfl rfl (V_fld rfl Tryz.underlying128 rfl ty26 (by decide) rfl) ?_
  obtain ⟨x54_21, hc, h⟩ := h
  refine Dp rfl rfl rfl rfl (V_ld rfl Tryz.underlying26 rfl rfl hc) ?_
  refine Dp rfl rfl rfl rfl (V_move rfl rfl) ?_
  obtain ⟨p56_22, hc, h⟩ := h
  refine Dp rfl rfl rfl rfl (V_nil rfl (by rw [← hc]; rfl)) ?_
  refine Dp rfl rfl rfl rfl (V_fld rfl Tryz.underlying131 rfl ty128 (by decide) rfl) ?_
  refine Dp rfl rfl rfl rfl (V_move rfl rfl) ?_
  refine Dp rfl rfl rfl rfl (V_move rfl rfl) ?_
  obtain ⟨p62_23, hc, h⟩ := h
  refine Dp rfl rfl rfl rfl (V_nil rfl (by rw [← hc]; rfl)) ?_
  refine Dp rfl rfl rfl rfl (V_fld rfl Tryz.underlying138 rfl ty3 (by decide) rfl) ?_
  obtain ⟨x64_24, hc, h⟩ := h
  refine Dp rfl rfl rfl rfl (V_ld rfl Tryz.underlying3 rfl rfl hc) ?_
  obtain ⟨hc, h⟩ := h
  refine Dp rfl rfl rfl rfl (V_slL (lo := none) (hi := (some x64_24)) rfl Tryz.underlying22 ty5 rfl optI_none (optI_some rfl) hc) ?_
  obtain ⟨x58_25a, x58_25b, hc, h⟩ := h
  refine Dr rfl rfl rfl rfl (R_lda rfl Tryz.underlying128 rfl ty128 rfl hc) ?_
  refine Dg rfl rfl rfl rfl (X_call rfl Tryz.func67 rfl rfl rfl (ACalls.mono h ?_))
  rintro v σ ⟨x59_26, rfl, h⟩
  refine Dg rfl rfl rfl rfl (X_call rfl Tryz.func43 rfl rfl rfl (ACalls.mono h ?_))
  rintro v σ ⟨x66_27, rfl, h⟩
  refine Dp rfl rfl rfl rfl (V_asg rfl rfl) ?_
  refine ⟨_, FrEq.refl _, fun hdj => ?_⟩
  replace h := h hdj
  refine thenN ?_
  refine AW.seq ?_
  refine AW.reg ?_
  refine Lp (V_move rfl rfl) rfl rfl ?_
  refine Lp (V_neq rfl rfl rfl) rfl rfl ?_
  refine Lnil ?_
  refine thenN ?_
  refine AW.iff rfl (bnot_iff decide_eq_true_iff) h (fun h => ?_) (fun h => ?_)
  · refine AW.seq ?_
    refine AW.reg ?_
    refine Lp (V_move rfl rfl) rfl rfl ?_
    refine Lp (V_asg rfl rfl) rfl rfl ?_
    refine Lnil ?_
    refine thenN ?_
    refine AW.ret ?_
    refine thenR ?_
    exact bR1 Tryz.results71 rfl ⟨_, rfl, h⟩
  refine AW.skip ?_
  refine thenN ?_
  refine AW.seq ?_
  refine AW.drawnL (fun i => ([0, 0, 0, 0, 0, 0, 0, 0, 3, 2, 1, 2] : List Nat).getD i 2) [(8, 9), (8, 10), (8, 11)] [0, 1, 2, 3, 4, 5, 6, 7, 8, 9, 10, 11] Tryz.mixed h (by decide +kernel) ?_
  clear h
  intro ψ σ h
  refine Dp rfl rfl rfl rfl (V_move rfl rfl) ?_
  obtain ⟨p71_28, hc, h⟩ := h
  refine Dp rfl rfl rfl rfl (V_nil rfl (by rw [← hc]; rfl)) ?_
  refine Dp rfl rfl rfl rfl (V_fld rfl Tryz.underlying131 rfl ty128 (by decide) rfl) ?_
  refine Dp rfl rfl rfl rfl (V_fld rfl Tryz.underlying128 rfl ty26 (by decide) rfl) ?_
  obtain ⟨x74_29, hc, h⟩ := h
  refine Dp rfl rfl rfl rfl (V_ld rfl Tryz.underlying26 rfl rfl hc) ?_
  refine Dp rfl rfl rfl rfl (V_move rfl rfl) ?_
  obtain ⟨p76_30, hc, h⟩ := h
  refine Dp rfl rfl rfl rfl (V_nil rfl (by rw [← hc]; rfl)) ?_
  refine Dp rfl rfl rfl rfl (V_fld rfl Tryz.underlying131 rfl ty128 (by decide) rfl) ?_
  obtain ⟨x78_31a, x78_31b, hc, h⟩ := h
  refine Dr rfl rfl rfl rfl (R_lda rfl Tryz.underlying128 rfl ty128 rfl hc) ?_
  refine Dg rfl rfl rfl rfl (X_call rfl Tryz.func67 rfl rfl rfl (ACalls.mono h ?_))
  rintro v σ ⟨x79_32, rfl, h⟩
  refine Da rfl rfl rfl rfl (A_bsl (vs := [(0, .string x79_32)]) (cs := #[.string x79_32]) rfl Tryz.underlying83 ty9 (by decide) rfl rfl) fun x80_33 g1 g2 => ?_
  replace h := h x80_33 g1 g2
  refine Dg rfl rfl rfl rfl (X_call rfl Tryz.func44 rfl rfl rfl (ACalls.mono h ?_))
  rintro v σ ⟨x81_34, rfl, h⟩
  refine ⟨_, FrEq.refl _, fun hdj => ?_⟩
  replace h := h hdj
  refine thenN ?_
  refine AW.seq ?_
  refine AW.drawnL (fun i => ([0, 0, 0, 0, 0, 0, 0, 0, 3, 2, 0, 0, 0, 0, 0, 0, 0, 0, 2, 2, 0] : List Nat).getD i 2) [(8, 9), (8, 18), (8, 19)] [0, 1, 2, 3, 4, 5, 6, 7, 10, 11, 12, 13, 14, 15, 16, 17, 8, 9, 18, 19, 20] Tryz.mixed h (by decide +kernel) ?_
  clear h
  intro ψ σ h
  refine Dp rfl rfl rfl rfl (V_move rfl rfl) ?_
  obtain ⟨p83_35, hc, h⟩ := h
  refine Dp rfl rfl rfl rfl (V_nil rfl (by rw [← hc]; rfl)) ?_
  refine Dp rfl rfl rfl rfl (V_fld rfl Tryz.underlying131 rfl ty128 (by decide) rfl) ?_
  refine Dp rfl rfl rfl rfl (V_fld rfl Tryz.underlying128 rfl ty26 (by decide) rfl) ?_
  obtain ⟨x86_36, hc, h⟩ := h
  refine Dp rfl rfl rfl rfl (V_ld rfl Tryz.underlying26 rfl rfl hc) ?_
  refine Dp rfl rfl rfl rfl (V_move rfl rfl) ?_
  obtain ⟨p88_37, hc, h⟩ := h
  refine Dp rfl rfl rfl rfl (V_nil rfl (by rw [← hc]; rfl)) ?_
  refine Dp rfl rfl rfl rfl (V_fld rfl Tryz.underlying131 rfl ty128 (by decide) rfl) ?_
  refine Dp rfl rfl rfl rfl (V_move rfl rfl) ?_
  obtain ⟨p93_38, hc, h⟩ := h
  refine Dp rfl rfl rfl rfl (V_nil rfl (by rw [← hc]; rfl)) ?_
  refine Dp rfl rfl rfl rfl (V_fld rfl Tryz.underlying131 rfl ty128 (by decide) rfl) ?_
  obtain ⟨x95_39a, x95_39b, hc, h⟩ := h
  refine Dp rfl rfl rfl rfl (V_lda rfl Tryz.underlying128 rfl ty128 rfl hc) ?_
  refine Dp rfl rfl rfl rfl (V_move rfl rfl) ?_
  obtain ⟨p97_40, hc, h⟩ := h
  refine Dp rfl rfl rfl rfl (V_nil rfl (by rw [← hc]; rfl)) ?_
  refine Dp rfl rfl rfl rfl (V_fld rfl Tryz.underlying138 rfl ty3 (by decide) rfl) ?_
  obtain ⟨x99_41, hc, h⟩ := h
  refine Dp rfl rfl rfl rfl (V_ld rfl Tryz.underlying3 rfl rfl hc) ?_
  obtain ⟨x90_42a, x90_42b, hc, h⟩ := h
  refine Dr rfl rfl rfl rfl (R_lda rfl Tryz.underlying128 rfl ty128 rfl hc) ?_
  refine Dg rfl rfl rfl rfl (X_call rfl Tryz.func67 rfl rfl rfl (ACalls.mono h ?_))
  rintro v σ ⟨x91_43, rfl, h⟩
  refine Dg rfl rfl rfl rfl (X_call rfl Tryz.func70 rfl rfl rfl (ACalls.mono h ?_))
  rintro v σ ⟨x100_44, rfl, h⟩
  refine Dg rfl rfl rfl rfl (X_call rfl Tryz.func45 rfl rfl rfl (ACalls.mono h ?_))
  rintro v σ ⟨x101_45, rfl, h⟩
  refine Dp rfl rfl rfl rfl (V_asg rfl rfl) ?_
  refine ⟨_, FrEq.refl _, fun hdj => ?_⟩
  replace h := h hdj
  refine thenN ?_
  refine AW.ret ?_
  exact bR1 Tryz.results71 rfl ⟨_, rfl, h⟩

def j13_wal_Log_write (B : World) (ro : AH) (a0 : Option Addr) (a1 : Sl) (x54_12 : Nat) (Q : Int → AH → Prop) (σ : AH) : Prop :=
 ∃ (x82_14 : Int), acell ro σ ⟨x54_12, 0, none⟩ = some (.int .i64 x82_14) ∧
 if 999999 < x82_14 then
  Q 32 σ
 else
 ∃ (x88_15 : Int), acell ro σ ((⟨x54_12, 0, none⟩ : Addr).add 1) = some (.int .i64 x88_15) ∧
 nw ro σ (.cells #[.int .i64 x88_15] 3) fun x89_16 σ =>
 c_wire_Numbers B ro (⟨some ⟨x89_16, 0, none⟩, 1, 1⟩ : Sl) σ fun x90_17 x90_18 σ =>
 c_wal_frame B ro x90_17 σ fun x96_19 σ =>
 c_wal_frame B ro a1 σ fun x98_20 σ =>
 awp Tryz.prog ro (Builtin.append_ #[22, 22] 22 #[Sl.v x96_19, Sl.v x98_20]) (fun v σ => ∃ (x99_21 : Sl), v = Sl.v x99_21 ∧
  c_wal_Log_lay B ro a0 (some ⟨x54_12, 0, none⟩) x99_21 a1 σ fun x101_22 σ =>
  if ¬ (x101_22 = 0) then
   Q x101_22 σ
  else
  ∃ p107_23 : Addr, a0 = some p107_23 ∧
  ∃ (x109_24 : Sl), acell ro σ (p107_23.add 3) = some (Sl.v x109_24) ∧
  nw ro σ (.cells #[.pointer (some ⟨x54_12, 0, none⟩)] 136) fun x111_25 σ =>
  awp Tryz.prog ro (Builtin.append_ #[129, 129] 129 #[Sl.v x109_24, Sl.v (⟨some ⟨x111_25, 0, none⟩, 1, 1⟩ : Sl)]) (fun v σ => ∃ (x112_26 : Sl), v = Sl.v x112_26 ∧
   ∃ p113_27 : Addr, a0 = some p113_27 ∧
   stN (p113_27.add 3) (fun σ =>
    Q 0 σ) [Sl.v x112_26] 0 σ) σ) σ

def j3_wal_Log_write (B : World) (ro : AH) (a0 : Option Addr) (a1 : Sl) (x15_2 : Sl) (Q : Int → AH → Prop) (x36_4 : Bool) (σ : AH) : Prop :=
 if x36_4 = true then
  ∃ p38_5 : Addr, a0 = some p38_5 ∧
  ∃ (x40_6 : Sl), acell ro σ (p38_5.add 3) = some (Sl.v x40_6) ∧
  ∃ p43_7 : Addr, x40_6.a = some p43_7 ∧ (0 : Int) ≤ (IntKind.i64.wrap ((x15_2.len : Int) - 1)) ∧ (IntKind.i64.wrap ((x15_2.len : Int) - 1)) < (x40_6.len : Int) ∧
  ∃ (x44_8 : Option Addr), acell ro σ (p43_7.add (Int.toNat (IntKind.i64.wrap ((x15_2.len : Int) - 1)) * 1)) = some (.pointer x44_8) ∧
  c_wal_frame B ro a1 σ fun x48_9 σ =>
  c_wal_Log_lay B ro a0 x44_8 x48_9 a1 σ fun x50_10 σ =>
  Q x50_10 σ
 else
 c_wal_Log_Next B ro a0 σ fun x52_11 σ =>
 nw ro σ (.cells #[.int .i64 1, .int .i64 x52_11, Sl.v (⟨none, 0, 0⟩ : Sl), .int .i64 0] 138) fun x54_12 σ =>
 ∃ p56_28 : Addr, a0 = some p56_28 ∧
 ∃ (x58_29 : Sl), acell ro σ (p56_28.add 3) = some (Sl.v x58_29) ∧
 if 0 < (x58_29.len : Int) then
  ∃ p64_30 : Addr, a0 = some p64_30 ∧
  ∃ (x66_31 : Sl), acell ro σ (p64_30.add 3) = some (Sl.v x66_31) ∧
  ∃ p69_32 : Addr, x66_31.a = some p69_32 ∧ (0 : Int) ≤ (IntKind.i64.wrap ((x58_29.len : Int) - 1)) ∧ (IntKind.i64.wrap ((x58_29.len : Int) - 1)) < (x66_31.len : Int) ∧
  ∃ (x70_33 : Option Addr), acell ro σ (p69_32.add (Int.toNat (IntKind.i64.wrap ((x58_29.len : Int) - 1)) * 1)) = some (.pointer x70_33) ∧
  ∃ p71_34 : Addr, x70_33 = some p71_34 ∧
  ∃ (x73_35 : Int), acell ro σ p71_34 = some (.int .i64 x73_35) ∧
  stN ⟨x54_12, 0, none⟩ (fun σ =>
   c_wal_Log_Sync B ro a0 σ fun x78_36 σ =>
   j13_wal_Log_write B ro a0 a1 x54_12 Q σ) [.int .i64 (IntKind.i64.wrap (x73_35 + 1))] 0 σ
 else
 j13_wal_Log_write B ro a0 a1 x54_12 Q σ

def f_wal_Log_write (B : World) (ro : AH) (a0 : Option Addr) (a1 : Sl) (σ : AH) (Q : Int → AH → Prop) : Prop :=
 ∃ p13_1 : Addr, a0 = some p13_1 ∧
 ∃ (x15_2 : Sl), acell ro σ (p13_1.add 3) = some (Sl.v x15_2) ∧
 if 0 < (x15_2.len : Int) then
  ∃ p21_37 : Addr, a0 = some p21_37 ∧
  ∃ p32_38 : Addr, a0 = some p32_38 ∧
  ∃ (x23_39 : Sl), acell ro σ (p21_37.add 3) = some (Sl.v x23_39) ∧
  ∃ p26_40 : Addr, x23_39.a = some p26_40 ∧ (0 : Int) ≤ (IntKind.i64.wrap ((x15_2.len : Int) - 1)) ∧ (IntKind.i64.wrap ((x15_2.len : Int) - 1)) < (x23_39.len : Int) ∧
  ∃ (x27_41 : Option Addr), acell ro σ (p26_40.add (Int.toNat (IntKind.i64.wrap ((x15_2.len : Int) - 1)) * 1)) = some (.pointer x27_41) ∧
  ∃ p28_42 : Addr, x27_41 = some p28_42 ∧
  ∃ (x30_43 : Int), acell ro σ (p28_42.add 3) = some (.int .i64 x30_43) ∧
  ∃ (x34_44 : Int), acell ro σ (p32_38.add 2) = some (.int .i64 x34_44) ∧
  j3_wal_Log_write B ro a0 a1 x15_2 Q (decide (x30_43 < x34_44)) σ
 else
 j3_wal_Log_write B ro a0 a1 x15_2 Q false σ

set_option maxRecDepth 100000 in
set_option maxHeartbeats 4000000 in
theorem wal_Log_write_ok {B : World} {ro : AH} {a0 : Option Addr} {a1 : Sl} {σ : AH} {Q : Int → AH → Prop} (h : Sep ro σ → f_wal_Log_write B ro a0 a1 σ Q) : c_wal_Log_write B ro a0 a1 σ Q := by
  refine ACalls.of_sep fun hsep => ?_
  replace h := h hsep
  refine ACalls.of_body (args := [.pointer a0, Sl.v a1]) Tryz.func72 rfl (by rw [Tryz.ntmps72]; simp) ?_
  rw [Tryz.ntmps72]
  unfold f_wal_Log_write at h
  refine AW.seq ?_
  refine AW.reg ?_
  refine Lp (V_asg rfl rfl) rfl rfl ?_
  refine Lnil ?_
  refine thenN ?_
  refine AW.seq ?_
  refine AW.seq ?_
  refine AW.reg ?_
  refine Lp (V_move rfl rfl) rfl rfl ?_
  obtain ⟨p13_1, hc, h⟩ := h
  refine Lp (V_nil rfl (by rw [← hc]; rfl)) rfl rfl ?_
  refine Lp (V_fld rfl Tryz.underlying131 rfl ty129 (by decide) rfl) rfl rfl ?_
  obtain ⟨x15_2, hc, h⟩ := h
  refine Ls rfl rfl (X_ld rfl Tryz.underlying129 rfl rfl hc ?_)
  refine Lp (V_lenL rfl rfl Tryz.underlying129 rfl rfl) rfl rfl ?_
  refine Lp (V_asg rfl rfl) rfl rfl ?_
  refine Lnil ?_
  refine thenN ?_
  refine AW.seqJ (fun fr σ => ∃ (x36_4 : Bool), FrLe [(0, .pointer a0), (1, Sl.v a1), (5, .int .i64 (x15_2.len : Int)), (36, .bool x36_4)] fr ∧ j3_wal_Log_write B ro a0 a1 x15_2 Q x36_4 σ) ?_ ?_
  rotate_left
  · refine AW.drawn0 (fun i => ([0, 0, 0, 0, 0, 0, 3, 0, 0, 0, 3, 0, 0, 3, 0, 0, 0, 3, 0, 0] : List Nat).getD i 2) [] [0, 1, 2, 3, 4, 5, 7, 8, 14, 15, 16, 6, 9, 10, 11, 12, 13, 17, 18, 19] Tryz.mixed (by decide +kernel) ?_
    refine Dp rfl rfl rfl rfl (V_move rfl rfl) ?_
    refine Dp rfl rfl rfl rfl (V_gtr rfl rfl rfl) ?_
    refine Dp rfl rfl rfl rfl (V_move rfl rfl) ?_
    refine splitP (decide (0 < (x15_2.len : Int))) decide_eq_true_iff h ?_ ?_
    rotate_left
    · intro h e2
      refine Dpn rfl rfl rfl rfl rfl (.inl (by rw [e2]; rfl)) rfl ?_
      refine Dpn rfl rfl rfl rfl rfl (.inl (by rw [e2]; rfl)) rfl ?_
      refine Dpn rfl rfl rfl rfl rfl (.inl (by rw [e2]; rfl)) rfl ?_
      refine Dpn rfl rfl rfl rfl rfl (.inl (by rw [e2]; rfl)) rfl ?_
      refine Dpn rfl rfl rfl rfl rfl (.inl (by rw [e2]; rfl)) rfl ?_
      refine Dpn rfl rfl rfl rfl rfl (.inl (by rw [e2]; rfl)) rfl ?_
      refine Dpn rfl rfl rfl rfl rfl (.inl (by rw [e2]; rfl)) rfl ?_
      refine Dpn rfl rfl rfl rfl rfl (.inl (by rw [e2]; rfl)) rfl ?_
      refine Drn rfl rfl rfl rfl rfl (.inl (by rw [e2]; rfl)) rfl ?_
      refine Dpn rfl rfl rfl rfl rfl (.inl (by rw [e2]; rfl)) rfl ?_
      refine Drn rfl rfl rfl rfl rfl (.inl (by rw [e2]; rfl)) rfl ?_
      refine Dpn rfl rfl rfl rfl rfl (.inl (by rw [e2]; rfl)) rfl ?_
      refine Dpn rfl rfl rfl rfl rfl (.inl (by rw [e2]; rfl)) rfl ?_
      refine Drn rfl rfl rfl rfl rfl (.inl (by rw [e2]; rfl)) rfl ?_
      refine Drn rfl rfl rfl rfl rfl (.inl (by rw [e2]; rfl)) rfl ?_
      refine Dpn rfl rfl rfl rfl rfl (.inl (by rw [e2]; rfl)) rfl ?_
      refine Dp rfl rfl rfl rfl (V_pickF rfl (evb e2) rfl) ?_
      refine Dend ?_
      refine thenN ?_
      exact ⟨_, (FrLe.cons rfl (FrLe.cons rfl (FrLe.cons rfl (FrLe.cons rfl (FrLe.nil _))))), h⟩
    intro h e2
    refine Dpy rfl rfl rfl rfl rfl e2 rfl (V_move rfl rfl) ?_
    obtain ⟨p21_37, hc, h⟩ := h
    refine Dpy rfl rfl rfl rfl rfl e2 rfl (V_nil rfl (by rw [← hc]; rfl)) ?_
    refine Dpy rfl rfl rfl rfl rfl e2 rfl (V_fld rfl Tryz.underlying131 rfl ty129 (by decide) rfl) ?_
    refine Dpy rfl rfl rfl rfl rfl e2 rfl (V_move rfl rfl) ?_
    refine Dpy rfl rfl rfl rfl rfl e2 rfl (V_sub rfl rfl rfl) ?_
    refine Dpy rfl rfl rfl rfl rfl e2 rfl (V_move rfl rfl) ?_
    obtain ⟨p32_38, hc, h⟩ := h
    refine Dpy rfl rfl rfl rfl rfl e2 rfl (V_nil rfl (by rw [← hc]; rfl)) ?_
    refine Dpy rfl rfl rfl rfl rfl e2 rfl (V_fld rfl Tryz.underlying131 rfl ty3 (by decide) rfl) ?_
    obtain ⟨x23_39, hc, h⟩ := h
    refine Dry rfl rfl rfl rfl rfl e2 rfl (R_ld rfl Tryz.underlying129 rfl rfl hc) ?_
    obtain ⟨p26_40, ha, h0, h1, h⟩ := h
    refine Dpy rfl rfl rfl rfl rfl e2 rfl (V_ixA rfl Tryz.underlying129 ty136 (ixL rfl ha) rfl h0 h1) ?_
    obtain ⟨x27_41, hc, h⟩ := h
    refine Dry rfl rfl rfl rfl rfl e2 rfl (R_ld rfl Tryz.underlying136 rfl rfl hc) ?_
    obtain ⟨p28_42, hc, h⟩ := h
    refine Dpy rfl rfl rfl rfl rfl e2 rfl (V_nil rfl (by rw [← hc]; rfl)) ?_
    refine Dpy rfl rfl rfl rfl rfl e2 rfl (V_fld rfl Tryz.underlying138 rfl ty3 (by decide) rfl) ?_
    obtain ⟨x30_43, hc, h⟩ := h
    refine Dry rfl rfl rfl rfl rfl e2 rfl (R_ld rfl Tryz.underlying3 rfl rfl hc) ?_
    obtain ⟨x34_44, hc, h⟩ := h
    refine Dry rfl rfl rfl rfl rfl e2 rfl (R_ld rfl Tryz.underlying3 rfl rfl hc) ?_
    refine Dpy rfl rfl rfl rfl rfl e2 rfl (V_lss rfl rfl rfl) ?_
    refine Dp rfl rfl rfl rfl (V_pickT rfl (evb e2) rfl) ?_
    refine Dend ?_
    refine thenN ?_
    exact ⟨_, (FrLe.cons rfl (FrLe.cons rfl (FrLe.cons rfl (FrLe.cons rfl (FrLe.nil _))))), h⟩
  rintro fr σ ⟨x36_4, hl, h⟩
  refine AW.weaken ?_ hl (HLe.refl _)
  unfold j3_wal_Log_write at h
  refine AW.iff rfl Iff.rfl h (fun h => ?_) (fun h => ?_)
  · refine AW.seq ?_
    refine AW.reg ?_
    refine Lp (V_move rfl rfl) rfl rfl ?_
    obtain ⟨p38_5, hc, h⟩ := h
    refine Lp (V_nil rfl (by rw [← hc]; rfl)) rfl rfl ?_
    refine Lp (V_fld rfl Tryz.underlying131 rfl ty129 (by decide) rfl) rfl rfl ?_
    obtain ⟨x40_6, hc, h⟩ := h
    refine Ls rfl rfl (X_ld rfl Tryz.underlying129 rfl rfl hc ?_)
    refine Lp (V_move rfl rfl) rfl rfl ?_
    refine Lp (V_sub rfl rfl rfl) rfl rfl ?_
    obtain ⟨p43_7, ha, h0, h1, h⟩ := h
    refine Lp (V_ixA rfl Tryz.underlying129 ty136 (ixL rfl ha) rfl h0 h1) rfl rfl ?_
    obtain ⟨x44_8, hc, h⟩ := h
    refine Ls rfl rfl (X_ld rfl Tryz.underlying136 rfl rfl hc ?_)
    refine Lp (V_asg rfl rfl) rfl rfl ?_
    refine Lnil ?_
    refine thenN ?_
    refine AW.seq ?_
    refine AW.reg ?_
    refine Lp (V_move rfl rfl) rfl rfl ?_
    refine Lp (V_move rfl rfl) rfl rfl ?_
    refine Lp (V_move rfl rfl) rfl rfl ?_
    refine Ls rfl rfl (X_call rfl Tryz.func100 rfl rfl rfl (ACalls.mono h ?_))
    rintro v σ ⟨x48_9, rfl, h⟩
    refine Lp (V_move rfl rfl) rfl rfl ?_
    refine Ls rfl rfl (X_call rfl Tryz.func99 rfl rfl rfl (ACalls.mono h ?_))
    rintro v σ ⟨x50_10, rfl, h⟩
    refine Lp (V_asg rfl rfl) rfl rfl ?_
    refine Lnil ?_
    refine thenN ?_
    refine AW.ret ?_
    refine thenR ?_
    exact bR1 Tryz.results72 rfl ⟨_, rfl, h⟩
  refine AW.skip ?_
  refine thenN ?_
  refine AW.seq ?_
  refine AW.reg ?_
  refine Lp (V_move rfl rfl) rfl rfl ?_
  refine Ls rfl rfl (X_call rfl Tryz.func32 rfl rfl rfl (ACalls.mono h ?_))
  rintro v σ ⟨x52_11, rfl, h⟩
  refine Lp (V_bld (vs := [(0, .int .i64 1), (1, .int .i64 x52_11)]) (cs := #[.int .i64 1, .int .i64 x52_11, Sl.v (⟨none, 0, 0⟩ : Sl), .int .i64 0]) rfl Tryz.underlying138 ty138 pl138 rfl rfl) rfl rfl ?_
  refine Ls rfl rfl (X_new (A_box rfl rfl) fun x54_12 g1 g2 => ?_)
  replace h := h x54_12 g1 g2
  refine Lp (V_asg rfl rfl) rfl rfl ?_
  refine Lnil ?_
  refine thenN ?_
  refine AW.seqJ (fun fr σ => FrLe [(0, .pointer a0), (1, Sl.v a1), (7, .pointer (some ⟨x54_12, 0, none⟩))] fr ∧ j13_wal_Log_write B ro a0 a1 x54_12 Q σ) ?_ ?_
  rotate_left
  · refine AW.seq ?_
    refine AW.reg ?_
    refine Lp (V_move rfl rfl) rfl rfl ?_
    obtain ⟨p56_28, hc, h⟩ := h
    refine Lp (V_nil rfl (by rw [← hc]; rfl)) rfl rfl ?_
    refine Lp (V_fld rfl Tryz.underlying131 rfl ty129 (by decide) rfl) rfl rfl ?_
    obtain ⟨x58_29, hc, h⟩ := h
    refine Ls rfl rfl (X_ld rfl Tryz.underlying129 rfl rfl hc ?_)
    refine Lp (V_lenL rfl rfl Tryz.underlying129 rfl rfl) rfl rfl ?_
    refine Lp (V_asg rfl rfl) rfl rfl ?_
    refine Lnil ?_
    refine thenN ?_
    refine AW.seq ?_
    refine AW.reg ?_
    refine Lp (V_move rfl rfl) rfl rfl ?_
    refine Lp (V_gtr rfl rfl rfl) rfl rfl ?_
    refine Lnil ?_
    refine thenN ?_
    refine AW.iff rfl decide_eq_true_iff h (fun h => ?_) (fun h => ?_)
    rotate_left
    · refine AW.skip ?_
      refine thenN ?_
      exact ⟨(FrLe.cons rfl (FrLe.cons rfl (FrLe.cons rfl (FrLe.nil _)))), h⟩
    refine AW.seq ?_
    refine AW.reg ?_
    refine Lp (V_move rfl rfl) rfl rfl ?_
    refine Lp (V_move rfl rfl) rfl rfl ?_
    obtain ⟨p64_30, hc, h⟩ := h
    refine Lp (V_nil rfl (by rw [← hc]; rfl)) rfl rfl ?_
    refine Lp (V_fld rfl Tryz.underlying131 rfl ty129 (by decide) rfl) rfl rfl ?_
    obtain ⟨x66_31, hc, h⟩ := h
    refine Ls rfl rfl (X_ld rfl Tryz.underlying129 rfl rfl hc ?_)
    refine Lp (V_move rfl rfl) rfl rfl ?_
    refine Lp (V_sub rfl rfl rfl) rfl rfl ?_
    obtain ⟨p69_32, ha, h0, h1, h⟩ := h
    refine Lp (V_ixA rfl Tryz.underlying129 ty136 (ixL rfl ha) rfl h0 h1) rfl rfl ?_
    obtain ⟨x70_33, hc, h⟩ := h
    refine Ls rfl rfl (X_ld rfl Tryz.underlying136 rfl rfl hc ?_)
    obtain ⟨p71_34, hc, h⟩ := h
    refine Lp (V_nil rfl (by rw [← hc]; rfl)) rfl rfl ?_
    refine Lp (V_fld rfl Tryz.underlying138 rfl ty3 (by decide) rfl) rfl rfl ?_
    obtain ⟨x73_35, hc, h⟩ := h
    refine Ls rfl rfl (X_ld rfl Tryz.underlying3 rfl rfl hc ?_)
    refine Lp (V_add rfl rfl rfl) rfl rfl ?_
    refine Lp (V_nil rfl rfl) rfl rfl ?_
    refine Lp (V_fld rfl Tryz.underlying138 rfl ty3 (by decide) rfl) rfl rfl ?_
    refine Ls rfl rfl (X_st rfl ty3 rfl rfl rfl rfl (stN_mono h fun σ h => ?_))
    refine Lnil ?_
    refine thenN ?_
    refine AW.reg ?_
    refine Lp (V_move rfl rfl) rfl rfl ?_
    refine Ls rfl rfl (X_call rfl Tryz.func33 rfl rfl rfl (ACalls.mono h ?_))
    rintro v σ ⟨x78_36, rfl, h⟩
    refine Lnil ?_
    refine thenN ?_
    exact ⟨(FrLe.cons rfl (FrLe.cons rfl (FrLe.cons rfl (FrLe.nil _)))), h⟩
  rintro fr σ ⟨hl, h⟩
  refine AW.weaken ?_ hl (HLe.refl _)
  unfold j13_wal_Log_write at h
  refine AW.seq ?_
  refine AW.seq ?_
  refine AW.reg ?_
  refine Lp (V_move rfl rfl) rfl rfl ?_
  refine Lp (V_nil rfl rfl) rfl rfl ?_
  refine Lp (V_fld rfl Tryz.underlying138 rfl ty3 (by decide) rfl) rfl rfl ?_
  obtain ⟨x82_14, hc, h⟩ := h
  refine Ls rfl rfl (X_ld rfl Tryz.underlying3 rfl rfl hc ?_)
  refine Lp (V_gtr rfl rfl rfl) rfl rfl ?_
  refine Lnil ?_
  refine thenN ?_
  refine AW.iff rfl decide_eq_true_iff h (fun h => ?_) (fun h => ?_)
  · refine AW.seq ?_
    refine AW.reg ?_
    refine Lp (V_asg rfl rfl) rfl rfl ?_
    refine Lnil ?_
    refine thenN ?_
    refine AW.ret ?_
    refine thenR ?_
    exact bR1 Tryz.results72 rfl ⟨_, rfl, h⟩
  refine AW.skip ?_
  refine thenN ?_
  refine AW.seq ?_
  refine AW.reg ?_
  refine Lp (V_move rfl rfl) rfl rfl ?_
  refine Lp (V_nil rfl rfl) rfl rfl ?_
  refine Lp (V_fld rfl Tryz.underlying138 rfl ty3 (by decide) rfl) rfl rfl ?_
  obtain ⟨x88_15, hc, h⟩ := h
  refine Ls rfl rfl (X_ld rfl Tryz.underlying3 rfl rfl hc ?_)
  refine Ls rfl rfl (X_new (A_bsl (vs := [(0, .int .i64 x88_15)]) (cs := #[.int .i64 x88_15]) rfl Tryz.underlying23 ty3 (by decide) rfl rfl) fun x89_16 g1 g2 => ?_)
  replace h := h x89_16 g1 g2
  refine Ls rfl rfl (X_call rfl Tryz.func78 rfl rfl rfl (ACalls.mono h ?_))
  rintro v σ ⟨x90_17, x90_18, rfl, h⟩
  refine Lp (V_move rfl rfl) rfl rfl ?_
  refine Lp (V_ext rfl rfl rfl) rfl rfl ?_
  refine Lp (V_ext rfl rfl rfl) rfl rfl ?_
  refine Lp (V_asg rfl rfl) rfl rfl ?_
  refine Lp (V_asg rfl rfl) rfl rfl ?_
  refine Lnil ?_
  refine thenN ?_
  refine AW.seq ?_
  refine AW.seq ?_
  refine AW.reg ?_
  refine Lp (V_move rfl rfl) rfl rfl ?_
  refine Lp (V_move rfl rfl) rfl rfl ?_
  refine Lp (V_move rfl rfl) rfl rfl ?_
  refine Ls rfl rfl (X_call rfl Tryz.func100 rfl rfl rfl (ACalls.mono h ?_))
  rintro v σ ⟨x96_19, rfl, h⟩
  refine Lp (V_move rfl rfl) rfl rfl ?_
  refine Ls rfl rfl (X_call rfl Tryz.func100 rfl rfl rfl (ACalls.mono h ?_))
  rintro v σ ⟨x98_20, rfl, h⟩
  refine Ls rfl rfl (X_bi (s := Builtin.append_ #[22, 22] 22 #[Sl.v x96_19, Sl.v x98_20]) rfl rfl (fun _ => rfl) (awp_mono _ h ?_))
  rintro v σ ⟨x99_21, rfl, h⟩
  refine Lp (V_move rfl rfl) rfl rfl ?_
  refine Ls rfl rfl (X_call rfl Tryz.func99 rfl rfl rfl (ACalls.mono h ?_))
  rintro v σ ⟨x101_22, rfl, h⟩
  refine Lp (V_asg rfl rfl) rfl rfl ?_
  refine Lnil ?_
  refine thenN ?_
  refine AW.seq ?_
  refine AW.reg ?_
  refine Lp (V_move rfl rfl) rfl rfl ?_
  refine Lp (V_neq rfl rfl rfl) rfl rfl ?_
  refine Lnil ?_
  refine thenN ?_
  refine AW.iff rfl (bnot_iff decide_eq_true_iff) h (fun h => ?_) (fun h => ?_)
  · refine AW.seq ?_
    refine AW.reg ?_
    refine Lp (V_move rfl rfl) rfl rfl ?_
    refine Lp (V_asg rfl rfl) rfl rfl ?_
    refine Lnil ?_
    refine thenN ?_
    refine AW.ret ?_
    refine thenR ?_
    exact bR1 Tryz.results72 rfl ⟨_, rfl, h⟩
  refine AW.skip ?_
  refine thenN ?_
  refine AW.seq ?_
  refine AW.reg ?_
  refine Lp (V_move rfl rfl) rfl rfl ?_
  refine Lp (V_move rfl rfl) rfl rfl ?_
  obtain ⟨p107_23, hc, h⟩ := h
  refine Lp (V_nil rfl (by rw [← hc]; rfl)) rfl rfl ?_
  refine Lp (V_fld rfl Tryz.underlying131 rfl ty129 (by decide) rfl) rfl rfl ?_
  obtain ⟨x109_24, hc, h⟩ := h
  refine Ls rfl rfl (X_ld rfl Tryz.underlying129 rfl rfl hc ?_)
  refine Lp (V_move rfl rfl) rfl rfl ?_
  refine Ls rfl rfl (X_new (A_bsl (vs := [(0, .pointer (some ⟨x54_12, 0, none⟩))]) (cs := #[.pointer (some ⟨x54_12, 0, none⟩)]) rfl Tryz.underlying129 ty136 (by decide) rfl rfl) fun x111_25 g1 g2 => ?_)
  replace h := h x111_25 g1 g2
  refine Ls rfl rfl (X_bi (s := Builtin.append_ #[129, 129] 129 #[Sl.v x109_24, Sl.v (⟨some ⟨x111_25, 0, none⟩, 1, 1⟩ : Sl)]) rfl rfl (fun _ => rfl) (awp_mono _ h ?_))
  rintro v σ ⟨x112_26, rfl, h⟩
  obtain ⟨p113_27, hc, h⟩ := h
  refine Lp (V_nil rfl (by rw [← hc]; rfl)) rfl rfl ?_
  refine Lp (V_fld rfl Tryz.underlying131 rfl ty129 (by decide) rfl) rfl rfl ?_
  refine Ls rfl rfl (X_st rfl ty129 rfl rfl rfl rfl (stN_mono h fun σ h => ?_))
  refine Lnil ?_
  refine thenN ?_
  refine AW.seq ?_
  refine AW.reg ?_
  refine Lp (V_asg rfl rfl) rfl rfl ?_
  refine Lnil ?_
  refine thenN ?_
  refine AW.ret ?_
  exact bR1 Tryz.results72 rfl ⟨_, rfl, h⟩

def f_wal_segment_next (B : World) (ro : AH) (a0 : Option Addr) (σ : AH) (Q : Int → AH → Prop) : Prop :=
 ∃ p4_1 : Addr, a0 = some p4_1 ∧
 ∃ p8_2 : Addr, a0 = some p8_2 ∧
 ∃ (x6_3 : Int), acell ro σ (p4_1.add 1) = some (.int .i64 x6_3) ∧
 ∃ (x10_4 : Sl), acell ro σ (p8_2.add 2) = some (Sl.v x10_4) ∧
 Q (IntKind.i64.wrap (x6_3 + (x10_4.len : Int))) σ

set_option maxRecDepth 100000 in
set_option maxHeartbeats 4000000 in
theorem wal_segment_next_ok {B : World} {ro : AH} {a0 : Option Addr} {σ : AH} {Q : Int → AH → Prop} (h : Sep ro σ → f_wal_segment_next B ro a0 σ Q) : c_wal_segment_next B ro a0 σ Q := by
  refine ACalls.of_sep fun hsep => ?_
  replace h := h hsep
  refine ACalls.of_body (args := [.pointer a0]) Tryz.func73 rfl (by rw [Tryz.ntmps73]; simp) ?_
  rw [Tryz.ntmps73]
  unfold f_wal_segment_next at h
  refine AW.seq ?_
  refine AW.reg ?_
  refine Lp (V_asg rfl rfl) rfl rfl ?_
  refine Lnil ?_
  refine thenN ?_
  refine AW.seq ?_
  refine AW.drawn0 (fun i => ([0, 0, 0, 3, 0, 0, 0, 3, 0, 0, 0] : List Nat).getD i 2) [] [0, 1, 2, 4, 5, 6, 3, 7, 8, 9, 10] Tryz.mixed (by decide +kernel) ?_
  refine Dp rfl rfl rfl rfl (V_move rfl rfl) ?_
  obtain ⟨p4_1, hc, h⟩ := h
  refine Dp rfl rfl rfl rfl (V_nil rfl (by rw [← hc]; rfl)) ?_
  refine Dp rfl rfl rfl rfl (V_fld rfl Tryz.underlying138 rfl ty3 (by decide) rfl) ?_
  refine Dp rfl rfl rfl rfl (V_move rfl rfl) ?_
  obtain ⟨p8_2, hc, h⟩ := h
  refine Dp rfl rfl rfl rfl (V_nil rfl (by rw [← hc]; rfl)) ?_
  refine Dp rfl rfl rfl rfl (V_fld rfl Tryz.underlying138 rfl ty44 (by decide) rfl) ?_
  obtain ⟨x6_3, hc, h⟩ := h
  refine Dr rfl rfl rfl rfl (R_ld rfl Tryz.underlying3 rfl rfl hc) ?_
  obtain ⟨x10_4, hc, h⟩ := h
  refine Dr rfl rfl rfl rfl (R_ld rfl Tryz.underlying44 rfl rfl hc) ?_
  refine Dp rfl rfl rfl rfl (V_lenL rfl rfl Tryz.underlying44 rfl rfl) ?_
  refine Dp rfl rfl rfl rfl (V_add rfl rfl rfl) ?_
  refine Dp rfl rfl rfl rfl (V_asg rfl rfl) ?_
  refine Dend ?_
  refine thenN ?_
  refine AW.ret ?_
  exact bR1 Tryz.results73 rfl ⟨_, rfl, h⟩

def f_wal_frame (B : World) (ro : AH) (a0 : Sl) (σ : AH) (Q : Sl → AH → Prop) : Prop :=
 c_wire_Frame B ro a0 σ fun x7_1 x7_2 σ =>
 Q x7_1 σ

set_option maxRecDepth 100000 in
set_option maxHeartbeats 4000000 in
theorem wal_frame_ok {B : World} {ro : AH} {a0 : Sl} {σ : AH} {Q : Sl → AH → Prop} (h : Sep ro σ → f_wal_frame B ro a0 σ Q) : c_wal_frame B ro a0 σ Q := by
  refine ACalls.of_sep fun hsep => ?_
  replace h := h hsep
  refine ACalls.of_body (args := [Sl.v a0]) Tryz.func100 rfl (by rw [Tryz.ntmps100]; simp) ?_
  rw [Tryz.ntmps100]
  unfold f_wal_frame at h
  refine AW.seq ?_
  refine AW.reg ?_
  refine Lp (V_asg rfl rfl) rfl rfl ?_
  refine Lnil ?_
  refine thenN ?_
  refine AW.seq ?_
  refine AW.reg ?_
  refine Lp (V_move rfl rfl) rfl rfl ?_
  refine Ls rfl rfl (X_call rfl Tryz.func79 rfl rfl rfl (ACalls.mono h ?_))
  rintro v σ ⟨x7_1, x7_2, rfl, h⟩
  refine Lp (V_move rfl rfl) rfl rfl ?_
  refine Lp (V_ext rfl rfl rfl) rfl rfl ?_
  refine Lp (V_ext rfl rfl rfl) rfl rfl ?_
  refine Lp (V_asg rfl rfl) rfl rfl ?_
  refine Lp (V_asg rfl rfl) rfl rfl ?_
  refine Lnil ?_
  refine thenN ?_
  refine AW.seq ?_
  refine AW.reg ?_
  refine Lp (V_move rfl rfl) rfl rfl ?_
  refine Lp (V_asg rfl rfl) rfl rfl ?_
  refine Lnil ?_
  refine thenN ?_
  refine AW.ret ?_
  exact bR1 Tryz.results100 rfl ⟨_, rfl, h⟩

end Go.Proofs.YtfobjidchipdaaaGreatDoor.G
