/- GL4, WlG, WlH, WlI -/
import Derived.Test.YtfobjidchipdaaaGreatDoorXL
/- Functions as predicate transformers, and the proofs that the code does what they tell: printed by wip/tools/gen.py. -/
namespace Go.Proofs.YtfobjidchipdaaaGreatDoor.G
open Go Go.Proofs.YtfobjidchipdaaaGreatDoor.SL
set_option linter.unusedVariables false
set_option linter.unusedSimpArgs false

def j10_law04_WalKeeps (B : World) (ro : AH) (Q : Bool → AH → Prop) (x54_11 : Bool) (σ : AH) : Prop :=
 Q x54_11 σ

def j22_law04_WalKeeps (B : World) (ro : AH) (Q : Bool → AH → Prop) (x110_23 : Bool) (σ : AH) : Prop :=
 Q x110_23 σ

def j35_law04_WalKeeps (B : World) (ro : AH) (Q : Bool → AH → Prop) (σ : AH) : Prop :=
 c_law04_awake B ro σ fun x192_36 σ =>
 Q x192_36 σ

def j49_law04_WalKeeps (B : World) (ro : AH) (x120_27 : Option Addr) (x154_39 : Sl) (x156_41 : Int) (Q : Bool → AH → Prop) (Y40 : (Int) → AH → Prop) (x190_50 : Bool) (σ : AH) : Prop :=
 if x190_50 = true then
  Q false σ
 else
 Y40 (IntKind.i64.wrap (x156_41 + 1)) σ

def j47_law04_WalKeeps (B : World) (ro : AH) (x120_27 : Option Addr) (x154_39 : Sl) (x156_41 : Int) (x164_45 : Int) (Q : Bool → AH → Prop) (Y40 : (Int) → AH → Prop) (x180_48 : Bool) (σ : AH) : Prop :=
 if x180_48 = true then
  j49_law04_WalKeeps B ro x120_27 x154_39 x156_41 Q Y40 true σ
 else
 c_wal_Log_Next B ro x120_27 σ fun x184_51 σ =>
 j49_law04_WalKeeps B ro x120_27 x154_39 x156_41 Q Y40 ((decide (x184_51 ≤ x156_41)) && (decide (x164_45 = 0))) σ

def j52_law04_WalKeeps (B : World) (ro : AH) (x120_27 : Option Addr) (x154_39 : Sl) (x156_41 : Int) (x164_45 : Int) (x169_46 : Int) (Q : Bool → AH → Prop) (Y40 : (Int) → AH → Prop) (x179_53 : Bool) (σ : AH) : Prop :=
 j47_law04_WalKeeps B ro x120_27 x154_39 x156_41 x164_45 Q Y40 x179_53 σ

def l40_law04_WalKeeps (B : World) (ro : AH) (x120_27 : Option Addr) (x154_39 : Sl) (Q : Bool → AH → Prop) : (Int) → AH → ((Int) → AH → Prop) → Prop := fun x156_41 σ Y40 =>
 if x156_41 < (x154_39.len : Int) then
  ∃ p159_42 : Addr, x154_39.a = some p159_42 ∧ (0 : Int) ≤ x156_41 ∧ x156_41 < (x154_39.len : Int) ∧
  ∃ (x160_43 : Sl), acell ro σ (p159_42.add (Int.toNat x156_41 * 1)) = some (Sl.v x160_43) ∧
  c_wal_Log_Get B ro x120_27 x156_41 σ fun x164_44 x164_45 σ =>
  c_wal_Log_Next B ro x120_27 σ fun x169_46 σ =>
  if x156_41 < x169_46 then
   if ¬ (x164_45 = 0) then
    j52_law04_WalKeeps B ro x120_27 x154_39 x156_41 x164_45 x169_46 Q Y40 true σ
   else
   c_ref01_Same B ro x160_43 x164_44 σ fun x177_54 σ =>
   j52_law04_WalKeeps B ro x120_27 x154_39 x156_41 x164_45 x169_46 Q Y40 (!x177_54) σ
  else
  j47_law04_WalKeeps B ro x120_27 x154_39 x156_41 x164_45 Q Y40 false σ
 else
 j35_law04_WalKeeps B ro Q σ

def j33_law04_WalKeeps (B : World) (ro : AH) (x23_3 : Sl) (x25_4 : Sl) (x120_27 : Option Addr) (Q : Bool → AH → Prop) (x149_34 : Bool) (σ : AH) : Prop :=
 if x149_34 = true then
  Q false σ
 else
 c_law04_copied B ro x23_3 σ fun x151_37 σ =>
 c_law04_copied B ro x25_4 σ fun x153_38 σ =>
 awp Tryz.prog ro (Builtin.append_ #[44, 44] 44 #[Sl.v x151_37, Sl.v x153_38]) (fun v σ => ∃ (x154_39 : Sl), v = Sl.v x154_39 ∧
  lfpD (l40_law04_WalKeeps B ro x120_27 x154_39 Q ) (0) σ) σ

def j31_law04_WalKeeps (B : World) (ro : AH) (x23_3 : Sl) (x25_4 : Sl) (x120_27 : Option Addr) (Q : Bool → AH → Prop) (x144_32 : Bool) (σ : AH) : Prop :=
 if x144_32 = true then
  j33_law04_WalKeeps B ro x23_3 x25_4 x120_27 Q true σ
 else
 c_wal_Log_First B ro x120_27 σ fun x147_55 σ =>
 j33_law04_WalKeeps B ro x23_3 x25_4 x120_27 Q (!(decide (x147_55 = 0))) σ

def j29_law04_WalKeeps (B : World) (ro : AH) (x23_3 : Sl) (x25_4 : Sl) (x120_27 : Option Addr) (Q : Bool → AH → Prop) (x134_30 : Bool) (σ : AH) : Prop :=
 if x134_30 = true then
  j31_law04_WalKeeps B ro x23_3 x25_4 x120_27 Q true σ
 else
 c_wal_Log_Next B ro x120_27 σ fun x137_56 σ =>
 j31_law04_WalKeeps B ro x23_3 x25_4 x120_27 Q (decide ((IntKind.i64.wrap ((x23_3.len : Int) + (x25_4.len : Int))) < x137_56)) σ

def j20_law04_WalKeeps (B : World) (ro : AH) (x21_2 : Int) (x23_3 : Sl) (x25_4 : Sl) (x27_5 : Sl) (x29_6 : Option Addr) (x37_8 : Option Addr) (Q : Bool → AH → Prop) (x101_21 : Bool) (σ : AH) : Prop :=
 if x101_21 = true then
  if 1000 < (IntKind.i64.wrap ((x23_3.len : Int) + (x25_4.len : Int))) then
   c_law04_awake B ro σ fun x109_24 σ =>
   j22_law04_WalKeeps B ro Q x109_24 σ
  else
  j22_law04_WalKeeps B ro Q false σ
 else
 c_wal_Log_Safe B ro x37_8 σ fun x112_25 σ =>
 c_ref01_CopyInts B ro x27_5 σ fun x115_26 σ =>
 c_disk_Disk_Crash B ro x29_6 x115_26 σ fun σ =>
 c_wal_Open B ro x29_6 (⟨#[108, 111, 103]⟩ : ByteArray) x21_2 σ fun x120_27 x120_28 σ =>
 if (x120_27 = none) ∨ (¬ (x120_28 = 0)) then
  j29_law04_WalKeeps B ro x23_3 x25_4 x120_27 Q true σ
 else
 c_wal_Log_Next B ro x120_27 σ fun x131_57 σ =>
 j29_law04_WalKeeps B ro x23_3 x25_4 x120_27 Q (decide (x131_57 < x112_25)) σ

def j18_law04_WalKeeps (B : World) (ro : AH) (x21_2 : Int) (x23_3 : Sl) (x25_4 : Sl) (x27_5 : Sl) (x29_6 : Option Addr) (x37_8 : Option Addr) (Q : Bool → AH → Prop) (x94_19 : Bool) (σ : AH) : Prop :=
 if x94_19 = true then
  j20_law04_WalKeeps B ro x21_2 x23_3 x25_4 x27_5 x29_6 x37_8 Q true σ
 else
 c_wal_Log_Safe B ro x37_8 σ fun x97_58 σ =>
 j20_law04_WalKeeps B ro x21_2 x23_3 x25_4 x27_5 x29_6 x37_8 Q (decide (x97_58 < (x23_3.len : Int))) σ

def j16_law04_WalKeeps (B : World) (ro : AH) (x21_2 : Int) (x23_3 : Sl) (x25_4 : Sl) (x27_5 : Sl) (x29_6 : Option Addr) (x37_8 : Option Addr) (Q : Bool → AH → Prop) (x87_17 : Bool) (σ : AH) : Prop :=
 if x87_17 = true then
  j18_law04_WalKeeps B ro x21_2 x23_3 x25_4 x27_5 x29_6 x37_8 Q true σ
 else
 c_law04_copied B ro x25_4 σ fun x91_59 σ =>
 c_wal_Log_Append B ro x37_8 x91_59 σ fun x92_60 σ =>
 j18_law04_WalKeeps B ro x21_2 x23_3 x25_4 x27_5 x29_6 x37_8 Q (!(decide (x92_60 = 0))) σ

def j14_law04_WalKeeps (B : World) (ro : AH) (x21_2 : Int) (x23_3 : Sl) (x25_4 : Sl) (x27_5 : Sl) (x29_6 : Option Addr) (x37_8 : Option Addr) (Q : Bool → AH → Prop) (x82_15 : Bool) (σ : AH) : Prop :=
 if x82_15 = true then
  j16_law04_WalKeeps B ro x21_2 x23_3 x25_4 x27_5 x29_6 x37_8 Q true σ
 else
 c_wal_Log_Sync B ro x37_8 σ fun x85_61 σ =>
 j16_law04_WalKeeps B ro x21_2 x23_3 x25_4 x27_5 x29_6 x37_8 Q (!(decide (x85_61 = 0))) σ

def j13_law04_WalKeeps (B : World) (ro : AH) (x21_2 : Int) (x23_3 : Sl) (x25_4 : Sl) (x27_5 : Sl) (x29_6 : Option Addr) (x37_8 : Option Addr) (Q : Bool → AH → Prop) (σ : AH) : Prop :=
 if 1000 < (IntKind.i64.wrap ((x23_3.len : Int) + (x25_4.len : Int))) then
  j14_law04_WalKeeps B ro x21_2 x23_3 x25_4 x27_5 x29_6 x37_8 Q true σ
 else
 c_law04_copied B ro x23_3 σ fun x79_62 σ =>
 c_wal_Log_Append B ro x37_8 x79_62 σ fun x80_63 σ =>
 j14_law04_WalKeeps B ro x21_2 x23_3 x25_4 x27_5 x29_6 x37_8 Q (!(decide (x80_63 = 0))) σ

def l67_law04_WalKeeps (B : World) (ro : AH) (x21_2 : Int) (x23_3 : Sl) (x25_4 : Sl) (x27_5 : Sl) (x29_6 : Option Addr) (x37_8 : Option Addr) (x59_66 : Sl) (Q : Bool → AH → Prop) : (Int) → AH → ((Int) → AH → Prop) → Prop := fun x61_68 σ Y67 =>
 if x61_68 < (x59_66.len : Int) then
  ∃ p63_69 : Addr, x59_66.a = some p63_69 ∧ (0 : Int) ≤ x61_68 ∧ x61_68 < (x59_66.len : Int) ∧
  ∃ (x64_70 : Sl), acell ro σ (p63_69.add (Int.toNat x61_68 * 1)) = some (Sl.v x64_70) ∧
  if 4096 < (x64_70.len : Int) then
   c_law04_awake B ro σ fun x68_71 σ =>
   Q x68_71 σ
  else
  Y67 (IntKind.i64.wrap (x61_68 + 1)) σ
 else
 j13_law04_WalKeeps B ro x21_2 x23_3 x25_4 x27_5 x29_6 x37_8 Q σ

def f_law04_WalKeeps (B : World) (ro : AH) (a0_0 : Int) (a0_1 : Sl) (a0_2 : Sl) (a0_3 : Sl) (σ : AH) (Q : Bool → AH → Prop) : Prop :=
 nw ro σ (.cells #[.int .i64 a0_0, Sl.v a0_1, Sl.v a0_2, Sl.v a0_3] 77) fun x1_1 σ =>
 ∃ (x21_2 : Int), acell ro σ ⟨x1_1, 0, none⟩ = some (.int .i64 x21_2) ∧
 ∃ (x23_3 : Sl), acell ro σ ((⟨x1_1, 0, none⟩ : Addr).add 1) = some (Sl.v x23_3) ∧
 ∃ (x25_4 : Sl), acell ro σ ((⟨x1_1, 0, none⟩ : Addr).add 2) = some (Sl.v x25_4) ∧
 ∃ (x27_5 : Sl), acell ro σ ((⟨x1_1, 0, none⟩ : Addr).add 3) = some (Sl.v x27_5) ∧
 c_disk_New B ro 1073741824 σ fun x29_6 x29_7 σ =>
 if x29_6 = none then
  Q false σ
 else
 c_wal_Open B ro x29_6 (⟨#[108, 111, 103]⟩ : ByteArray) x21_2 σ fun x37_8 x37_9 σ =>
 if (x37_8 = none) ∨ (¬ (x37_9 = 0)) then
  if (x21_2 < 16) ∨ (1048576 < x21_2) then
   c_law04_awake B ro σ fun x53_12 σ =>
   j10_law04_WalKeeps B ro Q x53_12 σ
  else
  j10_law04_WalKeeps B ro Q false σ
 else
 c_law04_copied B ro x23_3 σ fun x56_64 σ =>
 c_law04_copied B ro x25_4 σ fun x58_65 σ =>
 awp Tryz.prog ro (Builtin.append_ #[44, 44] 44 #[Sl.v x56_64, Sl.v x58_65]) (fun v σ => ∃ (x59_66 : Sl), v = Sl.v x59_66 ∧
  lfpD (l67_law04_WalKeeps B ro x21_2 x23_3 x25_4 x27_5 x29_6 x37_8 x59_66 Q ) (0) σ) σ

set_option maxRecDepth 100000 in
set_option maxHeartbeats 4000000 in
theorem law04_WalKeeps_ok {B : World} {ro : AH} {a0_0 : Int} {a0_1 : Sl} {a0_2 : Sl} {a0_3 : Sl} {σ : AH} {Q : Bool → AH → Prop} (h : Sep ro σ → f_law04_WalKeeps B ro a0_0 a0_1 a0_2 a0_3 σ Q) : c_law04_WalKeeps B ro a0_0 a0_1 a0_2 a0_3 σ Q := by
  refine ACalls.of_sep fun hsep => ?_
  replace h := h hsep
  refine ACalls.of_body (args := [.agg #[.int .i64 a0_0, Sl.v a0_1, Sl.v a0_2, Sl.v a0_3]]) Tryz.func7 rfl (by rw [Tryz.ntmps7]; simp) ?_
  rw [Tryz.ntmps7]
  unfold f_law04_WalKeeps at h
  refine AW.seq ?_
  refine AW.reg ?_
  refine Ls rfl rfl (X_new (A_box rfl rfl) fun x1_1 g1 g2 => ?_)
  replace h := h x1_1 g1 g2
  refine Lp (V_asg rfl rfl) rfl rfl ?_
  refine Lnil ?_
  refine thenN ?_
  refine AW.seq ?_
  refine AW.drawn0 (fun i => ([0, 3, 0, 3, 0, 3, 0, 3, 0, 0, 0, 0] : List Nat).getD i 2) [] [0, 2, 4, 6, 1, 8, 3, 9, 5, 10, 7, 11] Tryz.mixed (by decide +kernel) ?_
  refine Dp rfl rfl rfl rfl (V_fld rfl Tryz.underlying77 rfl ty3 (by decide) rfl) ?_
  refine Dp rfl rfl rfl rfl (V_fld rfl Tryz.underlying77 rfl ty44 (by decide) rfl) ?_
  refine Dp rfl rfl rfl rfl (V_fld rfl Tryz.underlying77 rfl ty44 (by decide) rfl) ?_
  refine Dp rfl rfl rfl rfl (V_fld rfl Tryz.underlying77 rfl ty23 (by decide) rfl) ?_
  obtain ⟨x21_2, hc, h⟩ := h
  refine Dr rfl rfl rfl rfl (R_ld rfl Tryz.underlying3 rfl rfl hc) ?_
  refine Dp rfl rfl rfl rfl (V_asg rfl rfl) ?_
  obtain ⟨x23_3, hc, h⟩ := h
  refine Dr rfl rfl rfl rfl (R_ld rfl Tryz.underlying44 rfl rfl hc) ?_
  refine Dp rfl rfl rfl rfl (V_asg rfl rfl) ?_
  obtain ⟨x25_4, hc, h⟩ := h
  refine Dr rfl rfl rfl rfl (R_ld rfl Tryz.underlying44 rfl rfl hc) ?_
  refine Dp rfl rfl rfl rfl (V_asg rfl rfl) ?_
  obtain ⟨x27_5, hc, h⟩ := h
  refine Dr rfl rfl rfl rfl (R_ld rfl Tryz.underlying23 rfl rfl hc) ?_
  refine Dp rfl rfl rfl rfl (V_asg rfl rfl) ?_
  refine Dend ?_
  refine thenN ?_
  refine AW.seq ?_
  refine AW.reg ?_
  refine Ls rfl rfl (X_call rfl Tryz.func9 rfl rfl rfl (ACalls.mono h ?_))
  rintro v σ ⟨x29_6, x29_7, rfl, h⟩
  refine Lp (V_move rfl rfl) rfl rfl ?_
  refine Lp (V_ext rfl rfl rfl) rfl rfl ?_
  refine Lp (V_ext rfl rfl rfl) rfl rfl ?_
  refine Lp (V_asg rfl rfl) rfl rfl ?_
  refine Lp (V_asg rfl rfl) rfl rfl ?_
  refine Lnil ?_
  refine thenN ?_
  refine AW.seq ?_
  refine AW.seq ?_
  refine AW.reg ?_
  refine Lp (V_move rfl rfl) rfl rfl ?_
  refine Lp (V_eqP rfl Tryz.underlying26 rfl rfl) rfl rfl ?_
  refine Lnil ?_
  refine thenN ?_
  refine AW.iff rfl isNone_iff h (fun h => ?_) (fun h => ?_)
  · refine AW.seq ?_
    refine AW.reg ?_
    refine Lp (V_asg rfl rfl) rfl rfl ?_
    refine Lnil ?_
    refine thenN ?_
    refine AW.ret ?_
    refine thenR ?_
    exact bR1 Tryz.results7 rfl ⟨_, rfl, h⟩
  refine AW.skip ?_
  refine thenN ?_
  refine AW.seq ?_
  refine AW.reg ?_
  refine Lp (V_move rfl rfl) rfl rfl ?_
  refine Lp (V_move rfl rfl) rfl rfl ?_
  refine Ls rfl rfl (X_call rfl Tryz.func29 rfl rfl rfl (ACalls.mono h ?_))
  rintro v σ ⟨x37_8, x37_9, rfl, h⟩
  refine Lp (V_move rfl rfl) rfl rfl ?_
  refine Lp (V_ext rfl rfl rfl) rfl rfl ?_
  refine Lp (V_ext rfl rfl rfl) rfl rfl ?_
  refine Lp (V_asg rfl rfl) rfl rfl ?_
  refine Lp (V_asg rfl rfl) rfl rfl ?_
  refine Lnil ?_
  refine thenN ?_
  refine AW.seq ?_
  refine AW.seq ?_
  refine AW.reg ?_
  refine Lp (V_move rfl rfl) rfl rfl ?_
  refine Lp (V_eqP rfl Tryz.underlying68 rfl rfl) rfl rfl ?_
  refine Lp (V_move rfl rfl) rfl rfl ?_
  refine Lsplit 3 x37_8.isNone [(3, .int .i64 x21_2), (4, Sl.v x23_3), (5, Sl.v x25_4), (6, Sl.v x27_5), (7, .pointer x29_6), (9, .pointer x37_8), (45, .bool (x37_8.isNone || (!(decide (x37_9 = 0)))))] ?_ ?_ ?_
  · intro e2 hk2
    refine Ln rfl rfl rfl rfl (.inl (by rw [e2]; rfl)) ?_
    refine Ln rfl rfl rfl rfl (.inl (by rw [e2]; rfl)) ?_
    refine Lp (V_pickT rfl (evb e2) rfl) rfl rfl ?_
    exact hk2 _ (FrLe.cons rfl (FrLe.cons rfl (FrLe.cons rfl (FrLe.cons rfl (FrLe.cons rfl (FrLe.cons rfl (FrLe.cons (by rw [e2]; rfl) (FrLe.nil _))))))))
  · intro e2 hk2
    refine Lypb (V_move rfl rfl) rfl rfl rfl rfl e2 ?_
    refine Lypb (V_neq rfl rfl rfl) rfl rfl rfl rfl e2 ?_
    refine Lp (V_pickF rfl (evb e2) rfl) rfl rfl ?_
    exact hk2 _ (FrLe.cons rfl (FrLe.cons rfl (FrLe.cons rfl (FrLe.cons rfl (FrLe.cons rfl (FrLe.cons rfl (FrLe.cons (by rw [e2]; rfl) (FrLe.nil _))))))))
  intro fr hl
  refine Lfr hl ?_
  refine Lnil ?_
  refine thenN ?_
  refine AW.iff rfl (bor_iff isNone_iff (bnot_iff decide_eq_true_iff)) h (fun h => ?_) (fun h => ?_)
  · refine AW.seq ?_
    refine AW.reg ?_
    refine Lp (V_move rfl rfl) rfl rfl ?_
    refine Lp (V_lss rfl rfl rfl) rfl rfl ?_
    refine Lp (V_move rfl rfl) rfl rfl ?_
    refine Lsplit 3 (decide (x21_2 < 16)) [(51, .bool ((decide (x21_2 < 16)) || (decide (1048576 < x21_2))))] ?_ ?_ ?_
    · intro e2 hk2
      refine Ln rfl rfl rfl rfl (.inl (by rw [e2]; rfl)) ?_
      refine Ln rfl rfl rfl rfl (.inl (by rw [e2]; rfl)) ?_
      refine Lp (V_pickT rfl (evb e2) rfl) rfl rfl ?_
      exact hk2 _ (FrLe.cons (by rw [e2]; rfl) (FrLe.nil _))
    · intro e2 hk2
      refine Lypb (V_move rfl rfl) rfl rfl rfl rfl e2 ?_
      refine Lypb (V_gtr rfl rfl rfl) rfl rfl rfl rfl e2 ?_
      refine Lp (V_pickF rfl (evb e2) rfl) rfl rfl ?_
      exact hk2 _ (FrLe.cons (by rw [e2]; rfl) (FrLe.nil _))
    intro fr hl
    refine Lfr hl ?_
    refine Lp (V_move rfl rfl) rfl rfl ?_
    refine LsplitJ 2 ((decide (x21_2 < 16)) || (decide (1048576 < x21_2))) (bor_iff decide_eq_true_iff decide_eq_true_iff) h (fun fr σ => ∃ (x54_11 : Bool), FrLe [(54, .bool x54_11)] fr ∧ j10_law04_WalKeeps B ro Q x54_11 σ) ?_ ?_ ?_
    · intro h e6 hk6
      refine Lyb rfl rfl rfl rfl e6 (X_call rfl Tryz.func28 rfl rfl rfl (ACalls.mono h ?_))
      rintro v σ ⟨x53_12, rfl, h⟩
      refine Lp (V_pickT rfl (evb e6) rfl) rfl rfl ?_
      exact hk6 _ _ ⟨_, (FrLe.cons rfl (FrLe.nil _)), h⟩
    · intro h e6 hk6
      refine Ln rfl rfl rfl rfl (.inl (by rw [e6]; rfl)) ?_
      refine Lp (V_pickF rfl (evb e6) rfl) rfl rfl ?_
      exact hk6 _ _ ⟨_, (FrLe.cons rfl (FrLe.nil _)), h⟩
    rintro fr σ ⟨x54_11, hl, h⟩
    unfold j10_law04_WalKeeps at h
    refine Lfr hl ?_
    refine Lp (V_asg rfl rfl) rfl rfl ?_
    refine Lnil ?_
    refine thenN ?_
    refine AW.ret ?_
    refine thenR ?_
    exact bR1 Tryz.results7 rfl ⟨_, rfl, h⟩
  refine AW.skip ?_
  refine thenN ?_
  refine AW.seqJ (fun fr σ => FrLe [(3, .int .i64 x21_2), (4, Sl.v x23_3), (5, Sl.v x25_4), (6, Sl.v x27_5), (7, .pointer x29_6), (9, .pointer x37_8)] fr ∧ j13_law04_WalKeeps B ro x21_2 x23_3 x25_4 x27_5 x29_6 x37_8 Q σ) ?_ ?_
  rotate_left
  · refine AW.seq ?_
    refine AW.reg ?_
    refine Lp (V_move rfl rfl) rfl rfl ?_
    refine Ls rfl rfl (X_call rfl Tryz.func31 rfl rfl rfl (ACalls.mono h ?_))
    rintro v σ ⟨x56_64, rfl, h⟩
    refine Lp (V_move rfl rfl) rfl rfl ?_
    refine Ls rfl rfl (X_call rfl Tryz.func31 rfl rfl rfl (ACalls.mono h ?_))
    rintro v σ ⟨x58_65, rfl, h⟩
    refine Ls rfl rfl (X_bi (s := Builtin.append_ #[44, 44] 44 #[Sl.v x56_64, Sl.v x58_65]) rfl rfl (fun _ => rfl) (awp_mono _ h ?_))
    rintro v σ ⟨x59_66, rfl, h⟩
    refine Lp (V_lenL rfl rfl Tryz.underlying44 rfl rfl) rfl rfl ?_
    refine Lp (V_move rfl rfl) rfl rfl ?_
    refine Lnil ?_
    refine thenN ?_
    refine AW.block ?_
    refine ARound.loop (fr' := [(3, .int .i64 x21_2), (4, Sl.v x23_3), (5, Sl.v x25_4), (6, Sl.v x27_5), (7, .pointer x29_6), (9, .pointer x37_8), (59, Sl.v x59_66), (60, .int .i64 (x59_66.len : Int)), (61, .int .i64 0)]) ?_ (FrLe.cons rfl (FrLe.cons rfl (FrLe.cons rfl (FrLe.cons rfl (FrLe.cons rfl (FrLe.cons rfl (FrLe.cons rfl (FrLe.cons rfl (FrLe.cons rfl (FrLe.nil _))))))))))
    refine h (fun x61_68 σ => ARound _ _ _ _ _ _ [(3, .int .i64 x21_2), (4, Sl.v x23_3), (5, Sl.v x25_4), (6, Sl.v x27_5), (7, .pointer x29_6), (9, .pointer x37_8), (59, Sl.v x59_66), (60, .int .i64 (x59_66.len : Int)), (61, .int .i64 x61_68)] σ) ?_
    rintro x61_68 σ Y67 hY67 h
    show AW _ _ _ _ _ _ _ _
    unfold l67_law04_WalKeeps at h
    refine AW.seq ?_
    refine AW.reg ?_
    refine Lp (V_lss rfl rfl rfl) rfl rfl ?_
    refine Lnil ?_
    refine thenN ?_
    refine AW.seq ?_
    refine AW.iff rfl decide_eq_true_iff h (fun h => ?_) (fun h => ?_)
    rotate_left
    · refine AW.exit ?_
      refine thenE ?_
      refine thenE ?_
      refine blockE ?_
      refine thenN ?_
      exact ⟨(FrLe.cons rfl (FrLe.cons rfl (FrLe.cons rfl (FrLe.cons rfl (FrLe.cons rfl (FrLe.cons rfl (FrLe.nil _))))))), h⟩
    refine AW.skip ?_
    refine thenN ?_
    refine AW.seq ?_
    refine AW.block ?_
    refine AW.seq ?_
    refine AW.reg ?_
    obtain ⟨p63_69, ha, h0, h1, h⟩ := h
    refine Lp (V_ixA rfl Tryz.underlying44 ty22 (ixL rfl ha) rfl h0 h1) rfl rfl ?_
    obtain ⟨x64_70, hc, h⟩ := h
    refine Ls rfl rfl (X_ld rfl Tryz.underlying22 rfl rfl hc ?_)
    refine Lp (V_asg rfl rfl) rfl rfl ?_
    refine Lnil ?_
    refine thenN ?_
    refine AW.seq ?_
    refine AW.reg ?_
    refine Lp (V_move rfl rfl) rfl rfl ?_
    refine Lp (V_lenL rfl rfl Tryz.underlying22 rfl rfl) rfl rfl ?_
    refine Lp (V_gtr rfl rfl rfl) rfl rfl ?_
    refine Lnil ?_
    refine thenN ?_
    refine AW.iff rfl decide_eq_true_iff h (fun h => ?_) (fun h => ?_)
    · refine AW.seq ?_
      refine AW.reg ?_
      refine Ls rfl rfl (X_call rfl Tryz.func28 rfl rfl rfl (ACalls.mono h ?_))
      rintro v σ ⟨x68_71, rfl, h⟩
      refine Lp (V_asg rfl rfl) rfl rfl ?_
      refine Lnil ?_
      refine thenN ?_
      refine AW.ret ?_
      refine blockR ?_
      refine thenR ?_
      refine thenR ?_
      refine blockR ?_
      refine thenR ?_
      exact bR1 Tryz.results7 rfl ⟨_, rfl, h⟩
    refine AW.skip ?_
    refine blockN ?_
    refine thenN ?_
    refine AW.reg ?_
    refine Lp (V_add rfl rfl rfl) rfl rfl ?_
    refine Lp (V_move rfl rfl) rfl rfl ?_
    refine Lnil ?_
    refine thenN ?_
    refine ARound.head (fr' := [(3, .int .i64 x21_2), (4, Sl.v x23_3), (5, Sl.v x25_4), (6, Sl.v x27_5), (7, .pointer x29_6), (9, .pointer x37_8), (59, Sl.v x59_66), (60, .int .i64 (x59_66.len : Int)), (61, .int .i64 (IntKind.i64.wrap (x61_68 + 1)))]) ?_ (FrLe.cons rfl (FrLe.cons rfl (FrLe.cons rfl (FrLe.cons rfl (FrLe.cons rfl (FrLe.cons rfl (FrLe.cons rfl (FrLe.cons rfl (FrLe.cons rfl (FrLe.nil _))))))))))
    exact hY67 _ _ h
  rintro fr σ ⟨hl, h⟩
  refine AW.weaken ?_ hl (HLe.refl _)
  unfold j13_law04_WalKeeps at h
  refine AW.seq ?_
  refine AW.seq ?_
  refine AW.reg ?_
  refine Lp (V_move rfl rfl) rfl rfl ?_
  refine Lp (V_lenL rfl rfl Tryz.underlying44 rfl rfl) rfl rfl ?_
  refine Lp (V_move rfl rfl) rfl rfl ?_
  refine Lp (V_lenL rfl rfl Tryz.underlying44 rfl rfl) rfl rfl ?_
  refine Lp (V_add rfl rfl rfl) rfl rfl ?_
  refine Lp (V_gtr rfl rfl rfl) rfl rfl ?_
  refine Lp (V_move rfl rfl) rfl rfl ?_
  refine LsplitJ 6 (decide (1000 < (IntKind.i64.wrap ((x23_3.len : Int) + (x25_4.len : Int))))) decide_eq_true_iff h (fun fr σ => ∃ (x82_15 : Bool), FrLe [(3, .int .i64 x21_2), (4, Sl.v x23_3), (5, Sl.v x25_4), (6, Sl.v x27_5), (7, .pointer x29_6), (9, .pointer x37_8), (82, .bool x82_15)] fr ∧ j14_law04_WalKeeps B ro x21_2 x23_3 x25_4 x27_5 x29_6 x37_8 Q x82_15 σ) ?_ ?_ ?_
  · intro h e6 hk6
    refine Ln rfl rfl rfl rfl (.inl (by rw [e6]; rfl)) ?_
    refine Ln rfl rfl rfl rfl (.inl (by rw [e6]; rfl)) ?_
    refine Ln rfl rfl rfl rfl (.inl (by rw [e6]; rfl)) ?_
    refine Ln rfl rfl rfl rfl (.inl (by rw [e6]; rfl)) ?_
    refine Ln rfl rfl rfl rfl (.inl (by rw [e6]; rfl)) ?_
    refine Lp (V_pickT rfl (evb e6) rfl) rfl rfl ?_
    exact hk6 _ _ ⟨_, (FrLe.cons rfl (FrLe.cons rfl (FrLe.cons rfl (FrLe.cons rfl (FrLe.cons rfl (FrLe.cons rfl (FrLe.cons rfl (FrLe.nil _)))))))), h⟩
  · intro h e6 hk6
    refine Lypb (V_move rfl rfl) rfl rfl rfl rfl e6 ?_
    refine Lypb (V_move rfl rfl) rfl rfl rfl rfl e6 ?_
    refine Lyb rfl rfl rfl rfl e6 (X_call rfl Tryz.func31 rfl rfl rfl (ACalls.mono h ?_))
    rintro v σ ⟨x79_62, rfl, h⟩
    refine Lyb rfl rfl rfl rfl e6 (X_call rfl Tryz.func30 rfl rfl rfl (ACalls.mono h ?_))
    rintro v σ ⟨x80_63, rfl, h⟩
    refine Lypb (V_neq rfl rfl rfl) rfl rfl rfl rfl e6 ?_
    refine Lp (V_pickF rfl (evb e6) rfl) rfl rfl ?_
    exact hk6 _ _ ⟨_, (FrLe.cons rfl (FrLe.cons rfl (FrLe.cons rfl (FrLe.cons rfl (FrLe.cons rfl (FrLe.cons rfl (FrLe.cons rfl (FrLe.nil _)))))))), h⟩
  rintro fr σ ⟨x82_15, hl, h⟩
  unfold j14_law04_WalKeeps at h
  refine Lfr hl ?_
  refine Lp (V_move rfl rfl) rfl rfl ?_
  refine LsplitJ 4 x82_15 Iff.rfl h (fun fr σ => ∃ (x87_17 : Bool), FrLe [(3, .int .i64 x21_2), (4, Sl.v x23_3), (5, Sl.v x25_4), (6, Sl.v x27_5), (7, .pointer x29_6), (9, .pointer x37_8), (87, .bool x87_17)] fr ∧ j16_law04_WalKeeps B ro x21_2 x23_3 x25_4 x27_5 x29_6 x37_8 Q x87_17 σ) ?_ ?_ ?_
  · intro h e13 hk13
    refine Ln rfl rfl rfl rfl (.inl (by rw [e13]; rfl)) ?_
    refine Ln rfl rfl rfl rfl (.inl (by rw [e13]; rfl)) ?_
    refine Ln rfl rfl rfl rfl (.inl (by rw [e13]; rfl)) ?_
    refine Lp (V_pickT rfl (evb e13) rfl) rfl rfl ?_
    exact hk13 _ _ ⟨_, (FrLe.cons rfl (FrLe.cons rfl (FrLe.cons rfl (FrLe.cons rfl (FrLe.cons rfl (FrLe.cons rfl (FrLe.cons rfl (FrLe.nil _)))))))), h⟩
  · intro h e13 hk13
    refine Lypb (V_move rfl rfl) rfl rfl rfl rfl e13 ?_
    refine Lyb rfl rfl rfl rfl e13 (X_call rfl Tryz.func33 rfl rfl rfl (ACalls.mono h ?_))
    rintro v σ ⟨x85_61, rfl, h⟩
    refine Lypb (V_neq rfl rfl rfl) rfl rfl rfl rfl e13 ?_
    refine Lp (V_pickF rfl (evb e13) rfl) rfl rfl ?_
    exact hk13 _ _ ⟨_, (FrLe.cons rfl (FrLe.cons rfl (FrLe.cons rfl (FrLe.cons rfl (FrLe.cons rfl (FrLe.cons rfl (FrLe.cons rfl (FrLe.nil _)))))))), h⟩
  rintro fr σ ⟨x87_17, hl, h⟩
  unfold j16_law04_WalKeeps at h
  refine Lfr hl ?_
  refine Lp (V_move rfl rfl) rfl rfl ?_
  refine LsplitJ 6 x87_17 Iff.rfl h (fun fr σ => ∃ (x94_19 : Bool), FrLe [(3, .int .i64 x21_2), (4, Sl.v x23_3), (5, Sl.v x25_4), (6, Sl.v x27_5), (7, .pointer x29_6), (9, .pointer x37_8), (94, .bool x94_19)] fr ∧ j18_law04_WalKeeps B ro x21_2 x23_3 x25_4 x27_5 x29_6 x37_8 Q x94_19 σ) ?_ ?_ ?_
  · intro h e18 hk18
    refine Ln rfl rfl rfl rfl (.inl (by rw [e18]; rfl)) ?_
    refine Ln rfl rfl rfl rfl (.inl (by rw [e18]; rfl)) ?_
    refine Ln rfl rfl rfl rfl (.inl (by rw [e18]; rfl)) ?_
    refine Ln rfl rfl rfl rfl (.inl (by rw [e18]; rfl)) ?_
    refine Ln rfl rfl rfl rfl (.inl (by rw [e18]; rfl)) ?_
    refine Lp (V_pickT rfl (evb e18) rfl) rfl rfl ?_
    exact hk18 _ _ ⟨_, (FrLe.cons rfl (FrLe.cons rfl (FrLe.cons rfl (FrLe.cons rfl (FrLe.cons rfl (FrLe.cons rfl (FrLe.cons rfl (FrLe.nil _)))))))), h⟩
  · intro h e18 hk18
    refine Lypb (V_move rfl rfl) rfl rfl rfl rfl e18 ?_
    refine Lypb (V_move rfl rfl) rfl rfl rfl rfl e18 ?_
    refine Lyb rfl rfl rfl rfl e18 (X_call rfl Tryz.func31 rfl rfl rfl (ACalls.mono h ?_))
    rintro v σ ⟨x91_59, rfl, h⟩
    refine Lyb rfl rfl rfl rfl e18 (X_call rfl Tryz.func30 rfl rfl rfl (ACalls.mono h ?_))
    rintro v σ ⟨x92_60, rfl, h⟩
    refine Lypb (V_neq rfl rfl rfl) rfl rfl rfl rfl e18 ?_
    refine Lp (V_pickF rfl (evb e18) rfl) rfl rfl ?_
    exact hk18 _ _ ⟨_, (FrLe.cons rfl (FrLe.cons rfl (FrLe.cons rfl (FrLe.cons rfl (FrLe.cons rfl (FrLe.cons rfl (FrLe.cons rfl (FrLe.nil _)))))))), h⟩
  rintro fr σ ⟨x94_19, hl, h⟩
  unfold j18_law04_WalKeeps at h
  refine Lfr hl ?_
  refine Lp (V_move rfl rfl) rfl rfl ?_
  refine LsplitJ 6 x94_19 Iff.rfl h (fun fr σ => ∃ (x101_21 : Bool), FrLe [(3, .int .i64 x21_2), (4, Sl.v x23_3), (5, Sl.v x25_4), (6, Sl.v x27_5), (7, .pointer x29_6), (9, .pointer x37_8), (101, .bool x101_21)] fr ∧ j20_law04_WalKeeps B ro x21_2 x23_3 x25_4 x27_5 x29_6 x37_8 Q x101_21 σ) ?_ ?_ ?_
  · intro h e25 hk25
    refine Ln rfl rfl rfl rfl (.inl (by rw [e25]; rfl)) ?_
    refine Ln rfl rfl rfl rfl (.inl (by rw [e25]; rfl)) ?_
    refine Ln rfl rfl rfl rfl (.inl (by rw [e25]; rfl)) ?_
    refine Ln rfl rfl rfl rfl (.inl (by rw [e25]; rfl)) ?_
    refine Ln rfl rfl rfl rfl (.inl (by rw [e25]; rfl)) ?_
    refine Lp (V_pickT rfl (evb e25) rfl) rfl rfl ?_
    exact hk25 _ _ ⟨_, (FrLe.cons rfl (FrLe.cons rfl (FrLe.cons rfl (FrLe.cons rfl (FrLe.cons rfl (FrLe.cons rfl (FrLe.cons rfl (FrLe.nil _)))))))), h⟩
  · intro h e25 hk25
    refine Lypb (V_move rfl rfl) rfl rfl rfl rfl e25 ?_
    refine Lyb rfl rfl rfl rfl e25 (X_call rfl Tryz.func35 rfl rfl rfl (ACalls.mono h ?_))
    rintro v σ ⟨x97_58, rfl, h⟩
    refine Lypb (V_move rfl rfl) rfl rfl rfl rfl e25 ?_
    refine Lypb (V_lenL rfl rfl Tryz.underlying44 rfl rfl) rfl rfl rfl rfl e25 ?_
    refine Lypb (V_lss rfl rfl rfl) rfl rfl rfl rfl e25 ?_
    refine Lp (V_pickF rfl (evb e25) rfl) rfl rfl ?_
    exact hk25 _ _ ⟨_, (FrLe.cons rfl (FrLe.cons rfl (FrLe.cons rfl (FrLe.cons rfl (FrLe.cons rfl (FrLe.cons rfl (FrLe.cons rfl (FrLe.nil _)))))))), h⟩
  rintro fr σ ⟨x101_21, hl, h⟩
  unfold j20_law04_WalKeeps at h
  refine Lfr hl ?_
  refine Lnil ?_
  refine thenN ?_
  refine AW.iff rfl Iff.rfl h (fun h => ?_) (fun h => ?_)
  · refine AW.seq ?_
    refine AW.reg ?_
    refine Lp (V_move rfl rfl) rfl rfl ?_
    refine Lp (V_lenL rfl rfl Tryz.underlying44 rfl rfl) rfl rfl ?_
    refine Lp (V_move rfl rfl) rfl rfl ?_
    refine Lp (V_lenL rfl rfl Tryz.underlying44 rfl rfl) rfl rfl ?_
    refine Lp (V_add rfl rfl rfl) rfl rfl ?_
    refine Lp (V_gtr rfl rfl rfl) rfl rfl ?_
    refine Lp (V_move rfl rfl) rfl rfl ?_
    refine LsplitJ 2 (decide (1000 < (IntKind.i64.wrap ((x23_3.len : Int) + (x25_4.len : Int))))) decide_eq_true_iff h (fun fr σ => ∃ (x110_23 : Bool), FrLe [(110, .bool x110_23)] fr ∧ j22_law04_WalKeeps B ro Q x110_23 σ) ?_ ?_ ?_
    · intro h e6 hk6
      refine Lyb rfl rfl rfl rfl e6 (X_call rfl Tryz.func28 rfl rfl rfl (ACalls.mono h ?_))
      rintro v σ ⟨x109_24, rfl, h⟩
      refine Lp (V_pickT rfl (evb e6) rfl) rfl rfl ?_
      exact hk6 _ _ ⟨_, (FrLe.cons rfl (FrLe.nil _)), h⟩
    · intro h e6 hk6
      refine Ln rfl rfl rfl rfl (.inl (by rw [e6]; rfl)) ?_
      refine Lp (V_pickF rfl (evb e6) rfl) rfl rfl ?_
      exact hk6 _ _ ⟨_, (FrLe.cons rfl (FrLe.nil _)), h⟩
    rintro fr σ ⟨x110_23, hl, h⟩
    unfold j22_law04_WalKeeps at h
    refine Lfr hl ?_
    refine Lp (V_asg rfl rfl) rfl rfl ?_
    refine Lnil ?_
    refine thenN ?_
    refine AW.ret ?_
    refine thenR ?_
    exact bR1 Tryz.results7 rfl ⟨_, rfl, h⟩
  refine AW.skip ?_
  refine thenN ?_
  refine AW.seq ?_
  refine AW.reg ?_
  refine Lp (V_move rfl rfl) rfl rfl ?_
  refine Ls rfl rfl (X_call rfl Tryz.func35 rfl rfl rfl (ACalls.mono h ?_))
  rintro v σ ⟨x112_25, rfl, h⟩
  refine Lp (V_asg rfl rfl) rfl rfl ?_
  refine Lnil ?_
  refine thenN ?_
  refine AW.seq ?_
  refine AW.reg ?_
  refine Lp (V_move rfl rfl) rfl rfl ?_
  refine Lp (V_move rfl rfl) rfl rfl ?_
  refine Ls rfl rfl (X_call rfl Tryz.func16 rfl rfl rfl (ACalls.mono h ?_))
  rintro v σ ⟨x115_26, rfl, h⟩
  refine Ls rfl rfl (X_call rfl Tryz.func15 rfl rfl rfl (ACalls.mono h ?_))
  rintro v σ ⟨rfl, h⟩
  refine Lnil ?_
  refine thenN ?_
  refine AW.seq ?_
  refine AW.reg ?_
  refine Lp (V_move rfl rfl) rfl rfl ?_
  refine Lp (V_move rfl rfl) rfl rfl ?_
  refine Ls rfl rfl (X_call rfl Tryz.func29 rfl rfl rfl (ACalls.mono h ?_))
  rintro v σ ⟨x120_27, x120_28, rfl, h⟩
  refine Lp (V_move rfl rfl) rfl rfl ?_
  refine Lp (V_ext rfl rfl rfl) rfl rfl ?_
  refine Lp (V_ext rfl rfl rfl) rfl rfl ?_
  refine Lp (V_asg rfl rfl) rfl rfl ?_
  refine Lp (V_asg rfl rfl) rfl rfl ?_
  refine Lnil ?_
  refine thenN ?_
  refine AW.seq ?_
  refine AW.seq ?_
  refine AW.reg ?_
  refine Lp (V_move rfl rfl) rfl rfl ?_
  refine Lp (V_eqP rfl Tryz.underlying68 rfl rfl) rfl rfl ?_
  refine Lp (V_move rfl rfl) rfl rfl ?_
  refine Lsplit 3 x120_27.isNone [(4, Sl.v x23_3), (5, Sl.v x25_4), (13, .int .i64 x112_25), (14, .pointer x120_27), (128, .bool (x120_27.isNone || (!(decide (x120_28 = 0)))))] ?_ ?_ ?_
  · intro e2 hk2
    refine Ln rfl rfl rfl rfl (.inl (by rw [e2]; rfl)) ?_
    refine Ln rfl rfl rfl rfl (.inl (by rw [e2]; rfl)) ?_
    refine Lp (V_pickT rfl (evb e2) rfl) rfl rfl ?_
    exact hk2 _ (FrLe.cons rfl (FrLe.cons rfl (FrLe.cons rfl (FrLe.cons rfl (FrLe.cons (by rw [e2]; rfl) (FrLe.nil _))))))
  · intro e2 hk2
    refine Lypb (V_move rfl rfl) rfl rfl rfl rfl e2 ?_
    refine Lypb (V_neq rfl rfl rfl) rfl rfl rfl rfl e2 ?_
    refine Lp (V_pickF rfl (evb e2) rfl) rfl rfl ?_
    exact hk2 _ (FrLe.cons rfl (FrLe.cons rfl (FrLe.cons rfl (FrLe.cons rfl (FrLe.cons (by rw [e2]; rfl) (FrLe.nil _))))))
  intro fr hl
  refine Lfr hl ?_
  refine Lp (V_move rfl rfl) rfl rfl ?_
  refine LsplitJ 5 (x120_27.isNone || (!(decide (x120_28 = 0)))) (bor_iff isNone_iff (bnot_iff decide_eq_true_iff)) h (fun fr σ => ∃ (x134_30 : Bool), FrLe [(4, Sl.v x23_3), (5, Sl.v x25_4), (14, .pointer x120_27), (134, .bool x134_30)] fr ∧ j29_law04_WalKeeps B ro x23_3 x25_4 x120_27 Q x134_30 σ) ?_ ?_ ?_
  · intro h e6 hk6
    refine Ln rfl rfl rfl rfl (.inl (by rw [e6]; rfl)) ?_
    refine Ln rfl rfl rfl rfl (.inl (by rw [e6]; rfl)) ?_
    refine Ln rfl rfl rfl rfl (.inl (by rw [e6]; rfl)) ?_
    refine Ln rfl rfl rfl rfl (.inl (by rw [e6]; rfl)) ?_
    refine Lp (V_pickT rfl (evb e6) rfl) rfl rfl ?_
    exact hk6 _ _ ⟨_, (FrLe.cons rfl (FrLe.cons rfl (FrLe.cons rfl (FrLe.cons rfl (FrLe.nil _))))), h⟩
  · intro h e6 hk6
    refine Lypb (V_move rfl rfl) rfl rfl rfl rfl e6 ?_
    refine Lyb rfl rfl rfl rfl e6 (X_call rfl Tryz.func32 rfl rfl rfl (ACalls.mono h ?_))
    rintro v σ ⟨x131_57, rfl, h⟩
    refine Lypb (V_move rfl rfl) rfl rfl rfl rfl e6 ?_
    refine Lypb (V_lss rfl rfl rfl) rfl rfl rfl rfl e6 ?_
    refine Lp (V_pickF rfl (evb e6) rfl) rfl rfl ?_
    exact hk6 _ _ ⟨_, (FrLe.cons rfl (FrLe.cons rfl (FrLe.cons rfl (FrLe.cons rfl (FrLe.nil _))))), h⟩
  rintro fr σ ⟨x134_30, hl, h⟩
  unfold j29_law04_WalKeeps at h
  refine Lfr hl ?_
  refine Lp (V_move rfl rfl) rfl rfl ?_
  refine LsplitJ 9 x134_30 Iff.rfl h (fun fr σ => ∃ (x144_32 : Bool), FrLe [(4, Sl.v x23_3), (5, Sl.v x25_4), (14, .pointer x120_27), (144, .bool x144_32)] fr ∧ j31_law04_WalKeeps B ro x23_3 x25_4 x120_27 Q x144_32 σ) ?_ ?_ ?_
  · intro h e12 hk12
    refine Ln rfl rfl rfl rfl (.inl (by rw [e12]; rfl)) ?_
    refine Ln rfl rfl rfl rfl (.inl (by rw [e12]; rfl)) ?_
    refine Ln rfl rfl rfl rfl (.inl (by rw [e12]; rfl)) ?_
    refine Ln rfl rfl rfl rfl (.inl (by rw [e12]; rfl)) ?_
    refine Ln rfl rfl rfl rfl (.inl (by rw [e12]; rfl)) ?_
    refine Ln rfl rfl rfl rfl (.inl (by rw [e12]; rfl)) ?_
    refine Ln rfl rfl rfl rfl (.inl (by rw [e12]; rfl)) ?_
    refine Ln rfl rfl rfl rfl (.inl (by rw [e12]; rfl)) ?_
    refine Lp (V_pickT rfl (evb e12) rfl) rfl rfl ?_
    exact hk12 _ _ ⟨_, (FrLe.cons rfl (FrLe.cons rfl (FrLe.cons rfl (FrLe.cons rfl (FrLe.nil _))))), h⟩
  · intro h e12 hk12
    refine Lypb (V_move rfl rfl) rfl rfl rfl rfl e12 ?_
    refine Lyb rfl rfl rfl rfl e12 (X_call rfl Tryz.func32 rfl rfl rfl (ACalls.mono h ?_))
    rintro v σ ⟨x137_56, rfl, h⟩
    refine Lypb (V_move rfl rfl) rfl rfl rfl rfl e12 ?_
    refine Lypb (V_lenL rfl rfl Tryz.underlying44 rfl rfl) rfl rfl rfl rfl e12 ?_
    refine Lypb (V_move rfl rfl) rfl rfl rfl rfl e12 ?_
    refine Lypb (V_lenL rfl rfl Tryz.underlying44 rfl rfl) rfl rfl rfl rfl e12 ?_
    refine Lypb (V_add rfl rfl rfl) rfl rfl rfl rfl e12 ?_
    refine Lypb (V_gtr rfl rfl rfl) rfl rfl rfl rfl e12 ?_
    refine Lp (V_pickF rfl (evb e12) rfl) rfl rfl ?_
    exact hk12 _ _ ⟨_, (FrLe.cons rfl (FrLe.cons rfl (FrLe.cons rfl (FrLe.cons rfl (FrLe.nil _))))), h⟩
  rintro fr σ ⟨x144_32, hl, h⟩
  unfold j31_law04_WalKeeps at h
  refine Lfr hl ?_
  refine Lp (V_move rfl rfl) rfl rfl ?_
  refine LsplitJ 4 x144_32 Iff.rfl h (fun fr σ => ∃ (x149_34 : Bool), FrLe [(4, Sl.v x23_3), (5, Sl.v x25_4), (14, .pointer x120_27), (149, .bool x149_34)] fr ∧ j33_law04_WalKeeps B ro x23_3 x25_4 x120_27 Q x149_34 σ) ?_ ?_ ?_
  · intro h e22 hk22
    refine Ln rfl rfl rfl rfl (.inl (by rw [e22]; rfl)) ?_
    refine Ln rfl rfl rfl rfl (.inl (by rw [e22]; rfl)) ?_
    refine Ln rfl rfl rfl rfl (.inl (by rw [e22]; rfl)) ?_
    refine Lp (V_pickT rfl (evb e22) rfl) rfl rfl ?_
    exact hk22 _ _ ⟨_, (FrLe.cons rfl (FrLe.cons rfl (FrLe.cons rfl (FrLe.cons rfl (FrLe.nil _))))), h⟩
  · intro h e22 hk22
    refine Lypb (V_move rfl rfl) rfl rfl rfl rfl e22 ?_
    refine Lyb rfl rfl rfl rfl e22 (X_call rfl Tryz.func36 rfl rfl rfl (ACalls.mono h ?_))
    rintro v σ ⟨x147_55, rfl, h⟩
    refine Lypb (V_neq rfl rfl rfl) rfl rfl rfl rfl e22 ?_
    refine Lp (V_pickF rfl (evb e22) rfl) rfl rfl ?_
    exact hk22 _ _ ⟨_, (FrLe.cons rfl (FrLe.cons rfl (FrLe.cons rfl (FrLe.cons rfl (FrLe.nil _))))), h⟩
  rintro fr σ ⟨x149_34, hl, h⟩
  unfold j33_law04_WalKeeps at h
  refine Lfr hl ?_
  refine Lnil ?_
  refine thenN ?_
  refine AW.iff rfl Iff.rfl h (fun h => ?_) (fun h => ?_)
  · refine AW.seq ?_
    refine AW.reg ?_
    refine Lp (V_asg rfl rfl) rfl rfl ?_
    refine Lnil ?_
    refine thenN ?_
    refine AW.ret ?_
    refine thenR ?_
    exact bR1 Tryz.results7 rfl ⟨_, rfl, h⟩
  refine AW.skip ?_
  refine thenN ?_
  refine AW.seqJ (fun fr σ => FrLe [] fr ∧ j35_law04_WalKeeps B ro Q σ) ?_ ?_
  · rintro fr σ ⟨hl, h⟩
    refine AW.weaken ?_ hl (HLe.refl _)
    unfold j35_law04_WalKeeps at h
    refine AW.seq ?_
    refine AW.reg ?_
    refine Ls rfl rfl (X_call rfl Tryz.func28 rfl rfl rfl (ACalls.mono h ?_))
    rintro v σ ⟨x192_36, rfl, h⟩
    refine Lp (V_asg rfl rfl) rfl rfl ?_
    refine Lnil ?_
    refine thenN ?_
    refine AW.ret ?_
    exact bR1 Tryz.results7 rfl ⟨_, rfl, h⟩
  refine AW.seq ?_
  refine AW.reg ?_
  refine Lp (V_move rfl rfl) rfl rfl ?_
  refine Ls rfl rfl (X_call rfl Tryz.func31 rfl rfl rfl (ACalls.mono h ?_))
  rintro v σ ⟨x151_37, rfl, h⟩
  refine Lp (V_move rfl rfl) rfl rfl ?_
  refine Ls rfl rfl (X_call rfl Tryz.func31 rfl rfl rfl (ACalls.mono h ?_))
  rintro v σ ⟨x153_38, rfl, h⟩
  refine Ls rfl rfl (X_bi (s := Builtin.append_ #[44, 44] 44 #[Sl.v x151_37, Sl.v x153_38]) rfl rfl (fun _ => rfl) (awp_mono _ h ?_))
  rintro v σ ⟨x154_39, rfl, h⟩
  refine Lp (V_lenL rfl rfl Tryz.underlying44 rfl rfl) rfl rfl ?_
  refine Lp (V_move rfl rfl) rfl rfl ?_
  refine Lnil ?_
  refine thenN ?_
  refine AW.block ?_
  refine ARound.loop (fr' := [(14, .pointer x120_27), (154, Sl.v x154_39), (155, .int .i64 (x154_39.len : Int)), (156, .int .i64 0)]) ?_ (FrLe.cons rfl (FrLe.cons rfl (FrLe.cons rfl (FrLe.cons rfl (FrLe.nil _)))))
  refine h (fun x156_41 σ => ARound _ _ _ _ _ _ [(14, .pointer x120_27), (154, Sl.v x154_39), (155, .int .i64 (x154_39.len : Int)), (156, .int .i64 x156_41)] σ) ?_
  rintro x156_41 σ Y40 hY40 h
  show AW _ _ _ _ _ _ _ _
  unfold l40_law04_WalKeeps at h
  refine AW.seq ?_
  refine AW.reg ?_
  refine Lp (V_lss rfl rfl rfl) rfl rfl ?_
  refine Lnil ?_
  refine thenN ?_
  refine AW.seq ?_
  refine AW.iff rfl decide_eq_true_iff h (fun h => ?_) (fun h => ?_)
  rotate_left
  · refine AW.exit ?_
    refine thenE ?_
    refine thenE ?_
    refine blockE ?_
    refine thenN ?_
    exact ⟨(FrLe.nil _), h⟩
  refine AW.skip ?_
  refine thenN ?_
  refine AW.seq ?_
  refine AW.block ?_
  refine AW.seq ?_
  refine AW.reg ?_
  refine Lp (V_move rfl rfl) rfl rfl ?_
  obtain ⟨p159_42, ha, h0, h1, h⟩ := h
  refine Lp (V_ixA rfl Tryz.underlying44 ty22 (ixL rfl ha) rfl h0 h1) rfl rfl ?_
  obtain ⟨x160_43, hc, h⟩ := h
  refine Ls rfl rfl (X_ld rfl Tryz.underlying22 rfl rfl hc ?_)
  refine Lp (V_asg rfl rfl) rfl rfl ?_
  refine Lp (V_asg rfl rfl) rfl rfl ?_
  refine Lnil ?_
  refine thenN ?_
  refine AW.seq ?_
  refine AW.reg ?_
  refine Lp (V_move rfl rfl) rfl rfl ?_
  refine Lp (V_move rfl rfl) rfl rfl ?_
  refine Ls rfl rfl (X_call rfl Tryz.func34 rfl rfl rfl (ACalls.mono h ?_))
  rintro v σ ⟨x164_44, x164_45, rfl, h⟩
  refine Lp (V_move rfl rfl) rfl rfl ?_
  refine Lp (V_ext rfl rfl rfl) rfl rfl ?_
  refine Lp (V_ext rfl rfl rfl) rfl rfl ?_
  refine Lp (V_asg rfl rfl) rfl rfl ?_
  refine Lp (V_asg rfl rfl) rfl rfl ?_
  refine Lnil ?_
  refine thenN ?_
  refine AW.seq ?_
  refine AW.reg ?_
  refine Lp (V_move rfl rfl) rfl rfl ?_
  refine Lp (V_move rfl rfl) rfl rfl ?_
  refine Ls rfl rfl (X_call rfl Tryz.func32 rfl rfl rfl (ACalls.mono h ?_))
  rintro v σ ⟨x169_46, rfl, h⟩
  refine Lp (V_lss rfl rfl rfl) rfl rfl ?_
  refine Lp (V_move rfl rfl) rfl rfl ?_
  refine LsplitJ 9 (decide (x156_41 < x169_46)) decide_eq_true_iff h (fun fr σ => ∃ (x180_48 : Bool), FrLe [(14, .pointer x120_27), (16, .int .i64 x156_41), (19, .int .i64 x164_45), (154, Sl.v x154_39), (155, .int .i64 (x154_39.len : Int)), (156, .int .i64 x156_41), (180, .bool x180_48)] fr ∧ j47_law04_WalKeeps B ro x120_27 x154_39 x156_41 x164_45 Q Y40 x180_48 σ) ?_ ?_ ?_
  · intro h e4 hk4
    refine Lypb (V_move rfl rfl) rfl rfl rfl rfl e4 ?_
    refine Lypb (V_neq rfl rfl rfl) rfl rfl rfl rfl e4 ?_
    refine Lypb (V_move rfl rfl) rfl rfl rfl rfl e4 ?_
    refine LsplitJ 5 (!(decide (x164_45 = 0))) (bnot_iff decide_eq_true_iff) h (fun fr σ => ∃ (x179_53 : Bool), FrLe [(14, .pointer x120_27), (16, .int .i64 x156_41), (19, .int .i64 x164_45), (154, Sl.v x154_39), (155, .int .i64 (x154_39.len : Int)), (156, .int .i64 x156_41), (171, .bool (decide (x156_41 < x169_46))), (179, .bool x179_53)] fr ∧ j52_law04_WalKeeps B ro x120_27 x154_39 x156_41 x164_45 x169_46 Q Y40 x179_53 σ) ?_ ?_ ?_
    · intro h e7 hk7
      refine Ln rfl rfl rfl rfl (.inl (by rw [e7]; rfl)) ?_
      refine Ln rfl rfl rfl rfl (.inl (by rw [e7]; rfl)) ?_
      refine Ln rfl rfl rfl rfl (.inl (by rw [e7]; rfl)) ?_
      refine Ln rfl rfl rfl rfl (.inl (by rw [e7]; rfl)) ?_
      refine Lypb (V_pickT rfl (evb e7) rfl) rfl rfl rfl rfl e4 ?_
      exact hk7 _ _ ⟨_, (FrLe.cons rfl (FrLe.cons rfl (FrLe.cons rfl (FrLe.cons rfl (FrLe.cons rfl (FrLe.cons rfl (FrLe.cons rfl (FrLe.cons rfl (FrLe.nil _))))))))), h⟩
    · intro h e7 hk7
      refine Lypb (V_move rfl rfl) rfl rfl rfl rfl e7 ?_
      refine Lypb (V_move rfl rfl) rfl rfl rfl rfl e7 ?_
      refine Lyb rfl rfl rfl rfl e7 (X_call rfl Tryz.func17 rfl rfl rfl (ACalls.mono h ?_))
      rintro v σ ⟨x177_54, rfl, h⟩
      refine Lypb (V_not rfl rfl) rfl rfl rfl rfl e7 ?_
      refine Lypb (V_pickF rfl (evb e7) rfl) rfl rfl rfl rfl e4 ?_
      exact hk7 _ _ ⟨_, (FrLe.cons rfl (FrLe.cons rfl (FrLe.cons rfl (FrLe.cons rfl (FrLe.cons rfl (FrLe.cons rfl (FrLe.cons rfl (FrLe.cons rfl (FrLe.nil _))))))))), h⟩
    rintro fr σ ⟨x179_53, hl, h⟩
    unfold j52_law04_WalKeeps at h
    refine Lfr hl ?_
    refine Lp (V_pickT rfl (evb e4) rfl) rfl rfl ?_
    exact hk4 _ _ ⟨_, (FrLe.cons rfl (FrLe.cons rfl (FrLe.cons rfl (FrLe.cons rfl (FrLe.cons rfl (FrLe.cons rfl (FrLe.cons rfl (FrLe.nil _)))))))), h⟩
  · intro h e4 hk4
    refine Ln rfl rfl rfl rfl (.inl (by rw [e4]; rfl)) ?_
    refine Ln rfl rfl rfl rfl (.inl (by rw [e4]; rfl)) ?_
    refine Ln rfl rfl rfl rfl (.inl (by rw [e4]; rfl)) ?_
    refine Ln rfl rfl rfl rfl (.inr rfl) ?_
    refine Ln rfl rfl rfl rfl (.inr rfl) ?_
    refine Ln rfl rfl rfl rfl (.inr rfl) ?_
    refine Ln rfl rfl rfl rfl (.inr rfl) ?_
    refine Ln rfl rfl rfl rfl (.inl (by rw [e4]; rfl)) ?_
    refine Lp (V_pickF rfl (evb e4) rfl) rfl rfl ?_
    exact hk4 _ _ ⟨_, (FrLe.cons rfl (FrLe.cons rfl (FrLe.cons rfl (FrLe.cons rfl (FrLe.cons rfl (FrLe.cons rfl (FrLe.cons rfl (FrLe.nil _)))))))), h⟩
  rintro fr σ ⟨x180_48, hl, h⟩
  unfold j47_law04_WalKeeps at h
  refine Lfr hl ?_
  refine Lp (V_move rfl rfl) rfl rfl ?_
  refine LsplitJ 9 x180_48 Iff.rfl h (fun fr σ => ∃ (x190_50 : Bool), FrLe [(14, .pointer x120_27), (154, Sl.v x154_39), (155, .int .i64 (x154_39.len : Int)), (156, .int .i64 x156_41), (190, .bool x190_50)] fr ∧ j49_law04_WalKeeps B ro x120_27 x154_39 x156_41 Q Y40 x190_50 σ) ?_ ?_ ?_
  · intro h e14 hk14
    refine Ln rfl rfl rfl rfl (.inl (by rw [e14]; rfl)) ?_
    refine Ln rfl rfl rfl rfl (.inl (by rw [e14]; rfl)) ?_
    refine Ln rfl rfl rfl rfl (.inl (by rw [e14]; rfl)) ?_
    refine Ln rfl rfl rfl rfl (.inl (by rw [e14]; rfl)) ?_
    refine Ln rfl rfl rfl rfl (.inl (by rw [e14]; rfl)) ?_
    refine Ln rfl rfl rfl rfl (.inr rfl) ?_
    refine Ln rfl rfl rfl rfl (.inr rfl) ?_
    refine Ln rfl rfl rfl rfl (.inl (by rw [e14]; rfl)) ?_
    refine Lp (V_pickT rfl (evb e14) rfl) rfl rfl ?_
    exact hk14 _ _ ⟨_, (FrLe.cons rfl (FrLe.cons rfl (FrLe.cons rfl (FrLe.cons rfl (FrLe.cons rfl (FrLe.nil _)))))), h⟩
  · intro h e14 hk14
    refine Lypb (V_move rfl rfl) rfl rfl rfl rfl e14 ?_
    refine Lypb (V_move rfl rfl) rfl rfl rfl rfl e14 ?_
    refine Lyb rfl rfl rfl rfl e14 (X_call rfl Tryz.func32 rfl rfl rfl (ACalls.mono h ?_))
    rintro v σ ⟨x184_51, rfl, h⟩
    refine Lypb (V_geq rfl rfl rfl) rfl rfl rfl rfl e14 ?_
    refine Lypb (V_move rfl rfl) rfl rfl rfl rfl e14 ?_
    refine Lsplit 3 (decide (x184_51 ≤ x156_41)) [(14, .pointer x120_27), (154, Sl.v x154_39), (155, .int .i64 (x154_39.len : Int)), (156, .int .i64 x156_41), (181, .bool x180_48), (189, .bool ((decide (x184_51 ≤ x156_41)) && (decide (x164_45 = 0))))] ?_ ?_ ?_
    · intro e19 hk19
      refine Lypb (V_move rfl rfl) rfl rfl rfl rfl e19 ?_
      refine Lypb (V_eql rfl rfl rfl) rfl rfl rfl rfl e19 ?_
      refine Lypb (V_pickT rfl (evb e19) rfl) rfl rfl rfl rfl e14 ?_
      exact hk19 _ (FrLe.cons rfl (FrLe.cons rfl (FrLe.cons rfl (FrLe.cons rfl (FrLe.cons rfl (FrLe.cons (by rw [e19]; rfl) (FrLe.nil _)))))))
    · intro e19 hk19
      refine Ln rfl rfl rfl rfl (.inl (by rw [e19]; rfl)) ?_
      refine Ln rfl rfl rfl rfl (.inl (by rw [e19]; rfl)) ?_
      refine Lypb (V_pickF rfl (evb e19) rfl) rfl rfl rfl rfl e14 ?_
      exact hk19 _ (FrLe.cons rfl (FrLe.cons rfl (FrLe.cons rfl (FrLe.cons rfl (FrLe.cons rfl (FrLe.cons (by rw [e19]; rfl) (FrLe.nil _)))))))
    intro fr hl
    refine Lfr hl ?_
    refine Lp (V_pickF rfl (evb e14) rfl) rfl rfl ?_
    exact hk14 _ _ ⟨_, (FrLe.cons rfl (FrLe.cons rfl (FrLe.cons rfl (FrLe.cons rfl (FrLe.cons rfl (FrLe.nil _)))))), h⟩
  rintro fr σ ⟨x190_50, hl, h⟩
  unfold j49_law04_WalKeeps at h
  refine Lfr hl ?_
  refine Lnil ?_
  refine thenN ?_
  refine AW.iff rfl Iff.rfl h (fun h => ?_) (fun h => ?_)
  · refine AW.seq ?_
    refine AW.reg ?_
    refine Lp (V_asg rfl rfl) rfl rfl ?_
    refine Lnil ?_
    refine thenN ?_
    refine AW.ret ?_
    refine blockR ?_
    refine thenR ?_
    refine thenR ?_
    refine blockR ?_
    refine thenR ?_
    exact bR1 Tryz.results7 rfl ⟨_, rfl, h⟩
  refine AW.skip ?_
  refine blockN ?_
  refine thenN ?_
  refine AW.reg ?_
  refine Lp (V_add rfl rfl rfl) rfl rfl ?_
  refine Lp (V_move rfl rfl) rfl rfl ?_
  refine Lnil ?_
  refine thenN ?_
  refine ARound.head (fr' := [(14, .pointer x120_27), (154, Sl.v x154_39), (155, .int .i64 (x154_39.len : Int)), (156, .int .i64 (IntKind.i64.wrap (x156_41 + 1)))]) ?_ (FrLe.cons rfl (FrLe.cons rfl (FrLe.cons rfl (FrLe.cons rfl (FrLe.nil _)))))
  exact hY40 _ _ h

def j13_law04_awake (B : World) (ro : AH) (Q : Bool → AH → Prop) (x53_14 : Bool) (σ : AH) : Prop :=
 Q x53_14 σ

def j11_law04_awake (B : World) (ro : AH) (x13_3 : Option Addr) (Q : Bool → AH → Prop) (x48_12 : Bool) (σ : AH) : Prop :=
 if x48_12 = true then
  c_wal_Log_Safe B ro x13_3 σ fun x51_15 σ =>
  j13_law04_awake B ro Q (decide (x51_15 = 0)) σ
 else
 j13_law04_awake B ro Q false σ

def j7_law04_awake (B : World) (ro : AH) (x13_3 : Option Addr) (Q : Bool → AH → Prop) (x36_8 : Bool) (σ : AH) : Prop :=
 if x36_8 = true then
  Q false σ
 else
 c_wal_Log_Get B ro x13_3 1 σ fun x39_9 x39_10 σ =>
 if x39_10 = 0 then
  awp Tryz.prog ro (convert 22 9 (Sl.v x39_9)) (fun v σ =>
   (∃ (x46_16 : ByteArray), v = .string x46_16 ∧
    j11_law04_awake B ro x13_3 Q (decide (x46_16 = (⟨#[98]⟩ : ByteArray))) σ)) σ
 else
 j11_law04_awake B ro x13_3 Q false σ

def j5_law04_awake (B : World) (ro : AH) (x13_3 : Option Addr) (Q : Bool → AH → Prop) (x31_6 : Bool) (σ : AH) : Prop :=
 if x31_6 = true then
  j7_law04_awake B ro x13_3 Q true σ
 else
 c_wal_Log_Next B ro x13_3 σ fun x34_17 σ =>
 j7_law04_awake B ro x13_3 Q (!(decide (x34_17 = 2))) σ

def f_law04_awake (B : World) (ro : AH) (σ : AH) (Q : Bool → AH → Prop) : Prop :=
 c_disk_New B ro 999 σ fun x8_1 x8_2 σ =>
 c_wal_Open B ro x8_1 (⟨#[108, 111, 103]⟩ : ByteArray) 100 σ fun x13_3 x13_4 σ =>
 if (x13_3 = none) ∨ (¬ (x13_4 = 0)) then
  j5_law04_awake B ro x13_3 Q true σ
 else
 nw ro σ (.cells #[.int .u8 97] 5) fun x24_18 σ =>
 awp Tryz.prog ro (convert 22 22 (Sl.v (⟨some ⟨x24_18, 0, none⟩, 1, 1⟩ : Sl))) (fun v σ =>
  (∃ (x25_19 : Sl), v = Sl.v x25_19 ∧
   nw ro σ (.cells #[.int .u8 98] 5) fun x26_20 σ =>
   awp Tryz.prog ro (convert 22 22 (Sl.v (⟨some ⟨x26_20, 0, none⟩, 1, 1⟩ : Sl))) (fun v σ =>
    (∃ (x27_21 : Sl), v = Sl.v x27_21 ∧
     nw ro σ (.cells #[Sl.v x25_19, Sl.v x27_21] 22) fun x28_22 σ =>
     c_wal_Log_Append B ro x13_3 (⟨some ⟨x28_22, 0, none⟩, 2, 2⟩ : Sl) σ fun x29_23 σ =>
     j5_law04_awake B ro x13_3 Q (!(decide (x29_23 = 0))) σ)) σ)) σ

set_option maxRecDepth 100000 in
set_option maxHeartbeats 4000000 in
theorem law04_awake_ok {B : World} {ro : AH} {σ : AH} {Q : Bool → AH → Prop} (h : Sep ro σ → f_law04_awake B ro σ Q) : c_law04_awake B ro σ Q := by
  refine ACalls.of_sep fun hsep => ?_
  replace h := h hsep
  refine ACalls.of_body (args := []) Tryz.func28 rfl (by rw [Tryz.ntmps28]; simp) ?_
  rw [Tryz.ntmps28]
  unfold f_law04_awake at h
  refine AW.seq ?_
  refine AW.reg ?_
  refine Lp (V_asg rfl rfl) rfl rfl ?_
  refine Lnil ?_
  refine thenN ?_
  refine AW.seq ?_
  refine AW.reg ?_
  refine Ls rfl rfl (X_call rfl Tryz.func9 rfl rfl rfl (ACalls.mono h ?_))
  rintro v σ ⟨x8_1, x8_2, rfl, h⟩
  refine Lp (V_move rfl rfl) rfl rfl ?_
  refine Lp (V_ext rfl rfl rfl) rfl rfl ?_
  refine Lp (V_ext rfl rfl rfl) rfl rfl ?_
  refine Lp (V_asg rfl rfl) rfl rfl ?_
  refine Lp (V_asg rfl rfl) rfl rfl ?_
  refine Lnil ?_
  refine thenN ?_
  refine AW.seq ?_
  refine AW.reg ?_
  refine Lp (V_move rfl rfl) rfl rfl ?_
  refine Ls rfl rfl (X_call rfl Tryz.func29 rfl rfl rfl (ACalls.mono h ?_))
  rintro v σ ⟨x13_3, x13_4, rfl, h⟩
  refine Lp (V_move rfl rfl) rfl rfl ?_
  refine Lp (V_ext rfl rfl rfl) rfl rfl ?_
  refine Lp (V_ext rfl rfl rfl) rfl rfl ?_
  refine Lp (V_asg rfl rfl) rfl rfl ?_
  refine Lp (V_asg rfl rfl) rfl rfl ?_
  refine Lnil ?_
  refine thenN ?_
  refine AW.seq ?_
  refine AW.seq ?_
  refine AW.reg ?_
  refine Lp (V_move rfl rfl) rfl rfl ?_
  refine Lp (V_eqP rfl Tryz.underlying68 rfl rfl) rfl rfl ?_
  refine Lp (V_move rfl rfl) rfl rfl ?_
  refine Lsplit 3 x13_3.isNone [(3, .pointer x13_3), (21, .bool (x13_3.isNone || (!(decide (x13_4 = 0)))))] ?_ ?_ ?_
  · intro e2 hk2
    refine Ln rfl rfl rfl rfl (.inl (by rw [e2]; rfl)) ?_
    refine Ln rfl rfl rfl rfl (.inl (by rw [e2]; rfl)) ?_
    refine Lp (V_pickT rfl (evb e2) rfl) rfl rfl ?_
    exact hk2 _ (FrLe.cons rfl (FrLe.cons (by rw [e2]; rfl) (FrLe.nil _)))
  · intro e2 hk2
    refine Lypb (V_move rfl rfl) rfl rfl rfl rfl e2 ?_
    refine Lypb (V_neq rfl rfl rfl) rfl rfl rfl rfl e2 ?_
    refine Lp (V_pickF rfl (evb e2) rfl) rfl rfl ?_
    exact hk2 _ (FrLe.cons rfl (FrLe.cons (by rw [e2]; rfl) (FrLe.nil _)))
  intro fr hl
  refine Lfr hl ?_
  refine Lp (V_move rfl rfl) rfl rfl ?_
  refine LsplitJ 9 (x13_3.isNone || (!(decide (x13_4 = 0)))) (bor_iff isNone_iff (bnot_iff decide_eq_true_iff)) h (fun fr σ => ∃ (x31_6 : Bool), FrLe [(3, .pointer x13_3), (31, .bool x31_6)] fr ∧ j5_law04_awake B ro x13_3 Q x31_6 σ) ?_ ?_ ?_
  · intro h e6 hk6
    refine Ln rfl rfl rfl rfl (.inl (by rw [e6]; rfl)) ?_
    refine Ln rfl rfl rfl rfl (.inl (by rw [e6]; rfl)) ?_
    refine Ln rfl rfl rfl rfl (.inl (by rw [e6]; rfl)) ?_
    refine Ln rfl rfl rfl rfl (.inl (by rw [e6]; rfl)) ?_
    refine Ln rfl rfl rfl rfl (.inl (by rw [e6]; rfl)) ?_
    refine Ln rfl rfl rfl rfl (.inl (by rw [e6]; rfl)) ?_
    refine Ln rfl rfl rfl rfl (.inl (by rw [e6]; rfl)) ?_
    refine Ln rfl rfl rfl rfl (.inl (by rw [e6]; rfl)) ?_
    refine Lp (V_pickT rfl (evb e6) rfl) rfl rfl ?_
    exact hk6 _ _ ⟨_, (FrLe.cons rfl (FrLe.cons rfl (FrLe.nil _))), h⟩
  · intro h e6 hk6
    refine Lypb (V_move rfl rfl) rfl rfl rfl rfl e6 ?_
    refine Lyb rfl rfl rfl rfl e6 (X_new (A_bsl (vs := [(0, .int .u8 97)]) (cs := #[.int .u8 97]) rfl Tryz.underlying22 ty5 (by decide) rfl rfl) fun x24_18 g1 g2 => ?_)
    replace h := h x24_18 g1 g2
    refine Lyb rfl rfl rfl rfl e6 (X_cvt rfl rfl (awp_mono _ h ?_))
    rintro v σ ⟨x25_19, rfl, h⟩
    refine Lyb rfl rfl rfl rfl e6 (X_new (A_bsl (vs := [(0, .int .u8 98)]) (cs := #[.int .u8 98]) rfl Tryz.underlying22 ty5 (by decide) rfl rfl) fun x26_20 g1 g2 => ?_)
    replace h := h x26_20 g1 g2
    refine Lyb rfl rfl rfl rfl e6 (X_cvt rfl rfl (awp_mono _ h ?_))
    rintro v σ ⟨x27_21, rfl, h⟩
    refine Lyb rfl rfl rfl rfl e6 (X_new (A_bsl (vs := [(0, Sl.v x25_19), (1, Sl.v x27_21)]) (cs := #[Sl.v x25_19, Sl.v x27_21]) rfl Tryz.underlying44 ty22 (by decide) rfl rfl) fun x28_22 g1 g2 => ?_)
    replace h := h x28_22 g1 g2
    refine Lyb rfl rfl rfl rfl e6 (X_call rfl Tryz.func30 rfl rfl rfl (ACalls.mono h ?_))
    rintro v σ ⟨x29_23, rfl, h⟩
    refine Lypb (V_neq rfl rfl rfl) rfl rfl rfl rfl e6 ?_
    refine Lp (V_pickF rfl (evb e6) rfl) rfl rfl ?_
    exact hk6 _ _ ⟨_, (FrLe.cons rfl (FrLe.cons rfl (FrLe.nil _))), h⟩
  rintro fr σ ⟨x31_6, hl, h⟩
  unfold j5_law04_awake at h
  refine Lfr hl ?_
  refine Lp (V_move rfl rfl) rfl rfl ?_
  refine LsplitJ 4 x31_6 Iff.rfl h (fun fr σ => ∃ (x36_8 : Bool), FrLe [(3, .pointer x13_3), (36, .bool x36_8)] fr ∧ j7_law04_awake B ro x13_3 Q x36_8 σ) ?_ ?_ ?_
  · intro h e16 hk16
    refine Ln rfl rfl rfl rfl (.inl (by rw [e16]; rfl)) ?_
    refine Ln rfl rfl rfl rfl (.inl (by rw [e16]; rfl)) ?_
    refine Ln rfl rfl rfl rfl (.inl (by rw [e16]; rfl)) ?_
    refine Lp (V_pickT rfl (evb e16) rfl) rfl rfl ?_
    exact hk16 _ _ ⟨_, (FrLe.cons rfl (FrLe.cons rfl (FrLe.nil _))), h⟩
  · intro h e16 hk16
    refine Lypb (V_move rfl rfl) rfl rfl rfl rfl e16 ?_
    refine Lyb rfl rfl rfl rfl e16 (X_call rfl Tryz.func32 rfl rfl rfl (ACalls.mono h ?_))
    rintro v σ ⟨x34_17, rfl, h⟩
    refine Lypb (V_neq rfl rfl rfl) rfl rfl rfl rfl e16 ?_
    refine Lp (V_pickF rfl (evb e16) rfl) rfl rfl ?_
    exact hk16 _ _ ⟨_, (FrLe.cons rfl (FrLe.cons rfl (FrLe.nil _))), h⟩
  rintro fr σ ⟨x36_8, hl, h⟩
  unfold j7_law04_awake at h
  refine Lfr hl ?_
  refine Lnil ?_
  refine thenN ?_
  refine AW.iff rfl Iff.rfl h (fun h => ?_) (fun h => ?_)
  · refine AW.seq ?_
    refine AW.reg ?_
    refine Lp (V_asg rfl rfl) rfl rfl ?_
    refine Lnil ?_
    refine thenN ?_
    refine AW.ret ?_
    refine thenR ?_
    exact bR1 Tryz.results28 rfl ⟨_, rfl, h⟩
  refine AW.skip ?_
  refine thenN ?_
  refine AW.seq ?_
  refine AW.reg ?_
  refine Lp (V_move rfl rfl) rfl rfl ?_
  refine Ls rfl rfl (X_call rfl Tryz.func34 rfl rfl rfl (ACalls.mono h ?_))
  rintro v σ ⟨x39_9, x39_10, rfl, h⟩
  refine Lp (V_move rfl rfl) rfl rfl ?_
  refine Lp (V_ext rfl rfl rfl) rfl rfl ?_
  refine Lp (V_ext rfl rfl rfl) rfl rfl ?_
  refine Lp (V_asg rfl rfl) rfl rfl ?_
  refine Lp (V_asg rfl rfl) rfl rfl ?_
  refine Lnil ?_
  refine thenN ?_
  refine AW.seq ?_
  refine AW.reg ?_
  refine Lp (V_move rfl rfl) rfl rfl ?_
  refine Lp (V_eql rfl rfl rfl) rfl rfl ?_
  refine Lp (V_move rfl rfl) rfl rfl ?_
  refine LsplitJ 4 (decide (x39_10 = 0)) decide_eq_true_iff h (fun fr σ => ∃ (x48_12 : Bool), FrLe [(3, .pointer x13_3), (48, .bool x48_12)] fr ∧ j11_law04_awake B ro x13_3 Q x48_12 σ) ?_ ?_ ?_
  · intro h e2 hk2
    refine Lypb (V_move rfl rfl) rfl rfl rfl rfl e2 ?_
    refine Lyb rfl rfl rfl rfl e2 (X_cvt rfl rfl (awp_mono _ h ?_))
    rintro v σ ⟨x46_16, rfl, h⟩
    refine Lypb (V_eqlS rfl rfl rfl) rfl rfl rfl rfl e2 ?_
    refine Lp (V_pickT rfl (evb e2) rfl) rfl rfl ?_
    exact hk2 _ _ ⟨_, (FrLe.cons rfl (FrLe.cons rfl (FrLe.nil _))), h⟩
  · intro h e2 hk2
    refine Ln rfl rfl rfl rfl (.inl (by rw [e2]; rfl)) ?_
    refine Ln rfl rfl rfl rfl (.inl (by rw [e2]; rfl)) ?_
    refine Ln rfl rfl rfl rfl (.inl (by rw [e2]; rfl)) ?_
    refine Lp (V_pickF rfl (evb e2) rfl) rfl rfl ?_
    exact hk2 _ _ ⟨_, (FrLe.cons rfl (FrLe.cons rfl (FrLe.nil _))), h⟩
  rintro fr σ ⟨x48_12, hl, h⟩
  unfold j11_law04_awake at h
  refine Lfr hl ?_
  refine Lp (V_move rfl rfl) rfl rfl ?_
  refine LsplitJ 4 x48_12 Iff.rfl h (fun fr σ => ∃ (x53_14 : Bool), FrLe [(53, .bool x53_14)] fr ∧ j13_law04_awake B ro Q x53_14 σ) ?_ ?_ ?_
  · intro h e7 hk7
    refine Lypb (V_move rfl rfl) rfl rfl rfl rfl e7 ?_
    refine Lyb rfl rfl rfl rfl e7 (X_call rfl Tryz.func35 rfl rfl rfl (ACalls.mono h ?_))
    rintro v σ ⟨x51_15, rfl, h⟩
    refine Lypb (V_eql rfl rfl rfl) rfl rfl rfl rfl e7 ?_
    refine Lp (V_pickT rfl (evb e7) rfl) rfl rfl ?_
    exact hk7 _ _ ⟨_, (FrLe.cons rfl (FrLe.nil _)), h⟩
  · intro h e7 hk7
    refine Ln rfl rfl rfl rfl (.inl (by rw [e7]; rfl)) ?_
    refine Ln rfl rfl rfl rfl (.inl (by rw [e7]; rfl)) ?_
    refine Ln rfl rfl rfl rfl (.inl (by rw [e7]; rfl)) ?_
    refine Lp (V_pickF rfl (evb e7) rfl) rfl rfl ?_
    exact hk7 _ _ ⟨_, (FrLe.cons rfl (FrLe.nil _)), h⟩
  rintro fr σ ⟨x53_14, hl, h⟩
  unfold j13_law04_awake at h
  refine Lfr hl ?_
  refine Lp (V_asg rfl rfl) rfl rfl ?_
  refine Lnil ?_
  refine thenN ?_
  refine AW.ret ?_
  exact bR1 Tryz.results28 rfl ⟨_, rfl, h⟩

def j1_law04_copied (B : World) (ro : AH) (Q : Sl → AH → Prop) (x3_2 : Sl) (σ : AH) : Prop :=
 Q x3_2 σ

def l3_law04_copied (B : World) (ro : AH) (a0 : Sl) (Q : Sl → AH → Prop) : (Sl × Int) → AH → ((Sl × Int) → AH → Prop) → Prop := fun ⟨x3_4, x8_5⟩ σ Y3 =>
 if x8_5 < (a0.len : Int) then
  ∃ p10_6 : Addr, a0.a = some p10_6 ∧ (0 : Int) ≤ x8_5 ∧ x8_5 < (a0.len : Int) ∧
  ∃ (x11_7 : Sl), acell ro σ (p10_6.add (Int.toNat x8_5 * 1)) = some (Sl.v x11_7) ∧
  c_ref01_Copy B ro x11_7 σ fun x14_8 σ =>
  nw ro σ (.cells #[Sl.v x14_8] 22) fun x15_9 σ =>
  awp Tryz.prog ro (Builtin.append_ #[44, 44] 44 #[Sl.v x3_4, Sl.v (⟨some ⟨x15_9, 0, none⟩, 1, 1⟩ : Sl)]) (fun v σ => ∃ (x16_10 : Sl), v = Sl.v x16_10 ∧
   Y3 (x16_10, IntKind.i64.wrap (x8_5 + 1)) σ) σ
 else
 j1_law04_copied B ro Q x3_4 σ

def f_law04_copied (B : World) (ro : AH) (a0 : Sl) (σ : AH) (Q : Sl → AH → Prop) : Prop :=
 lfpD (l3_law04_copied B ro a0 Q ) ((⟨none, 0, 0⟩ : Sl), 0) σ

set_option maxRecDepth 100000 in
set_option maxHeartbeats 4000000 in
theorem law04_copied_ok {B : World} {ro : AH} {a0 : Sl} {σ : AH} {Q : Sl → AH → Prop} (h : Sep ro σ → f_law04_copied B ro a0 σ Q) : c_law04_copied B ro a0 σ Q := by
  refine ACalls.of_sep fun hsep => ?_
  replace h := h hsep
  refine ACalls.of_body (args := [Sl.v a0]) Tryz.func31 rfl (by rw [Tryz.ntmps31]; simp) ?_
  rw [Tryz.ntmps31]
  unfold f_law04_copied at h
  refine AW.seq ?_
  refine AW.reg ?_
  refine Lp (V_asg rfl rfl) rfl rfl ?_
  refine Lnil ?_
  refine thenN ?_
  refine AW.seq ?_
  refine AW.reg ?_
  refine Lp (V_asg rfl rfl) rfl rfl ?_
  refine Lnil ?_
  refine thenN ?_
  refine AW.seqJ (fun fr σ => ∃ (x3_2 : Sl), FrLe [(3, Sl.v x3_2)] fr ∧ j1_law04_copied B ro Q x3_2 σ) ?_ ?_
  · rintro fr σ ⟨x3_2, hl, h⟩
    refine AW.weaken ?_ hl (HLe.refl _)
    unfold j1_law04_copied at h
    refine AW.seq ?_
    refine AW.reg ?_
    refine Lp (V_move rfl rfl) rfl rfl ?_
    refine Lp (V_asg rfl rfl) rfl rfl ?_
    refine Lnil ?_
    refine thenN ?_
    refine AW.ret ?_
    exact bR1 Tryz.results31 rfl ⟨_, rfl, h⟩
  refine AW.seq ?_
  refine AW.reg ?_
  refine Lp (V_move rfl rfl) rfl rfl ?_
  refine Lp (V_lenL rfl rfl Tryz.underlying44 rfl rfl) rfl rfl ?_
  refine Lp (V_move rfl rfl) rfl rfl ?_
  refine Lnil ?_
  refine thenN ?_
  refine AW.block ?_
  refine ARound.loop (fr' := [(6, Sl.v a0), (7, .int .i64 (a0.len : Int)), (3, Sl.v (⟨none, 0, 0⟩ : Sl)), (8, .int .i64 0)]) ?_ (FrLe.cons rfl (FrLe.cons rfl (FrLe.cons rfl (FrLe.cons rfl (FrLe.nil _)))))
  refine h (fun ⟨x3_4, x8_5⟩ σ => ARound _ _ _ _ _ _ [(6, Sl.v a0), (7, .int .i64 (a0.len : Int)), (3, Sl.v x3_4), (8, .int .i64 x8_5)] σ) ?_
  rintro ⟨x3_4, x8_5⟩ σ Y3 hY3 h
  show AW _ _ _ _ _ _ _ _
  unfold l3_law04_copied at h
  dsimp only at h
  refine AW.seq ?_
  refine AW.reg ?_
  refine Lp (V_lss rfl rfl rfl) rfl rfl ?_
  refine Lnil ?_
  refine thenN ?_
  refine AW.seq ?_
  refine AW.iff rfl decide_eq_true_iff h (fun h => ?_) (fun h => ?_)
  rotate_left
  · refine AW.exit ?_
    refine thenE ?_
    refine thenE ?_
    refine blockE ?_
    refine thenN ?_
    exact ⟨_, (FrLe.cons rfl (FrLe.nil _)), h⟩
  refine AW.skip ?_
  refine thenN ?_
  refine AW.seq ?_
  refine AW.block ?_
  refine AW.seq ?_
  refine AW.reg ?_
  obtain ⟨p10_6, ha, h0, h1, h⟩ := h
  refine Lp (V_ixA rfl Tryz.underlying44 ty22 (ixL rfl ha) rfl h0 h1) rfl rfl ?_
  obtain ⟨x11_7, hc, h⟩ := h
  refine Ls rfl rfl (X_ld rfl Tryz.underlying22 rfl rfl hc ?_)
  refine Lp (V_asg rfl rfl) rfl rfl ?_
  refine Lnil ?_
  refine thenN ?_
  refine AW.reg ?_
  refine Lp (V_move rfl rfl) rfl rfl ?_
  refine Lp (V_move rfl rfl) rfl rfl ?_
  refine Ls rfl rfl (X_call rfl Tryz.func12 rfl rfl rfl (ACalls.mono h ?_))
  rintro v σ ⟨x14_8, rfl, h⟩
  refine Ls rfl rfl (X_new (A_bsl (vs := [(0, Sl.v x14_8)]) (cs := #[Sl.v x14_8]) rfl Tryz.underlying44 ty22 (by decide) rfl rfl) fun x15_9 g1 g2 => ?_)
  replace h := h x15_9 g1 g2
  refine Ls rfl rfl (X_bi (s := Builtin.append_ #[44, 44] 44 #[Sl.v x3_4, Sl.v (⟨some ⟨x15_9, 0, none⟩, 1, 1⟩ : Sl)]) rfl rfl (fun _ => rfl) (awp_mono _ h ?_))
  rintro v σ ⟨x16_10, rfl, h⟩
  refine Lp (V_asg rfl rfl) rfl rfl ?_
  refine Lnil ?_
  refine blockN ?_
  refine thenN ?_
  refine AW.reg ?_
  refine Lp (V_add rfl rfl rfl) rfl rfl ?_
  refine Lp (V_move rfl rfl) rfl rfl ?_
  refine Lnil ?_
  refine thenN ?_
  refine ARound.head (fr' := [(6, Sl.v a0), (7, .int .i64 (a0.len : Int)), (3, Sl.v x16_10), (8, .int .i64 (IntKind.i64.wrap (x8_5 + 1)))]) ?_ (FrLe.cons rfl (FrLe.cons rfl (FrLe.cons rfl (FrLe.cons rfl (FrLe.nil _)))))
  exact hY3 _ _ h

end Go.Proofs.YtfobjidchipdaaaGreatDoor.G

/- Logs, the walk: records copied; Append. -/
namespace Go.Proofs.YtfobjidchipdaaaGreatDoor.Wl
open Go Go.Proofs.YtfobjidchipdaaaGreatDoor.SL Go.Proofs.YtfobjidchipdaaaGreatDoor.G Go.Proofs.YtfobjidchipdaaaGreatDoor.Pa Go.Proofs.YtfobjidchipdaaaGreatDoor.Wi Go.Proofs.YtfobjidchipdaaaGreatDoor.Dk
set_option linter.unusedSimpArgs false
set_option linter.unusedVariables false
set_option maxRecDepth 100000
variable {B : World} {ro σ σ' : AH} {tag tag' : Nat → Nat}
/-- records in memory that nobody changes -/
def Recs (ro : AH) (tag : Nat → Nat) (σ : AH) (ss : List Sl) (ds : List Str) : Prop := ss.length = ds.length ∧ ∀ (i : Nat) (x : Sl) (d : Str), ss[i]? = some x → ds[i]? = some d → SL.Data ro tag σ x (d.map vU)
theorem Recs.keepS {C : List Nat} {ss : List Sl} {ds : List Str} (h : Recs ro tag σ ss ds) (k : StepS C ro tag σ tag' σ') (h6 : 6 ∉ C) : Recs ro tag' σ' ss ds := ⟨h.1, fun i x d hx hd => (h.2 i x d hx hd).keepS k h6⟩
theorem copied_ok {a0 : Sl} {ss0 : List Sl} {ds : List Str} {Q : Sl → AH → Prop} (q : Nat) (hq : q < 64) (hq0 : q ∉ [0, 6]) (h : SL.Read ro (fun _ => none) a0 (ss0.map Sl.v)) (hl0 : ss0.length = ds.length) (hr : ∀ (i : Nat) (x : Sl) (d : Str), ss0[i]? = some x → ds[i]? = some d → SL.Read ro (fun _ => none) x (d.map vU) ∧ d.length ≤ 140737488355328) (hl : ds.length ≤ 1099511627776)
    (hQ : ∀ s ss tag' σ', StepS [0, q] ro tag σ tag' σ' → Row tag' σ' q 22 s (ss.map Sl.v) → Recs ro tag' σ' ss ds → Q s σ') : c_law04_copied B ro a0 σ Q := by
  refine law04_copied_ok fun hs => ?_
  unfold f_law04_copied
  simp only [List.mem_cons, List.not_mem_nil, or_false, not_or] at hq0
  have hmod : q % 64 = q := Nat.mod_eq_of_lt hq
  have hln : a0.len = ds.length := by rw [h.1, List.length_map, hl0]
  suffices ∀ (m j : Nat) (s : Sl) (ss : List Sl) (tag1 : Nat → Nat) (σ1 : AH), j + m = ds.length → StepS [0, q] ro tag σ tag1 σ1 → Row tag1 σ1 q 22 s (ss.map Sl.v) → ss.length = j → (∀ (i : Nat) (x : Sl) (d : Str), ss[i]? = some x → ds[i]? = some d → Row tag1 σ1 6 5 x (d.map vU)) → lfpD (l3_law04_copied B ro a0 Q) (s, (j : Int)) σ1 from
    this _ 0 _ [] tag σ (Nat.zero_add _) (StepS.refl hs) (Row.nil q 22) rfl (fun i x d h => by cases h)
  intro m
  induction m with
  | zero =>
    intro j s ss tag1 σ1 hj st1 r1 hss hrec
    refine lfpD.intro ?_
    unfold l3_law04_copied
    simp only
    rw [if_neg (by omega)]
    unfold j1_law04_copied
    exact hQ s ss tag1 σ1 st1 r1 ⟨by omega, fun i x d hx hd => .inr (hrec i x d hx hd).held⟩
  | succ m ih =>
    intro j s ss tag1 σ1 hj st1 r1 hss hrec
    have hjd : j < ds.length := by omega
    have hjs : j < ss0.length := by omega
    obtain ⟨p, hp⟩ : ∃ p, a0.a = some p := by
      cases e : a0.a with
      | none => have := h.2.1 e; simp at this; rw [this] at hjs; simp at hjs
      | some p => exact ⟨p, rfl⟩
    have hcell := (h.keep (σ := σ1)).2.2 p hp j (Sl.v ss0[j]) (by rw [List.getElem?_map, List.getElem?_eq_getElem hjs]; rfl)
    obtain ⟨hrd, hdl⟩ := hr j _ _ (List.getElem?_eq_getElem hjs) (List.getElem?_eq_getElem hjd)
    refine lfpD.intro ?_
    generalize hY : lfpD (l3_law04_copied B ro a0 Q) = Y
    unfold l3_law04_copied
    simp only
    rw [if_pos (by omega)]
    refine ⟨p, hp, by omega, by omega, ss0[j], by rw [Int.toNat_natCast, Nat.mul_one]; exact hcell, ?_⟩
    refine Zt.copy_ok (tag := tag1) (.inl hrd) hdl fun y tag2 σ2 st2 r2 => ?_
    refine nw_cells (tag := tag2) 0 (st2 []).sep fun V tag3 σ3 st3 r3 => ?_
    refine awp_append1 ((r1.keep (st2 []) (by simp)).keep (st3 []) (by simp)) (st3 []).sep Sn.u44 ty22 rfl rfl (Row.cell1 r3 (st3 []).sep) rfl (by rw [List.length_map]; omega) (by decide) fun s4 tag4 σ4 st4 r4 => ?_
    refine ⟨s4, rfl, ?_⟩
    have s14 : StepS [0, q] ro tag1 σ1 tag4 σ4 := ((st2 []).s (by simp)).trans (((st3 []).s (by simp)).trans (st4.s (by simp [hmod])))
    rw [Pa.inc j (by omega), ← hY]
    refine ih (j + 1) s4 (ss ++ [y]) tag4 σ4 (by omega) (st1.trans s14) (by rw [List.map_append]; exact r4) (by simp; omega) fun i x d hx hd => ?_
    rcases Nat.lt_or_ge i ss.length with h1 | h1
    · rw [List.getElem?_append_left h1] at hx
      exact (hrec i x d hx hd).keepS s14 (by simp; omega)
    · rw [List.getElem?_append_right h1] at hx
      have hi : i = j := by
        rcases Nat.eq_zero_or_pos (i - ss.length) with h0 | h0
        · omega
        · rw [List.getElem?_eq_none (by simp; omega)] at hx; cases hx
      subst hi
      rw [hss, Nat.sub_self] at hx
      cases hx
      rw [List.getElem?_eq_getElem hjd] at hd
      cases hd
      exact (r2.keep (st3 []) (by simp)).keep st4 (by simp; omega)
def room (ds : List Str) : Nat := (ds.map fun d => d.length + 25).sum
theorem room_snoc (ds : List Str) (d : Str) : room (ds ++ [d]) = room ds + (d.length + 25) := by unfold room; simp
theorem room_take (ds : List Str) (k : Nat) : room (ds.take k) ≤ room ds := by
  unfold room
  conv => rhs; rw [← List.take_append_drop k ds, List.map_append, List.sum_append]
  omega
theorem append_ok {T M Lb safe q : Nat} {limit cap : Int} {L : List (Seg × Nat)} {a1 : Sl} {ss : List Sl} {ds : List Str} {Q : Int → AH → Prop} (g : Glob ro) (h : LSt tag σ T M Lb limit cap safe L) (hc0 : 0 ≤ cap) (hc1 : cap ≤ 1073741824) (hrow : Row tag σ q 22 a1 (ss.map Sl.v)) (hq : q % 64 ∉ WC) (hd : Recs ro tag σ ss ds) (hcnt : (recsOf (segs L)).length + ds.length ≤ 1000)
    (h14 : (∃ d ∈ ds, 65536 < d.length) → SL.Sep ro σ → Q 14 σ)
    (hno : (∀ d ∈ ds, d.length ≤ 65536) → ∀ k safe' L' tag' σ', k < ds.length → cap < ((used (logFs L) + room ds : Nat) : Int) → StepS WC ro tag σ tag' σ' → LSt tag' σ' T M Lb limit cap safe' L' → recsOf (segs L') = recsOf (segs L) ++ ds.take k → safe ≤ safe' → Q 32 σ')
    (hok : (∀ d ∈ ds, d.length ≤ 65536) → ∀ safe' L' tag' σ', StepS WC ro tag σ tag' σ' → LSt tag' σ' T M Lb limit cap safe' L' → recsOf (segs L') = recsOf (segs L) ++ ds → safe ≤ safe' → (safe' = safe ∨ limit ≤ ((used (logFs L) + room ds : Nat) : Int)) → used (logFs L') ≤ used (logFs L) + room ds → Q 0 σ') :
    c_wal_Log_Append B ro (some ⟨Lb, 0, none⟩) a1 σ Q := by
  refine wal_Log_Append_ok fun hs => ?_
  unfold f_wal_Log_Append
  have hln : a1.len = ds.length := by rw [hrow.len, List.length_map, hd.1]
  have hss := hd.1
  -- the writes
  have writes : (∀ d ∈ ds, d.length ≤ 65536) → j1_wal_Log_Append B ro (some ⟨Lb, 0, none⟩) a1 Q σ := by
    intro hall
    unfold j1_wal_Log_Append
    suffices ∀ (m j : Nat) (safe1 : Nat) (L1 : List (Seg × Nat)) (tag1 : Nat → Nat) (σ1 : AH), j + m = ds.length → StepS WC ro tag σ tag1 σ1 → LSt tag1 σ1 T M Lb limit cap safe1 L1 → recsOf (segs L1) = recsOf (segs L) ++ ds.take j → safe ≤ safe1 → (safe1 = safe ∨ limit ≤ ((used (logFs L) + room ds : Nat) : Int)) → used (logFs L1) ≤ used (logFs L) + room (ds.take j) → lfpD (l3_wal_Log_Append B ro (some ⟨Lb, 0, none⟩) a1 Q) (j : Int) σ1 from
      this _ 0 safe L tag σ (Nat.zero_add _) (StepS.refl hs) h (by simp) (Nat.le_refl _) (.inl rfl) (Nat.le_add_right _ _)
    intro m
    induction m with
    | zero =>
      intro j safe1 L1 tag1 σ1 hj st1 h1 hrec hsf hsx hus
      refine lfpD.intro ?_
      unfold l3_wal_Log_Append
      rw [if_neg (by omega)]
      unfold j2_wal_Log_Append
      rw [List.take_of_length_le (by omega)] at hrec hus
      exact hok hall safe1 L1 tag1 σ1 st1 h1 hrec hsf hsx hus
    | succ m ih =>
      intro j safe1 L1 tag1 σ1 hj st1 h1 hrec hsf hsx hus
      have hjd : j < ds.length := by omega
      have hjs : j < ss.length := by omega
      obtain ⟨p, hp, hg⟩ := (hrow.keepS st1 hq).ptr st1.sep (by rw [List.length_map]; omega)
      have hdj := (hd.2 j _ _ (List.getElem?_eq_getElem hjs) (List.getElem?_eq_getElem hjd)).keepS st1 (by decide)
      have htk : ds.take (j + 1) = ds.take j ++ [ds[j]] := by rw [List.take_add_one, List.getElem?_eq_getElem hjd]; rfl
      have hrt := room_take ds (j + 1)
      rw [htk, room_snoc] at hrt
      refine lfpD.intro ?_
      generalize hY : lfpD (l3_wal_Log_Append B ro (some ⟨Lb, 0, none⟩) a1 Q) = Y
      unfold l3_wal_Log_Append
      rw [if_pos (by omega)]
      refine ⟨p, hp, by omega, by omega, ss[j], by rw [Int.toNat_natCast]; exact hg j _ (by rw [List.getElem?_map, List.getElem?_eq_getElem hjs]; rfl), ?_⟩
      refine write_ok g h1 hc0 hc1 hdj (hall _ (List.getElem_mem hjd)) (by rw [hrec, List.length_append, List.length_take]; omega) (fun hlt safe2 L2 tag2 σ2 st2 h2 hrec2 hsf2 => ?_) (fun safe2 L2 tag2 σ2 st2 h2 hrec2 hsf2 hsx2 hus2 => ?_)
      · rw [if_pos (by decide)]
        exact hno hall j safe2 L2 tag2 σ2 hjd (by omega) (st1.trans st2) h2 (by rw [hrec2, hrec]) (Nat.le_trans hsf hsf2)
      · rw [if_neg (by decide), Pa.inc j (by omega), ← hY]
        exact ih (j + 1) safe2 L2 tag2 σ2 (by omega) (st1.trans st2) h2 (by rw [hrec2, hrec, htk, List.append_assoc]) (Nat.le_trans hsf hsf2) (by omega) (by rw [htk, room_snoc]; omega)
  suffices ∀ (m j : Nat), j + m = ds.length → (∀ (i : Nat) (d : Str), i < j → ds[i]? = some d → d.length ≤ 65536) → lfpD (l8_wal_Log_Append B ro (some ⟨Lb, 0, none⟩) a1 Q) (j : Int) σ from
    this _ 0 (Nat.zero_add _) (fun i d h => by omega)
  intro m
  induction m with
  | zero =>
    intro j hj hall
    refine lfpD.intro ?_
    unfold l8_wal_Log_Append
    rw [if_neg (by omega)]
    refine writes fun d hd => ?_
    obtain ⟨i, hi, rfl⟩ := List.mem_iff_getElem.1 hd
    exact hall i _ (by omega) (List.getElem?_eq_getElem hi)
  | succ m ih =>
    intro j hj hall
    have hjd : j < ds.length := by omega
    have hjs : j < ss.length := by omega
    obtain ⟨p, hp, hg⟩ := hrow.ptr hs (by rw [List.length_map]; omega)
    have hlj := (hd.2 j _ _ (List.getElem?_eq_getElem hjs) (List.getElem?_eq_getElem hjd)).len
    rw [List.length_map] at hlj
    refine lfpD.intro ?_
    generalize hY : lfpD (l8_wal_Log_Append B ro (some ⟨Lb, 0, none⟩) a1 Q) = Y
    unfold l8_wal_Log_Append
    rw [if_pos (by omega)]
    refine ⟨p, hp, by omega, by omega, ss[j], by rw [Int.toNat_natCast]; exact hg j _ (by rw [List.getElem?_map, List.getElem?_eq_getElem hjs]; rfl), ?_⟩
    by_cases c : 65536 < ds[j].length
    · rw [if_pos (by omega)]
      exact h14 ⟨_, List.getElem_mem hjd, c⟩ hs
    · rw [if_neg (by omega), Pa.inc j (by omega), ← hY]
      refine ih (j + 1) (by omega) fun i d hi hdi => ?_
      rcases Nat.lt_or_ge i j with h1 | h1
      · exact hall i d h1 hdi
      · obtain rfl : i = j := by omega
        rw [List.getElem?_eq_getElem hjd] at hdi
        cases hdi; omega
end Go.Proofs.YtfobjidchipdaaaGreatDoor.Wl

/- Logs, the walk: a segment taken. -/
namespace Go.Proofs.YtfobjidchipdaaaGreatDoor.Wl
open Go Go.Proofs.YtfobjidchipdaaaGreatDoor.SL Go.Proofs.YtfobjidchipdaaaGreatDoor.G Go.Proofs.YtfobjidchipdaaaGreatDoor.Pa Go.Proofs.YtfobjidchipdaaaGreatDoor.Wi Go.Proofs.YtfobjidchipdaaaGreatDoor.Dk
set_option linter.unusedSimpArgs false
set_option linter.unusedVariables false
set_option maxRecDepth 100000
variable {B : World} {ro σ σ' : AH} {tag tag' : Nat → Nat}
/-- the segment's bytes, with the first j records -/
def fl (g : Seg) (j : Nat) : Nat := (headOf g.first).length + ((g.recs.take j).flatMap frame).length
theorem fl_succ {g : Seg} {j : Nat} (h : j < g.recs.length) : fl g (j + 1) = fl g j + (8 + (g.recs[j]).length) := by
  unfold fl
  rw [List.take_add_one, List.getElem?_eq_getElem h, List.flatMap_append, List.length_append]
  simp [frame_len]; omega
theorem fl_all (g : Seg) : fl g g.recs.length = g.bytes.length := by unfold fl Seg.bytes; rw [List.take_length, List.length_append]
theorem bytes_drop {g : Seg} {j : Nat} (h : j < g.recs.length) : g.bytes.drop (fl g j) = frame (g.recs[j]) ++ (g.recs.drop (j + 1)).flatMap frame := by
  have e : g.bytes = (headOf g.first ++ (g.recs.take j).flatMap frame) ++ (frame (g.recs[j]) ++ (g.recs.drop (j + 1)).flatMap frame) := by
    unfold Seg.bytes
    conv => lhs; rw [← List.take_append_drop j g.recs, List.drop_eq_getElem_cons h]
    rw [List.flatMap_append, List.flatMap_cons, List.append_assoc]
  rw [e]
  have : (headOf g.first ++ (g.recs.take j).flatMap frame).length = fl g j := by unfold fl; rw [List.length_append]
  rw [← this, List.drop_left]
theorem take_drop (l : Str) (m k : Nat) : (l.take m).drop k = (l.drop k).take (m - k) := by rw [List.drop_take]
/-- what a look at the bytes finds behind the first j records -/
theorem look_at {g : Seg} {j m : Nat} (h : j < g.recs.length) (hr : (g.recs[j]).length ≤ 65536) (hm : fl g j < m) :
    (fl g (j + 1) ≤ m → unframe ((g.bytes.take m).drop (fl g j)) = (g.recs[j], 8 + (g.recs[j]).length, 0)) ∧ (m < fl g (j + 1) → (unframe ((g.bytes.take m).drop (fl g j))).2.2 ≠ 0) := by
  have hs := fl_succ h
  rw [take_drop, bytes_drop h]
  constructor
  · intro h1
    rw [List.take_append, List.take_of_length_le (by rw [frame_len]; omega)]
    exact unframe_frame hr _
  · intro h1
    rw [List.take_append_of_le_length (by rw [frame_len]; omega)]
    exact unframe_short hr (by omega)
theorem head_at {g : Seg} {m : Nat} (hf : (vput g.first).length ≤ 65536) : ((headOf g.first).length ≤ m → unframe (g.bytes.take m) = (vput g.first, (headOf g.first).length, 0)) ∧ (m < (headOf g.first).length → (unframe (g.bytes.take m)).2.2 ≠ 0) := by
  have hl : (headOf g.first).length = 8 + (vput g.first).length := frame_len _
  unfold Seg.bytes
  constructor
  · intro h1
    rw [List.take_append, List.take_of_length_le h1, hl]
    exact unframe_frame hf _
  · intro h1
    rw [List.take_append_of_le_length (by omega)]
    exact unframe_short hf (by omega)
theorem take_ok {T M Lb Wb safe n f m : Nat} {limit cap : Int} {s : Sl} {xs : List (Nat × Seg)} {ps : Ps} {gs : Seg} {Q : Bool → AH → Prop} (g : Glob ro) (hA : LogAt tag σ 11 T Lb limit safe s xs) (hrow : Row tag σ 75 136 s (ptrs xs)) (hD : Disk tag σ 10 T M cap ps) (hbl : ∀ p ∈ ps, p.2.2.b.length ≤ 140737488355328)
    (hWb : Row tag σ 16 4 ⟨some ⟨Wb, 0, none⟩, 1, 1⟩ [.bool true]) (hI : LogIn n f (xs.map (·.2))) (hnum : gs.number < 1003) (hfirst : gs.first ≤ 1000) (hrecs : ∀ d ∈ gs.recs, d.length ≤ 65536) (hrl : gs.recs.length ≤ 1000) (hm : m ≤ gs.bytes.length) (hbb : gs.bytes.length ≤ 1073741824)
    (hcons : xs = [] ∨ ∃ gl, (xs.map (·.2)).getLast? = some gl ∧ gs.number = gl.number + 1 ∧ gs.first = nextOf (xs.map (·.2)))
    (hlook : ∃ bk sf, ps.lookup (fname gs.number) = some (bk, ⟨gs.bytes.take m, sf⟩))
    (hno : m < (headOf gs.first).length → ∀ tag' σ', StepS [0] ro tag σ tag' σ' → Q false σ')
    (hok : (headOf gs.first).length ≤ m → ∀ (j b : Nat) (s' : Sl) tag' σ', j ≤ gs.recs.length → fl gs j ≤ m → (j = gs.recs.length ∨ m < fl gs (j + 1)) → StepS [0, 11, 16] ro tag σ tag' σ' → LogAt tag' σ' 11 T Lb limit safe s' (xs ++ [(b, ⟨gs.number, gs.first, gs.recs.take j⟩)]) → Row tag' σ' 75 136 s' (ptrs (xs ++ [(b, ⟨gs.number, gs.first, gs.recs.take j⟩)])) → Row tag' σ' 16 4 ⟨some ⟨Wb, 0, none⟩, 1, 1⟩ [.bool (decide (fl gs j = m))] → Q true σ') :
    c_wal_Log_take B ro (some ⟨Lb, 0, none⟩) (gs.number : Int) (some ⟨Wb, 0, none⟩) σ Q := by
  refine wal_Log_take_ok fun hs => ?_
  unfold f_wal_Log_take
  have hvl := vput_len9 (n := gs.first) (by omega)
  obtain ⟨bk, sf, hlk⟩ := hlook
  have hxn := hI.num
  rw [List.length_map] at hxn
  have hcl : (gs.bytes.take m).length = m := by rw [List.length_take]; omega
  refine lent_roles tag [11] ?_
  have hsL : SL.Sep (join ro (inR tag [11] σ)) (outR tag [11] σ) := hs.lentR
  have cL : ∀ τ i v, [ptr T, vS logN, vI limit, Sl.v s, vI (safe : Nat)][i]? = some v → acell (join ro (inR tag [11] σ)) τ ((⟨Lb, 0, none⟩ : Addr).add i) = some v := fun τ i v hv => hA.cell.lendR hs (by simp) rfl hv
  refine ⟨_, rfl, _, by have := cL (fun _ => none) 0 _ rfl; rwa [add_zero] at this, _, rfl, some ⟨T, 0, none⟩, S logN, cellsAt_of 0 fun i v hv => ?_, ?_⟩
  · rw [Nat.zero_add]
    refine cL _ i v ?_
    match i, hv with
    | 0, hv => exact hv
    | 1, hv => exact hv
  refine file_ok (tag := tag) (glob_more g) (by omega) fun tag1 σ1 st1 => ?_
  have hD1 := DiskAt.keep (DiskAt.outR (L := [11]) hD (by simp)) (st1 []) (by simp)
  refine read_ok (n := fname gs.number) hD1 (by decide) (by decide) (st1 []).sep hbl (fun e tag2 σ2 he st2 => ?_) (fun _ b' f' hb' s2 tag2 σ2 st2 r2 => ?_)
  · exfalso
    rcases he with ⟨h1, _⟩ | ⟨_, h1, _⟩
    · rw [dName_f hnum] at h1; cases h1
    · rw [hlk] at h1; cases h1
  rw [hlk] at hb'
  obtain ⟨rfl, rfl⟩ : bk = b' ∧ ⟨gs.bytes.take m, sf⟩ = f' := by simpa using hb'
  have r2 : Row tag2 σ2 6 5 s2 ((gs.bytes.take m).map vU) := r2
  intro hdis
  have stB := ((st1 [0]).trans st2).backR hs hdis
  have rc := r2.backR hdis
  have hA3 := hA.keepS (stB.s (C := [0]) (by decide)) (by decide) (by decide)
  have hrow3 := hrow.keep stB (by decide)
  have hW3 := hWb.keep stB (by decide)
  have hs3 := stB.sep
  generalize join (inR tag [11] σ) σ2 = σ3 at *
  generalize tagB tag tag2 [11] σ = tag3 at *
  have hcap := rc.capAt
  have hcl2 : s2.len = m := by rw [rc.len, List.length_map, hcl]
  obtain ⟨ha1, ha2⟩ := head_at (g := gs) (m := m) (by omega)
  refine unframe_ok (tag := tag3) (k := 0) (l := gs.bytes.take m) hs3 (by rw [rc.len]; exact hcap) (Nat.zero_le _) (by omega) (fun tag' σ' st => (rc.keep st (by simp)).read st.sep) (fun he tag4 σ4 st4 => ?_) (fun he s4 tag4 σ4 st4 r4 => ?_)
  · rw [List.drop_zero] at he ⊢
    rw [if_pos he]
    refine hno ?_ tag4 σ4 ((stB.s (by decide)).trans ((st4 []).s (by simp)))
    rcases Nat.lt_or_ge m (headOf gs.first).length with h | h
    · exact h
    · rw [ha1 h] at he; exact absurd rfl he
  rw [List.drop_zero] at he r4
  have hml : (headOf gs.first).length ≤ m := by
    rcases Nat.lt_or_ge m (headOf gs.first).length with h | h
    · exact absurd he (ha2 h)
    · exact h
  rw [List.drop_zero]
  rw [ha1 hml] at r4 ⊢
  simp only [Nat.zero_add] at r4 ⊢
  rw [if_neg (by decide)]
  have hs4 := (st4 []).sep
  refine number_ok (l := vput gs.first) (r4.read hs4) (by omega) ?_
  rw [vput_num (by omega)]
  have h4len : s4.len = (vput gs.first).length := by rw [r4.len, List.length_map]
  rw [if_neg (by simp; omega)]
  have hA4 := hA3.keep0 (st4 [])
  have hrow4 := hrow3.keep (st4 []) (by simp)
  have hW4 := hW3.keep (st4 []) (by simp)
  have rc4 := rc.keep (st4 []) (by simp)
  have hl := hA4.len
  -- the segment is made and its records are read
  have body : j18_wal_Log_take B ro (some ⟨Lb, 0, none⟩) (gs.number : Int) (some ⟨Wb, 0, none⟩) s2 ((headOf gs.first).length : Nat) (gs.first : Nat) Q false σ4 := by
    unfold j18_wal_Log_take
    rw [if_neg (by simp)]
    refine nw_cellsF (tag := tag4) ra hs4 fun b tag5 σ5 hrob hσb st5 rS => ?_
    have hs5 := (st5 []).sep
    have hA5 := hA4.keep0 (st5 [])
    have hrow5 := hrow4.keep (st5 []) (by simp)
    have hW5 := hW4.keep (st5 []) (by simp)
    have rc5 := rc4.keep (st5 []) (by simp)
    have hbn : ∀ y ∈ xs, y.1 ≠ b := fun y hy e => by
      obtain ⟨s0, ss0, a, _⟩ := hA4.node y hy
      obtain ⟨_, o, ho⟩ := a.tagOf
      rw [e, hσb] at ho; cases ho
    -- behind the loop
    have done : ∀ (j : Nat) (wb : Bool) (tag6 : Nat → Nat) (σ6 : AH), j ≤ gs.recs.length → fl gs j ≤ m → (j = gs.recs.length ∨ m < fl gs (j + 1)) → wb = decide (fl gs j = m) → StepP (fun x => x % 64 = 0 ∨ x = 16 ∨ x = ra b ∨ x = rb b) ro tag5 σ5 tag6 σ6 → SegR tag6 σ6 b gs.number gs.first 0 (gs.recs.take j) → Row tag6 σ6 16 4 ⟨some ⟨Wb, 0, none⟩, 1, 1⟩ [.bool wb] → j21_wal_Log_take B ro (some ⟨Lb, 0, none⟩) b Q (fl gs j : Nat) σ6 := by
      intro j wb tag6 σ6 hj1 hj2 hj3 hwb st6 hS6 hW6
      subst hwb
      unfold j21_wal_Log_take
      obtain ⟨sr, ss, a, c, hss, hrc⟩ := hS6
      have hs6 := st6.sep
      have e3 : (⟨b, 0, none⟩ : Addr).add 3 = (⟨b, 0, none⟩ : Addr).add (3 * 1) := rfl
      rw [e3]
      refine a.st (i := 3) hs6 rfl (by simp) rfl fun σ7 st7 a7 => ?_
      have a7 : Row tag6 σ7 (ra b) 138 ⟨some ⟨b, 0, none⟩, 4, 4⟩ [vI (gs.number : Nat), vI (gs.first : Nat), Sl.v sr, vI ((fl gs j : Nat) : Int)] := a7
      have st57 := st6.trans (st7.p (p := fun x => x % 64 = 0 ∨ x = 16 ∨ x = ra b ∨ x = rb b) (fun x hx => by simp at hx; omega))
      have hs7 := st7.sep
      have hA7c := hA5.cell.keepP st57 (by simp only [ra, rb]; omega)
      have hrow7 := hrow5.keepP st57 (by simp only [ra, rb]; omega)
      have hn7 : ∀ y ∈ xs, SegAt tag6 σ7 11 y.1 y.2 := fun y hy => by
        have := hbn y hy
        exact (hA5.node y hy).keepP st57 (by simp only [ra, rb]; omega) (by simp only [ra, rb]; omega) (by simp only [ra, rb]; omega)
      obtain ⟨pL, hpL, hgL⟩ := hA7c.ptr hs7 (by simp)
      cases hpL
      refine ⟨_, rfl, s, by have := hgL 3 _ rfl; rwa [Nat.mul_one] at this, ?_⟩
      refine nw_cells (tag := tag6) 0 hs7 fun V2 tag9 σ9 st9 r9 => ?_
      refine awp_append1 (hrow7.keep (st9 []) (by simp)) (st9 []).sep u129 ty136 rfl rfl (Row.cell1 r9 (st9 []).sep) rfl (by unfold ptrs; rw [List.length_map]; omega) (by decide) fun s10 tag10 σ10 st10 r10 => ?_
      refine ⟨s10, rfl, _, rfl, ?_⟩
      have rc10 := (hA7c.keep (st9 []) (by simp)).keep st10 (by decide)
      have e3 : (⟨Lb, 0, none⟩ : Addr).add 3 = (⟨Lb, 0, none⟩ : Addr).add (3 * 1) := rfl
      rw [e3]
      refine rc10.st (i := 3) st10.sep rfl (by simp) (by simp [storable, Sl.v]) fun σ11 st11 r11 => ?_
      have s811 : Step [75, 11] ro tag6 σ7 tag10 σ11 := (st9 _).trans ((st10.mono (by decide)).trans (st11.mono (by decide)))
      have hbyt : (⟨gs.number, gs.first, gs.recs.take j⟩ : Seg).bytes.length = fl gs j := by unfold Seg.bytes fl; rw [List.length_append]
      have hS11 : SegAt tag10 σ11 11 b ⟨gs.number, gs.first, gs.recs.take j⟩ := by
        refine SegAt.keep (tag := tag6) (σ := σ7) ⟨sr, ss, ?_, c.keep st7 (by nin), hss, fun i x d hx hd => (hrc i x d hx hd).keep st7 (by nin)⟩ s811 (by nin) (by nin) (by decide)
        rw [hbyt]; exact a7
      refine hok hml j b s10 tag10 σ11 hj1 hj2 hj3 ?_ ⟨r11, ?_, ?_, ?_⟩ ?_ ((hW6.keep st7 (by nin)).keep s811 (by decide))
      · exact (stB.s (by decide)).trans (((st4 []).s (by simp)).trans (((st5 []).s (by simp)).trans ((st57.s (fun x hx => by simp only [ra, rb] at hx; simp; omega)).trans (s811.s (by decide)))))
      · have := (r10.keep st11 (by decide)).held
        unfold ptrs; rw [List.map_append]; exact this
      · intro y hy
        rcases List.mem_append.1 hy with hy | hy
        · exact (hn7 y hy).keep s811 (by nin) (by nin) (by decide)
        · rw [List.mem_singleton.1 hy]; exact hS11
      · rw [List.map_append, List.nodup_append]
        refine ⟨hA.nd, by simp, fun u hu v hv e => ?_⟩
        obtain ⟨y, hy, rfl⟩ := List.mem_map.1 hu
        simp at hv
        exact hbn y hy (by rw [e, hv])
      · unfold ptrs; rw [List.map_append]; exact r10.keep st11 (by decide)
    -- the loop
    suffices ∀ (k j : Nat) (tag6 : Nat → Nat) (σ6 : AH), j + k = gs.recs.length → fl gs j ≤ m → StepP (fun x => x % 64 = 0 ∨ x = 16 ∨ x = ra b ∨ x = rb b) ro tag5 σ5 tag6 σ6 → SegR tag6 σ6 b gs.number gs.first 0 (gs.recs.take j) → Row tag6 σ6 16 4 ⟨some ⟨Wb, 0, none⟩, 1, 1⟩ [.bool true] → lfpD (l28_wal_Log_take B ro (some ⟨Lb, 0, none⟩) (some ⟨Wb, 0, none⟩) s2 b Q) ((fl gs j : Nat) : Int) σ6 by
      have h0 : fl gs 0 = (headOf gs.first).length := by unfold fl; simp
      have := this _ 0 tag5 σ5 (Nat.zero_add _) (by rw [h0]; exact hml) (StepP.refl hs5) ⟨⟨none, 0, 0⟩, [], rS, Row.nil _ _, rfl, fun i x d hx => by cases hx⟩ hW5
      rw [h0] at this; exact this
    intro k
    induction k with
    | zero =>
      intro j tag6 σ6 hj hle st6 hS6 hW6
      have hjl : j = gs.recs.length := by omega
      have hfm : fl gs j = m := by rw [hjl, fl_all] at hle ⊢; omega
      refine lfpD.intro ?_
      unfold l28_wal_Log_take
      rw [if_neg (by omega)]
      exact done j true tag6 σ6 (by omega) hle (.inl hjl) (decide_eq_true hfm).symm st6 hS6 hW6
    | succ k ih =>
      intro j tag6 σ6 hj hle st6 hS6 hW6
      have hjr : j < gs.recs.length := by omega
      refine lfpD.intro ?_
      generalize hY : lfpD (l28_wal_Log_take B ro (some ⟨Lb, 0, none⟩) (some ⟨Wb, 0, none⟩) s2 b Q) = Y
      unfold l28_wal_Log_take
      have hfs := fl_succ hjr
      by_cases c : fl gs j < m
      rotate_left
      · rw [if_neg (by omega)]
        have hfm : fl gs j = m := by omega
        exact done j true tag6 σ6 (by omega) hle (.inr (by omega)) (decide_eq_true hfm).symm st6 hS6 hW6
      rw [if_pos (by omega)]
      have hdl := hrecs _ (List.getElem_mem hjr)
      obtain ⟨k1, k2⟩ := look_at (m := m) hjr hdl c
      have hs6 := st6.sep
      have rc6 := rc5.keepP st6 (by simp only [ra, rb]; omega)
      refine unframe_ok (tag := tag6) (k := fl gs j) (l := gs.bytes.take m) hs6 (by rw [rc.len]; exact hcap) (by omega) (by omega) (fun tag' σ' st => (rc6.keep st (by simp)).read st.sep) (fun he tag7 σ7 st7 => ?_) (fun he s7 tag7 σ7 st7 r7 => ?_)
      · rw [if_pos he]
        have hlt : m < fl gs (j + 1) := by
          rcases Nat.lt_or_ge m (fl gs (j + 1)) with h | h
          · exact h
          · rw [k1 h] at he; exact absurd rfl he
        refine ⟨_, rfl, ?_⟩
        have hW7 := hW6.keep (st7 []) (by simp)
        have ew : (⟨Wb, 0, none⟩ : Addr) = (⟨Wb, 0, none⟩ : Addr).add (0 * 1) := rfl
        rw [ew]
        refine hW7.st (i := 0) (st7 []).sep rfl (by simp) rfl fun σ8 st8 hW8 => ?_
        obtain ⟨sr, ss, a, cc, hss, hrc⟩ := hS6
        have hS8 : SegR tag7 σ8 b gs.number gs.first 0 (gs.recs.take j) := ⟨sr, ss, (a.keep (st7 []) (by simp)).keep st8 (by nin), (cc.keep (st7 []) (by simp)).keep st8 (by nin), hss, fun i x d hx hd => ((hrc i x d hx hd).keep (st7 []) (by simp)).keep st8 (by decide)⟩
        exact done j false tag7 σ8 (by omega) hle (.inr hlt) (decide_eq_false (by omega)).symm (st6.trans (((st7 []).p (by simp)).trans (st8.p (by simp)))) hS8 hW8
      · have hge : fl gs (j + 1) ≤ m := by
          rcases Nat.lt_or_ge m (fl gs (j + 1)) with h | h
          · exact absurd he (k2 h)
          · exact h
        rw [k1 hge] at r7 ⊢
        simp only at r7 ⊢
        rw [if_neg (by decide)]
        obtain ⟨sr, ss, a, cc, hss, hrc⟩ := hS6
        have hs7 := (st7 []).sep
        have a7 := a.keep (st7 []) (by simp)
        have c7 := cc.keep (st7 []) (by simp)
        obtain ⟨pb, hpb, hgb⟩ := a7.ptr hs7 (by simp)
        cases hpb
        refine ⟨sr, by have := hgb 2 _ rfl; rwa [Nat.mul_one] at this, ?_⟩
        refine nw_cells (tag := tag7) 0 hs7 fun V tag8 σ8 st8 r8 => ?_
        have hrtl : (gs.recs.take j).length ≤ 1000 := by rw [List.length_take]; omega
        refine awp_append1 (c7.keep (st8 []) (by simp)) (st8 []).sep Sn.u44 ty22 rfl rfl (Row.cell1 r8 (st8 []).sep) rfl (by rw [List.length_map]; omega) (by decide) fun s9 tag9 σ9 st9 r9 => ?_
        refine ⟨s9, rfl, ?_⟩
        have a9 := (a7.keep (st8 []) (by simp)).keep st9 (by nin)
        have e2 : (⟨b, 0, none⟩ : Addr).add 2 = (⟨b, 0, none⟩ : Addr).add (2 * 1) := rfl
        rw [e2]
        refine a9.st (i := 2) st9.sep rfl (by simp) (by simp [storable, Sl.v]) fun σ10 st10 a10 => ?_
        have a10 : Row tag9 σ10 (ra b) 138 ⟨some ⟨b, 0, none⟩, 4, 4⟩ [vI (gs.number : Nat), vI (gs.first : Nat), Sl.v s9, vI ((0 : Nat) : Int)] := a10
        rw [show ((fl gs j + (8 + (gs.recs[j]).length) : Nat) : Int) = ((fl gs (j + 1) : Nat) : Int) by rw [hfs], ← hY]
        have s610 : Step [ra b, rb b] ro tag6 σ6 tag9 σ10 := (st7 _).trans ((st8 _).trans ((st9.mono (by simp)).trans (st10.mono (by simp))))
        refine ih (j + 1) tag9 σ10 (by omega) hge (st6.trans (s610.p (fun x hx => by simp at hx; omega))) ⟨s9, ss ++ [s7], a10, by rw [List.map_append]; exact r9.keep st10 (by nin), ?_, fun i x d hx hd => ?_⟩ (hW6.keep s610 (by nin))
        · rw [List.length_append, hss, List.length_take, List.length_take]; simp; omega
        · have htk : gs.recs.take (j + 1) = gs.recs.take j ++ [gs.recs[j]] := by rw [List.take_add_one, List.getElem?_eq_getElem hjr]; rfl
          rw [htk] at hd
          rcases Nat.lt_or_ge i ss.length with h | h
          · rw [List.getElem?_append_left h] at hx
            rw [List.getElem?_append_left (by omega)] at hd
            exact (hrc i x d hx hd).keep s610 (by nin)
          · rw [List.getElem?_append_right h] at hx
            rw [List.getElem?_append_right (by omega)] at hd
            have hi : i - ss.length = 0 := by
              rcases Nat.eq_zero_or_pos (i - ss.length) with h0 | h0
              · exact h0
              · rw [List.getElem?_eq_none (by simp; omega)] at hx; cases hx
            rw [hi] at hx
            rw [show i - (gs.recs.take j).length = 0 by omega] at hd
            cases hx; cases hd
            exact ((r7.keep (st8 []) (by simp)).keep st9 (by nin)).keep st10 (by nin)
  refine ⟨_, rfl, s, hA4.at hs4 3 _ rfl, ?_⟩
  rw [decide_eq_false (show ¬ (1152921504606846976 : Int) < (gs.first : Nat) by omega), Bool.and_false]
  unfold j14_wal_Log_take
  rw [if_neg (by simp)]
  refine ⟨_, rfl, s, hA4.at hs4 3 _ rfl, ?_⟩
  rcases hcons with rfl | ⟨gl, hgl, hc1, hc2⟩
  · rw [if_neg (by rw [hl]; simp)]
    exact body
  have hxp : 0 < xs.length := by
    cases xs with
    | nil => cases hgl
    | cons => simp
  rw [if_pos (by omega)]
  have e1 : IntKind.i64.wrap ((s.len : Int) - 1) = ((xs.length - 1 : Nat) : Int) := by rw [w64_eq (by omega) (by omega)]; omega
  have hxi := List.getElem?_eq_getElem (l := xs) (i := xs.length - 1) (by omega)
  generalize xs[xs.length - 1] = y at hxi
  have hy2 : y.2 = gl := by
    rw [List.getLast?_eq_getElem?, List.length_map, List.getElem?_map, hxi] at hgl
    exact Option.some.inj hgl
  obtain ⟨p, hp, hcp⟩ := hA4.seg hs4 hxi
  obtain ⟨sy, _, hcy, _⟩ := (hA4.node y (List.mem_of_getElem? hxi)).at hs4
  have hyn : y.2.number < 1003 := by
    have := (chain_get hI.chain (i := xs.length - 1) (g := y.2) (by rw [List.getElem?_map, hxi]; rfl)).1
    omega
  refine ⟨_, rfl, s, hA4.at hs4 3 _ rfl, p, hp, by rw [e1]; omega, by rw [e1]; omega, _, by rw [e1, Int.toNat_natCast]; exact hcp, _, rfl, (y.2.number : Int), by have := hcy 0 _ rfl; rwa [add_zero] at this, ?_⟩
  rw [w64_eq (by omega) (by omega), if_neg (by rw [hc1, hy2]; simp)]
  refine logNext_ok hA4 hI ?_
  unfold j43_wal_Log_take
  rw [decide_eq_true (show ((gs.first : Nat) : Int) = (nextOf (xs.map (·.2)) : Nat) by omega)]
  exact body
end Go.Proofs.YtfobjidchipdaaaGreatDoor.Wl

/- Logs, the walk: cut; Open. -/
namespace Go.Proofs.YtfobjidchipdaaaGreatDoor.Wl
open Go Go.Proofs.YtfobjidchipdaaaGreatDoor.SL Go.Proofs.YtfobjidchipdaaaGreatDoor.G Go.Proofs.YtfobjidchipdaaaGreatDoor.Pa Go.Proofs.YtfobjidchipdaaaGreatDoor.Wi Go.Proofs.YtfobjidchipdaaaGreatDoor.Dk
set_option linter.unusedSimpArgs false
set_option linter.unusedVariables false
set_option maxRecDepth 100000
variable {B : World} {ro σ σ' : AH} {tag tag' : Nat → Nat}
theorem dName_cut : dName cutN = true := by decide
theorem fapp_look (fs : Fs) (n d : Str) : (fapp fs n d).lookup n ≠ none := by
  unfold fapp
  split <;> (rw [lookup_aput, if_pos rfl]; simp)
theorem sync1_look {fs : Fs} {n k : Str} (h : fs.lookup k ≠ none) : (sync1 fs n).lookup k ≠ none := by
  unfold sync1
  split
  · rw [lookup_aput]
    split
    · simp
    · exact h
  · exact h
theorem cut_ok {T M Lb safe n f : Nat} {limit cap : Int} {s : Sl} {xs : List (Nat × Seg)} {ps : Ps} {Q : Int → AH → Prop} (g : Glob ro) (hA : LogAt tag σ 11 T Lb limit safe s xs) (hD : Disk tag σ 10 T M cap ps) (hbl : ∀ p ∈ ps, p.2.2.b.length ≤ 140737488355328) (hc0 : 0 ≤ cap) (hc1 : cap ≤ 1073741824) (hu : used (pfs ps) ≤ 1073741824)
    (hI : LogIn n f (xs.map (·.2))) (hlast : ∀ xs0 b gl, xs = xs0 ++ [(b, gl)] → ∃ bk c sf, ps.lookup (fname gl.number) = some (bk, ⟨c, sf⟩) ∧ gl.bytes.length ≤ c.length ∧ (c.length = gl.bytes.length ∨ ((used (pfs ps) + gl.bytes.length : Nat) : Int) ≤ cap))
    (hQ : ∀ ps' tag' σ', StepS [0, 10] ro tag σ tag' σ' → Disk tag' σ' 10 T M cap ps' → Q 0 σ') : c_wal_Log_cut B ro (some ⟨Lb, 0, none⟩) σ Q := by
  refine wal_Log_cut_ok fun hs => ?_
  unfold f_wal_Log_cut
  have hl := hA.len
  have hxn := hI.num
  rw [List.length_map] at hxn
  refine ⟨_, rfl, s, hA.at hs 3 _ rfl, ?_⟩
  rcases List.eq_nil_or_concat xs with rfl | ⟨xs0, ⟨b, gl⟩, rfl⟩
  · rw [if_pos (by rw [hl]; simp)]
    exact hQ ps tag σ (StepS.refl hs) hD
  rw [List.concat_eq_append] at *
  obtain ⟨bk, c, sf, hlk, hle, hcase⟩ := hlast xs0 b gl rfl
  have hlx : (xs0 ++ [(b, gl)]).length = xs0.length + 1 := by simp
  rw [if_neg (by omega)]
  have e1 : IntKind.i64.wrap ((s.len : Int) - 1) = ((xs0.length : Nat) : Int) := by rw [w64_eq (by omega) (by omega)]; omega
  have hxi : (xs0 ++ [(b, gl)])[xs0.length]? = some (b, gl) := by simp
  obtain ⟨p, hp, hcp⟩ := hA.seg hs hxi
  have hnode := hA.node (b, gl) (by simp)
  obtain ⟨sr, ss, rA, rB, hss, hrc⟩ := hnode
  have hnumb : gl.number < 1003 := by
    have := (chain_get hI.chain (i := xs0.length) (g := gl) (by rw [List.getElem?_map, hxi]; rfl)).1
    omega
  have hclen : c.length ≤ 140737488355328 := hbl _ (mem_lookup hlk)
  refine ⟨_, rfl, _, rfl, s, hA.at hs 3 _ rfl, s, hA.at hs 3 _ rfl, p, hp, by rw [e1]; omega, by rw [e1]; omega, _, by rw [e1, Int.toNat_natCast]; exact hcp, ?_⟩
  -- what is read of the log and of its last segment, wherever
  have cells : ∀ (tag1 : Nat → Nat) (σ1 τ : AH), Row tag1 σ1 11 131 ⟨some ⟨Lb, 0, none⟩, 5, 5⟩ [ptr T, vS logN, vI limit, Sl.v s, vI (safe : Nat)] → Row tag1 σ1 (ra b) 138 ⟨some ⟨b, 0, none⟩, 4, 4⟩ [vI (gl.number : Nat), vI (gl.first : Nat), Sl.v sr, vI (gl.bytes.length : Nat)] → SL.Sep ro σ1 →
      (acell (join ro (inR tag1 [11, ra b] σ1)) τ ⟨Lb, 0, none⟩ = some (ptr T)) ∧ cellsAt (join ro (inR tag1 [11, ra b] σ1)) τ ⟨Lb, 0, none⟩ 0 [.pointer (some ⟨T, 0, none⟩), .string (S logN)] ∧ (acell (join ro (inR tag1 [11, ra b] σ1)) τ ⟨b, 0, none⟩ = some (.int .i64 (gl.number : Nat))) ∧ (acell (join ro (inR tag1 [11, ra b] σ1)) τ ((⟨b, 0, none⟩ : Addr).add 3) = some (.int .i64 (gl.bytes.length : Nat))) := by
    intro tag1 σ1 τ h1 h2 h3
    have cL : ∀ i v, [ptr T, vS logN, vI limit, Sl.v s, vI (safe : Nat)][i]? = some v → acell (join ro (inR tag1 [11, ra b] σ1)) τ ((⟨Lb, 0, none⟩ : Addr).add i) = some v := fun i v hv => h1.lendR h3 (by simp) rfl hv
    have cB : ∀ i v, [vI (gl.number : Nat), vI (gl.first : Nat), Sl.v sr, vI (gl.bytes.length : Nat)][i]? = some v → acell (join ro (inR tag1 [11, ra b] σ1)) τ ((⟨b, 0, none⟩ : Addr).add i) = some v := fun i v hv => h2.lendR h3 (by simp) rfl hv
    refine ⟨by have := cL 0 _ rfl; rwa [add_zero] at this, cellsAt_of 0 fun i v hv => ?_, by have := cB 0 _ rfl; rwa [add_zero] at this, cB 3 _ rfl⟩
    rw [Nat.zero_add]
    refine cL i v ?_
    match i, hv with
    | 0, hv => exact hv
    | 1, hv => exact hv
  have hL10 : ∀ x ∈ [11, ra b], x % 64 ≠ 10 % 64 := by intro x hx; simp only [ra, List.mem_cons, List.not_mem_nil, or_false] at hx; omega
  obtain ⟨k1, k2, k3, k4⟩ := cells tag σ (fun _ => none) hA.cell rA hs
  refine lent_roles tag [11, ra b] ?_
  obtain ⟨_, k2', k3', _⟩ := cells tag σ (outR tag [11, ra b] σ) hA.cell rA hs
  refine ⟨_, rfl, _, k1, _, rfl, _, rfl, _, _, k2', _, k3', ?_⟩
  refine file_ok (tag := tag) (glob_more g) (by omega) fun tag1 σ1 st1 => ?_
  have hD1 := DiskAt.keep (DiskAt.outR (L := [11, ra b]) hD hL10) (st1 []) (by simp)
  refine read_ok (n := fname gl.number) hD1 (by decide) (by decide) (st1 []).sep hbl (fun e tag2 σ2 he st2 => ?_) (fun _ b' f' hb' s2 tag2 σ2 st2 r2 => ?_)
  · exfalso
    rcases he with ⟨h1, _⟩ | ⟨_, h1, _⟩
    · rw [dName_f hnumb] at h1; cases h1
    · rw [hlk] at h1; cases h1
  rw [hlk] at hb'
  obtain ⟨rfl, rfl⟩ : bk = b' ∧ ⟨c, sf⟩ = f' := by simpa using hb'
  have r2 : Row tag2 σ2 6 5 s2 (c.map vU) := r2
  intro hdis
  have stB := ((st1 [0]).trans st2).backR hs hdis
  have rc := r2.backR hdis
  have hD3 := hD.keep stB (by simp)
  have hL3 := hA.cell.keep stB (by decide)
  have hb3 := rA.keep stB (by nin)
  have hs3 := stB.sep
  generalize join (inR tag [11, ra b] σ) σ2 = σ3 at *
  generalize tagB tag tag2 [11, ra b] σ = tag3 at *
  have hs2l : s2.len = c.length := by rw [rc.len, List.length_map]
  obtain ⟨pb, hpb, hgb⟩ := hb3.ptr hs3 (by simp)
  cases hpb
  refine ⟨_, rfl, (gl.bytes.length : Int), by have := hgb 3 _ rfl; rwa [Nat.mul_one] at this, ?_⟩
  by_cases cc : c.length = gl.bytes.length
  · rw [if_pos (by omega)]
    exact hQ ps tag3 σ3 (stB.s (by decide)) hD3
  rw [if_neg (by omega)]
  have hroom := hcase.resolve_left cc
  have hcap := rc.capAt
  rw [List.length_map] at hcap
  refine lent_roles tag3 [11, ra b] ?_
  obtain ⟨m1, _, _, m4⟩ := cells tag3 σ3 (fun _ => none) hL3 hb3 hs3
  obtain ⟨_, m2, _, _⟩ := cells tag3 σ3 (outR tag3 [11, ra b] σ3) hL3 hb3 hs3
  refine ⟨_, rfl, _, m1, _, rfl, _, rfl, (gl.bytes.length : Int), m4, ⟨⟨by omega, by omega⟩, trivial⟩, _, _, m2, ?_⟩
  refine cutFile_ok (tag := tag3) fun tag4 σ4 st4 => ?_
  have hD4 := DiskAt.keep (DiskAt.outR (L := [11, ra b]) hD3 hL10) (st4 []) (by simp)
  have rc4 := (rc.outR (L := [11, ra b]) (by nin)).keep (st4 []) (by simp)
  rw [Int.toNat_natCast, cutA_zero, Nat.sub_zero, Nat.sub_zero]
  refine Dk.append_ok (tag := tag4) (r := 10) (n := cutN) (d := c.take gl.bytes.length) hD4 (by decide) (by decide) hc0 hc1 (by omega) (by simp only; rw [List.length_take]; omega) (by rw [List.length_take]; omega) (fun tag' σ' st => read_take ((rc4.keepS st (by decide)).read st.sep) hle) (fun h => ?_) (fun _ hlt tag5 σ5 st5 => ?_) (fun _ hle2 ps5 tag5 σ5 st5 hD5 hf5 => ?_)
  · rw [dName_cut] at h; cases h
  · exfalso; rw [List.length_take] at hlt; omega
  intro hdis5
  rw [if_neg (by decide)]
  have stC := ((st4 []).s (C := [0, 10]) (by simp)).trans st5 |>.backR hs3 hdis5
  have hD6 := DiskAt.backR hD5 hdis5
  have hL6 := hL3.keepS stC (by decide)
  have hb6 := hb3.keepS stC (by show (11 + 64 * (2 * b + 2)) % 64 ∉ _; rw [Nat.add_mul_mod_self_left]; decide)
  have hs6 := stC.sep
  have s06 : StepS [0, 10] ro tag σ _ _ := (stB.s (C := [0, 10]) (by decide)).trans stC
  generalize join (inR tag3 [11, ra b] σ3) σ5 = σ6 at *
  generalize tagB tag3 tag5 [11, ra b] σ3 = tag6 at *
  refine lent_roles tag6 [11, ra b] ?_
  obtain ⟨n1, _, _, _⟩ := cells tag6 σ6 (fun _ => none) hL6 hb6 hs6
  obtain ⟨_, n2, _, _⟩ := cells tag6 σ6 (outR tag6 [11, ra b] σ6) hL6 hb6 hs6
  refine ⟨_, rfl, _, n1, _, rfl, _, _, n2, ?_⟩
  refine cutFile_ok (tag := tag6) fun tag7 σ7 st7 => ?_
  refine nw_cells (tag := tag7) 3 (st7 []).sep fun V tag8 σ8 st8 r8 => ?_
  have hD8 := DiskAt.keep (DiskAt.outR (L := [11, ra b]) hD6 hL10) ((st7 []).trans (st8 [])) (by simp)
  have hlk5 : ps5.lookup cutN ≠ none := by
    intro e
    have h1 : (pfs ps5).lookup cutN = none := by rw [pfs_lookup, e]; rfl
    rw [hf5] at h1
    exact fapp_look _ _ _ h1
  refine sync_ok (tag := tag8) (r := 10) (q := 3) (ns := [cutN]) hD8 (by decide) (by decide) r8 (by decide) (by simp) (fun hbad => ?_) fun _ _ ps9 tag9 σ9 st9 hD9 hf9 => ?_
  · exfalso
    rcases hbad with hb | ⟨n, hn, e⟩
    · rw [List.all_cons, dName_cut] at hb; cases hb
    · rw [List.mem_singleton.1 hn] at e; exact hlk5 e
  intro hdis9
  have stD := (((st7 []).trans (st8 [])).s (C := [0, 10]) (by simp)).trans st9 |>.backR hs6 hdis9
  have hDA := DiskAt.backR hD9 hdis9
  have hLA := hL6.keepS stD (by decide)
  have hbA := hb6.keepS stD (by show (11 + 64 * (2 * b + 2)) % 64 ∉ _; rw [Nat.add_mul_mod_self_left]; decide)
  have hsA := stD.sep
  have s0A := s06.trans stD
  generalize join (inR tag6 [11, ra b] σ6) σ9 = σA at *
  generalize tagB tag6 tag9 [11, ra b] σ6 = tagA at *
  have hlk9 : ps9.lookup cutN ≠ none := by
    intro e
    have h1 : (pfs ps9).lookup cutN = none := by rw [pfs_lookup, e]; rfl
    rw [hf9, hf5] at h1
    exact sync1_look (n := cutN) (fapp_look _ _ _) h1
  refine lent_roles tagA [11, ra b] ?_
  obtain ⟨q1, q2, q3, _⟩ := cells tagA σA (fun _ => none) hLA hbA hsA
  obtain ⟨_, q2', _, _⟩ := cells tagA σA (outR tagA [11, ra b] σA) hLA hbA hsA
  refine ⟨_, rfl, _, q1, _, rfl, _, rfl, _, _, q2, _, rfl, _, q3, _, _, q2', ?_⟩
  refine cutFile_ok (tag := tagA) fun tagB' σB stBB => ?_
  refine file_ok (tag := tagB') (glob_more g) (by omega) fun tagC σC stCC => ?_
  have hDC := DiskAt.keep (DiskAt.outR (L := [11, ra b]) hDA hL10) ((stBB []).trans (stCC [])) (by simp)
  refine rename_ok (tag := tagC) hDC (by decide) (by decide) dName_cut (dName_f hnumb) (fun h => absurd h hlk9) fun bb ff _ σE stE hDE => ?_
  intro hdisE
  have stF := (((stBB []).trans (stCC [])).s (C := [0, 10]) (by simp)).trans (stE.mono (by decide)) |>.backR hsA hdisE
  exact hQ _ _ _ (s0A.trans stF) (DiskAt.backR hDE hdisE)
/-- the last part of Open: all is made safe -/
theorem openEnd_ok {T M Lb n f safe : Nat} {limit cap : Int} {s : Sl} {xs : List (Nat × Seg)} {ps : Ps} {Q : Option Addr → Int → AH → Prop} (g : Glob ro) (hA : LogAt tag σ 11 T Lb limit safe s xs) (hD : Disk tag σ 10 T M cap ps) (hI : LogIn n f (xs.map (·.2))) (hs : SL.Sep ro σ)
    (hQ : ∀ tag' σ', StepP syncP ro tag σ tag' σ' → LogAt tag' σ' 11 T Lb limit (nextOf (xs.map (·.2))) s xs → (xs = [] → Disk tag' σ' 10 T M cap ps) → Q (some ⟨Lb, 0, none⟩) 0 σ') : j6_wal_Open B ro (some ⟨T, 0, none⟩) Lb Q σ := by
  unfold j6_wal_Open
  have hl := hA.len
  have hxn := hI.num
  rw [List.length_map] at hxn
  refine ⟨s, hA.at hs 3 _ rfl, ?_⟩
  suffices ∀ (m j : Nat) (ps1 : Ps) (tag1 : Nat → Nat) (σ1 : AH), j + m = xs.length → StepS [0, 10] ro tag σ tag1 σ1 → Disk tag1 σ1 10 T M cap ps1 → (xs = [] → ps1 = ps) → lfpD (l10_wal_Open B ro (some ⟨T, 0, none⟩) Lb s Q) (j : Int) σ1 from
    this _ 0 ps tag σ (Nat.zero_add _) (StepS.refl hs) hD (fun _ => rfl)
  intro m
  induction m with
  | zero =>
    intro j ps1 tag1 σ1 hj st1 hD1 hps1
    have hA1 := hA.keepS st1 (by decide) (by decide)
    refine lfpD.intro ?_
    unfold l10_wal_Open
    rw [if_neg (by omega)]
    unfold j7_wal_Open
    refine logNext_ok hA1 hI ?_
    have e4 : (⟨Lb, 0, none⟩ : Addr).add 4 = (⟨Lb, 0, none⟩ : Addr).add (4 * 1) := rfl
    rw [e4]
    refine hA1.cell.st (i := 4) st1.sep rfl (by simp) rfl fun σ2 st2 r2 => ?_
    obtain ⟨a1, a2⟩ := LogAt.segsOf hA1 st2 (by decide) (fun x _ => ⟨by nin, by nin⟩) (by decide)
    exact hQ tag1 σ2 ((st1.p (fun x hx => by simp at hx; unfold syncP; omega)).trans (st2.p (fun x hx => by simp at hx; unfold syncP; omega))) ⟨r2, a1, a2, hA.nd⟩ (fun e => by rw [← hps1 e]; exact hD1.keep st2 (by nia))
  | succ m ih =>
    intro j ps1 tag1 σ1 hj st1 hD1 hps1
    have hA1 := hA.keepS st1 (by decide) (by decide)
    have hs1 := st1.sep
    have hjx : j < xs.length := by omega
    have hxi := List.getElem?_eq_getElem hjx
    generalize xs[j] = x at hxi
    obtain ⟨p, hp, hcp⟩ := hA1.seg hs1 hxi
    obtain ⟨s2, _, hc2, _⟩ := (hA1.node x (List.mem_of_getElem? hxi)).at hs1
    have hnumb : x.2.number < 1003 := by
      have := (chain_get hI.chain (i := j) (g := x.2) (by rw [List.getElem?_map, hxi]; rfl)).1
      omega
    refine lfpD.intro ?_
    generalize hY : lfpD (l10_wal_Open B ro (some ⟨T, 0, none⟩) Lb s Q) = Y
    unfold l10_wal_Open
    rw [if_pos (by omega)]
    refine ⟨p, hp, by omega, by omega, _, by rw [Int.toNat_natCast]; exact hcp, _, rfl, some ⟨T, 0, none⟩, S logN, cellsAt_of 0 fun i v hv => ?_, (x.2.number : Int), by have := hc2 0 _ rfl; rwa [add_zero] at this, ?_⟩
    · rw [Nat.zero_add]
      refine hA1.at hs1 i v ?_
      match i, hv with
      | 0, hv => exact hv
      | 1, hv => exact hv
    refine file_ok (tag := tag1) g (by omega) fun tag2 σ2 st2 => ?_
    refine nw_cells (tag := tag2) 3 (st2 []).sep fun V tag3 σ3 st3 r3 => ?_
    have hD3 := hD1.keep ((st2 []).trans (st3 [])) (by simp)
    have s13 : StepS [0, 10] ro tag1 σ1 tag3 σ3 := ((st2 []).trans (st3 [])).s (by simp)
    refine sync_ok (tag := tag3) (r := 10) (q := 3) (ns := [fname x.2.number]) hD3 (by decide) (by decide) r3 (by decide) (by simp) (fun _ e tag4 σ4 st4 => ?_) fun _ _ ps4 tag4 σ4 st4 hD4 _ => ?_
    · rw [Pa.inc j (by omega), ← hY]
      exact ih (j + 1) ps1 tag4 σ4 (by omega) (st1.trans (s13.trans (st4.s (by decide)))) (hD3.keep st4 (by nia)) hps1
    · rw [Pa.inc j (by omega), ← hY]
      exact ih (j + 1) ps4 tag4 σ4 (by omega) (st1.trans (s13.trans st4)) hD4 (fun e => by rw [e] at hjx; simp at hjx)
end Go.Proofs.YtfobjidchipdaaaGreatDoor.Wl
