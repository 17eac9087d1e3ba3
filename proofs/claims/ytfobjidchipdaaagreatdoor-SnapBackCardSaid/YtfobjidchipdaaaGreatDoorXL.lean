/- GL5, SnG, CkG -/
import Derived.Test.YtfobjidchipdaaaGreatDoorXK
/- Functions as predicate transformers, and the proofs that the code does what they tell: printed by wip/tools/gen.py. -/
namespace Go.Proofs.YtfobjidchipdaaaGreatDoor.G
open Go Go.Proofs.YtfobjidchipdaaaGreatDoor.SL
set_option linter.unusedVariables false
set_option linter.unusedSimpArgs false

def j11_law05_SnapBack (B : World) (ro : AH) (Q : Bool → AH → Prop) (x53_12 : Bool) (σ : AH) : Prop :=
 Q x53_12 σ

def j31_law05_SnapBack (B : World) (ro : AH) (Q : Bool → AH → Prop) (x147_32 : Bool) (σ : AH) : Prop :=
 Q x147_32 σ

def j29_law05_SnapBack (B : World) (ro : AH) (Q : Bool → AH → Prop) (x144_30 : Bool) (σ : AH) : Prop :=
 if x144_30 = true then
  c_law05_awake B ro σ fun x146_33 σ =>
  j31_law05_SnapBack B ro Q x146_33 σ
 else
 j31_law05_SnapBack B ro Q false σ

def j27_law05_SnapBack (B : World) (ro : AH) (x41_10 : Option Addr) (Q : Bool → AH → Prop) (x138_28 : Bool) (σ : AH) : Prop :=
 if x138_28 = true then
  c_snap_Asm_Missing B ro x41_10 σ fun x141_34 σ =>
  j29_law05_SnapBack B ro Q (decide ((x141_34.len : Int) = 0)) σ
 else
 j29_law05_SnapBack B ro Q false σ

def j21_law05_SnapBack (B : World) (ro : AH) (x23_2 : Int) (x25_3 : Sl) (x35_7 : Sl) (x41_10 : Option Addr) (Q : Bool → AH → Prop) (x117_22 : Bool) (σ : AH) : Prop :=
 if x117_22 = true then
  Q false σ
 else
 c_snap_Asm_Add B ro x41_10 x35_7 σ fun x120_23 σ =>
 if ¬ (x120_23 = 0) then
  Q false σ
 else
 c_snap_Asm_Done B ro x41_10 σ fun x124_24 x124_25 x124_26 σ =>
 if (x124_26 = true) ∧ (x124_24 = x23_2) then
  c_ref01_Same B ro x124_25 x25_3 σ fun x137_35 σ =>
  j27_law05_SnapBack B ro x41_10 Q x137_35 σ
 else
 j27_law05_SnapBack B ro x41_10 Q false σ

def j36_law05_SnapBack (B : World) (ro : AH) (x13_17 : Int) (x23_2 : Int) (x25_3 : Sl) (x35_7 : Sl) (x41_10 : Option Addr) (x97_20 : Bool) (Q : Bool → AH → Prop) (x116_37 : Bool) (σ : AH) : Prop :=
 j21_law05_SnapBack B ro x23_2 x25_3 x35_7 x41_10 Q x116_37 σ

def j16_law05_SnapBack (B : World) (ro : AH) (x23_2 : Int) (x25_3 : Sl) (x35_7 : Sl) (x41_10 : Option Addr) (Q : Bool → AH → Prop) (x13_17 : Int) (σ : AH) : Prop :=
 c_snap_Asm_Done B ro x41_10 σ fun x97_18 x97_19 x97_20 σ =>
 if ¬ (x97_20 = (decide (x13_17 = 0))) then
  j21_law05_SnapBack B ro x23_2 x25_3 x35_7 x41_10 Q true σ
 else
 if x13_17 < (x35_7.len : Int) then
  c_snap_Asm_Missing B ro x41_10 σ fun x112_38 σ =>
  j36_law05_SnapBack B ro x13_17 x23_2 x25_3 x35_7 x41_10 x97_20 Q (!(decide ((x112_38.len : Int) = x13_17))) σ
 else
 j36_law05_SnapBack B ro x13_17 x23_2 x25_3 x35_7 x41_10 x97_20 Q false σ

def j42_law05_SnapBack (B : World) (ro : AH) (x23_2 : Int) (x25_3 : Sl) (x35_7 : Sl) (x41_10 : Option Addr) (x56_14 : Nat) (x86_41 : Int) (Q : Bool → AH → Prop) (Y39 : (Int × Int) → AH → Prop) (x13_43 : Int) (σ : AH) : Prop :=
 Y39 (x13_43, IntKind.i64.wrap (x86_41 + 1)) σ

def l39_law05_SnapBack (B : World) (ro : AH) (x23_2 : Int) (x25_3 : Sl) (x35_7 : Sl) (x41_10 : Option Addr) (x56_14 : Nat) (Q : Bool → AH → Prop) : (Int × Int) → AH → ((Int × Int) → AH → Prop) → Prop := fun ⟨x13_40, x86_41⟩ σ Y39 =>
 if x86_41 < ((⟨some ⟨x56_14, 0, none⟩, Int.toNat (x35_7.len : Int), Int.toNat (x35_7.len : Int)⟩ : Sl).len : Int) then
  ∃ p88_44 : Addr, (⟨some ⟨x56_14, 0, none⟩, Int.toNat (x35_7.len : Int), Int.toNat (x35_7.len : Int)⟩ : Sl).a = some p88_44 ∧ (0 : Int) ≤ x86_41 ∧ x86_41 < ((⟨some ⟨x56_14, 0, none⟩, Int.toNat (x35_7.len : Int), Int.toNat (x35_7.len : Int)⟩ : Sl).len : Int) ∧
  ∃ (x89_45 : Bool), acell ro σ (p88_44.add (Int.toNat x86_41 * 1)) = some (.bool x89_45) ∧
  if ¬ (x89_45 = true) then
   j42_law05_SnapBack B ro x23_2 x25_3 x35_7 x41_10 x56_14 x86_41 Q Y39 (IntKind.i64.wrap (x13_40 + 1)) σ
  else
  j42_law05_SnapBack B ro x23_2 x25_3 x35_7 x41_10 x56_14 x86_41 Q Y39 x13_40 σ
 else
 j16_law05_SnapBack B ro x23_2 x25_3 x35_7 x41_10 Q x13_40 σ

def j15_law05_SnapBack (B : World) (ro : AH) (x23_2 : Int) (x25_3 : Sl) (x35_7 : Sl) (x41_10 : Option Addr) (x56_14 : Nat) (Q : Bool → AH → Prop) (σ : AH) : Prop :=
 lfpD (l39_law05_SnapBack B ro x23_2 x25_3 x35_7 x41_10 x56_14 Q ) (0, 0) σ

def j48_law05_SnapBack (B : World) (ro : AH) (x23_2 : Int) (x25_3 : Sl) (x29_5 : Sl) (x35_7 : Sl) (x41_10 : Option Addr) (x56_14 : Nat) (x59_47 : Int) (Q : Bool → AH → Prop) (Y46 : (Int) → AH → Prop) (σ : AH) : Prop :=
 Y46 (IntKind.i64.wrap (x59_47 + 1)) σ

def l46_law05_SnapBack (B : World) (ro : AH) (x23_2 : Int) (x25_3 : Sl) (x29_5 : Sl) (x35_7 : Sl) (x41_10 : Option Addr) (x56_14 : Nat) (Q : Bool → AH → Prop) : (Int) → AH → ((Int) → AH → Prop) → Prop := fun x59_47 σ Y46 =>
 if x59_47 < (x29_5.len : Int) then
  ∃ p61_49 : Addr, x29_5.a = some p61_49 ∧ (0 : Int) ≤ x59_47 ∧ x59_47 < (x29_5.len : Int) ∧
  ∃ (x62_50 : Int), acell ro σ (p61_49.add (Int.toNat x59_47 * 1)) = some (.int .i64 x62_50) ∧
  if (x62_50 < 0) ∨ ((x35_7.len : Int) ≤ x62_50) then
   j48_law05_SnapBack B ro x23_2 x25_3 x29_5 x35_7 x41_10 x56_14 x59_47 Q Y46 σ
  else
  ∃ p73_51 : Addr, (⟨some ⟨x56_14, 0, none⟩, Int.toNat (x35_7.len : Int), Int.toNat (x35_7.len : Int)⟩ : Sl).a = some p73_51 ∧ (0 : Int) ≤ x62_50 ∧ x62_50 < ((⟨some ⟨x56_14, 0, none⟩, Int.toNat (x35_7.len : Int), Int.toNat (x35_7.len : Int)⟩ : Sl).len : Int) ∧
  stN (p73_51.add (Int.toNat x62_50 * 1)) (fun σ =>
   ∃ p77_52 : Addr, x35_7.a = some p77_52 ∧ (0 : Int) ≤ x62_50 ∧ x62_50 < (x35_7.len : Int) ∧
   ∃ (x78_53 : Sl), acell ro σ (p77_52.add (Int.toNat x62_50 * 1)) = some (Sl.v x78_53) ∧
   c_ref01_Copy B ro x78_53 σ fun x79_54 σ =>
   nw ro σ (.cells #[Sl.v x79_54] 22) fun x80_55 σ =>
   c_snap_Asm_Add B ro x41_10 (⟨some ⟨x80_55, 0, none⟩, 1, 1⟩ : Sl) σ fun x81_56 σ =>
   if ¬ (x81_56 = 0) then
    Q false σ
   else
   j48_law05_SnapBack B ro x23_2 x25_3 x29_5 x35_7 x41_10 x56_14 x59_47 Q Y46 σ) [.bool true] 0 σ
 else
 j15_law05_SnapBack B ro x23_2 x25_3 x35_7 x41_10 x56_14 Q σ

def f_law05_SnapBack (B : World) (ro : AH) (a0_0 : Int) (a0_1 : Sl) (a0_2 : Int) (a0_3 : Sl) (σ : AH) (Q : Bool → AH → Prop) : Prop :=
 nw ro σ (.cells #[.int .i64 a0_0, Sl.v a0_1, .int .i64 a0_2, Sl.v a0_3] 65) fun x1_1 σ =>
 ∃ (x23_2 : Int), acell ro σ ⟨x1_1, 0, none⟩ = some (.int .i64 x23_2) ∧
 ∃ (x25_3 : Sl), acell ro σ ((⟨x1_1, 0, none⟩ : Addr).add 1) = some (Sl.v x25_3) ∧
 ∃ (x27_4 : Int), acell ro σ ((⟨x1_1, 0, none⟩ : Addr).add 2) = some (.int .i64 x27_4) ∧
 ∃ (x29_5 : Sl), acell ro σ ((⟨x1_1, 0, none⟩ : Addr).add 3) = some (Sl.v x29_5) ∧
 c_ref01_Copy B ro x25_3 σ fun x33_6 σ =>
 c_snap_Chunks B ro x23_2 x33_6 x27_4 σ fun x35_7 x35_8 σ =>
 if ¬ (x35_8 = 0) then
  c_law05_awake B ro σ fun x40_9 σ =>
  Q x40_9 σ
 else
 c_snap_NewAsm B ro σ fun x41_10 σ =>
 if (x41_10 = none) ∨ (1000 < (x35_7.len : Int)) then
  if ¬ (x41_10 = none) then
   c_law05_awake B ro σ fun x52_13 σ =>
   j11_law05_SnapBack B ro Q x52_13 σ
  else
  j11_law05_SnapBack B ro Q false σ
 else
 ((0 : Int) ≤ (x35_7.len : Int) ∧ (x35_7.len : Int) ≤ (x35_7.len : Int) ∧ ((x35_7.len : Int) : Int) ≤ 281474976710656 ∧ 1 * ((x35_7.len : Int) : Int) ≤ 281474976710656) ∧
 nw ro σ (.cells (zeros (.bool false) (Int.toNat (x35_7.len : Int) * 1)) 4) fun x56_14 σ =>
 lfpD (l46_law05_SnapBack B ro x23_2 x25_3 x29_5 x35_7 x41_10 x56_14 Q ) (0) σ

set_option maxRecDepth 100000 in
set_option maxHeartbeats 4000000 in
theorem law05_SnapBack_ok {B : World} {ro : AH} {a0_0 : Int} {a0_1 : Sl} {a0_2 : Int} {a0_3 : Sl} {σ : AH} {Q : Bool → AH → Prop} (h : Sep ro σ → f_law05_SnapBack B ro a0_0 a0_1 a0_2 a0_3 σ Q) : c_law05_SnapBack B ro a0_0 a0_1 a0_2 a0_3 σ Q := by
  refine ACalls.of_sep fun hsep => ?_
  replace h := h hsep
  refine ACalls.of_body (args := [.agg #[.int .i64 a0_0, Sl.v a0_1, .int .i64 a0_2, Sl.v a0_3]]) Tryz.func5 rfl (by rw [Tryz.ntmps5]; simp) ?_
  rw [Tryz.ntmps5]
  unfold f_law05_SnapBack at h
  refine AW.seq ?_
  refine AW.reg ?_
  refine Ls rfl rfl (X_new (A_box rfl rfl) fun x1_1 g1 g2 => ?_)
  replace h := h x1_1 g1 g2
  refine Lp (V_asg rfl rfl) rfl rfl ?_
  refine Lnil ?_
  refine thenN ?_
  refine AW.seq ?_
  refine AW.drawn0 (fun i => ([0, 3, 0, 3, 0, 3, 0, 3, 0, 0, 0, 0] : List Nat).getD i 2) [] [0, 2, 4, 6, 1, 8, 3, 9, 5, 10, 7, 11] Tryz.mixed (by decide +kernel) ?_
  refine Dp rfl rfl rfl rfl (V_fld rfl Tryz.underlying65 rfl ty3 (by decide) rfl) ?_
  refine Dp rfl rfl rfl rfl (V_fld rfl Tryz.underlying65 rfl ty22 (by decide) rfl) ?_
  refine Dp rfl rfl rfl rfl (V_fld rfl Tryz.underlying65 rfl ty3 (by decide) rfl) ?_
  refine Dp rfl rfl rfl rfl (V_fld rfl Tryz.underlying65 rfl ty23 (by decide) rfl) ?_
  obtain ⟨x23_2, hc, h⟩ := h
  refine Dr rfl rfl rfl rfl (R_ld rfl Tryz.underlying3 rfl rfl hc) ?_
  refine Dp rfl rfl rfl rfl (V_asg rfl rfl) ?_
  obtain ⟨x25_3, hc, h⟩ := h
  refine Dr rfl rfl rfl rfl (R_ld rfl Tryz.underlying22 rfl rfl hc) ?_
  refine Dp rfl rfl rfl rfl (V_asg rfl rfl) ?_
  obtain ⟨x27_4, hc, h⟩ := h
  refine Dr rfl rfl rfl rfl (R_ld rfl Tryz.underlying3 rfl rfl hc) ?_
  refine Dp rfl rfl rfl rfl (V_asg rfl rfl) ?_
  obtain ⟨x29_5, hc, h⟩ := h
  refine Dr rfl rfl rfl rfl (R_ld rfl Tryz.underlying23 rfl rfl hc) ?_
  refine Dp rfl rfl rfl rfl (V_asg rfl rfl) ?_
  refine Dend ?_
  refine thenN ?_
  refine AW.seq ?_
  refine AW.reg ?_
  refine Lp (V_move rfl rfl) rfl rfl ?_
  refine Lp (V_move rfl rfl) rfl rfl ?_
  refine Ls rfl rfl (X_call rfl Tryz.func12 rfl rfl rfl (ACalls.mono h ?_))
  rintro v σ ⟨x33_6, rfl, h⟩
  refine Lp (V_move rfl rfl) rfl rfl ?_
  refine Ls rfl rfl (X_call rfl Tryz.func18 rfl rfl rfl (ACalls.mono h ?_))
  rintro v σ ⟨x35_7, x35_8, rfl, h⟩
  refine Lp (V_move rfl rfl) rfl rfl ?_
  refine Lp (V_ext rfl rfl rfl) rfl rfl ?_
  refine Lp (V_ext rfl rfl rfl) rfl rfl ?_
  refine Lp (V_asg rfl rfl) rfl rfl ?_
  refine Lp (V_asg rfl rfl) rfl rfl ?_
  refine Lnil ?_
  refine thenN ?_
  refine AW.seq ?_
  refine AW.seq ?_
  refine AW.reg ?_
  refine Lp (V_move rfl rfl) rfl rfl ?_
  refine Lp (V_neq rfl rfl rfl) rfl rfl ?_
  refine Lnil ?_
  refine thenN ?_
  refine AW.iff rfl (bnot_iff decide_eq_true_iff) h (fun h => ?_) (fun h => ?_)
  · refine AW.seq ?_
    refine AW.reg ?_
    refine Ls rfl rfl (X_call rfl Tryz.func10 rfl rfl rfl (ACalls.mono h ?_))
    rintro v σ ⟨x40_9, rfl, h⟩
    refine Lp (V_asg rfl rfl) rfl rfl ?_
    refine Lnil ?_
    refine thenN ?_
    refine AW.ret ?_
    refine thenR ?_
    exact bR1 Tryz.results5 rfl ⟨_, rfl, h⟩
  refine AW.skip ?_
  refine thenN ?_
  refine AW.seq ?_
  refine AW.reg ?_
  refine Ls rfl rfl (X_call rfl Tryz.func20 rfl rfl rfl (ACalls.mono h ?_))
  rintro v σ ⟨x41_10, rfl, h⟩
  refine Lp (V_asg rfl rfl) rfl rfl ?_
  refine Lnil ?_
  refine thenN ?_
  refine AW.seq ?_
  refine AW.seq ?_
  refine AW.reg ?_
  refine Lp (V_move rfl rfl) rfl rfl ?_
  refine Lp (V_eqP rfl Tryz.underlying51 rfl rfl) rfl rfl ?_
  refine Lp (V_move rfl rfl) rfl rfl ?_
  refine Lsplit 4 x41_10.isNone [(3, .int .i64 x23_2), (4, Sl.v x25_3), (6, Sl.v x29_5), (7, Sl.v x35_7), (9, .pointer x41_10), (48, .bool (x41_10.isNone || (decide (1000 < (x35_7.len : Int)))))] ?_ ?_ ?_
  · intro e2 hk2
    refine Ln rfl rfl rfl rfl (.inl (by rw [e2]; rfl)) ?_
    refine Ln rfl rfl rfl rfl (.inl (by rw [e2]; rfl)) ?_
    refine Ln rfl rfl rfl rfl (.inl (by rw [e2]; rfl)) ?_
    refine Lp (V_pickT rfl (evb e2) rfl) rfl rfl ?_
    exact hk2 _ (FrLe.cons rfl (FrLe.cons rfl (FrLe.cons rfl (FrLe.cons rfl (FrLe.cons rfl (FrLe.cons (by rw [e2]; rfl) (FrLe.nil _)))))))
  · intro e2 hk2
    refine Lypb (V_move rfl rfl) rfl rfl rfl rfl e2 ?_
    refine Lypb (V_lenL rfl rfl Tryz.underlying44 rfl rfl) rfl rfl rfl rfl e2 ?_
    refine Lypb (V_gtr rfl rfl rfl) rfl rfl rfl rfl e2 ?_
    refine Lp (V_pickF rfl (evb e2) rfl) rfl rfl ?_
    exact hk2 _ (FrLe.cons rfl (FrLe.cons rfl (FrLe.cons rfl (FrLe.cons rfl (FrLe.cons rfl (FrLe.cons (by rw [e2]; rfl) (FrLe.nil _)))))))
  intro fr hl
  refine Lfr hl ?_
  refine Lnil ?_
  refine thenN ?_
  refine AW.iff rfl (bor_iff isNone_iff decide_eq_true_iff) h (fun h => ?_) (fun h => ?_)
  · refine AW.seq ?_
    refine AW.reg ?_
    refine Lp (V_move rfl rfl) rfl rfl ?_
    refine Lp (V_neP rfl Tryz.underlying51 rfl rfl) rfl rfl ?_
    refine Lp (V_move rfl rfl) rfl rfl ?_
    refine LsplitJ 2 (!x41_10.isNone) (bnot_iff isNone_iff) h (fun fr σ => ∃ (x53_12 : Bool), FrLe [(53, .bool x53_12)] fr ∧ j11_law05_SnapBack B ro Q x53_12 σ) ?_ ?_ ?_
    · intro h e2 hk2
      refine Lyb rfl rfl rfl rfl e2 (X_call rfl Tryz.func10 rfl rfl rfl (ACalls.mono h ?_))
      rintro v σ ⟨x52_13, rfl, h⟩
      refine Lp (V_pickT rfl (evb e2) rfl) rfl rfl ?_
      exact hk2 _ _ ⟨_, (FrLe.cons rfl (FrLe.nil _)), h⟩
    · intro h e2 hk2
      refine Ln rfl rfl rfl rfl (.inl (by rw [e2]; rfl)) ?_
      refine Lp (V_pickF rfl (evb e2) rfl) rfl rfl ?_
      exact hk2 _ _ ⟨_, (FrLe.cons rfl (FrLe.nil _)), h⟩
    rintro fr σ ⟨x53_12, hl, h⟩
    unfold j11_law05_SnapBack at h
    refine Lfr hl ?_
    refine Lp (V_asg rfl rfl) rfl rfl ?_
    refine Lnil ?_
    refine thenN ?_
    refine AW.ret ?_
    refine thenR ?_
    exact bR1 Tryz.results5 rfl ⟨_, rfl, h⟩
  refine AW.skip ?_
  refine thenN ?_
  refine AW.seq ?_
  refine AW.reg ?_
  refine Lp (V_move rfl rfl) rfl rfl ?_
  refine Lp (V_lenL rfl rfl Tryz.underlying44 rfl rfl) rfl rfl ?_
  obtain ⟨⟨h0, h1, h2, h3⟩, h⟩ := h
  refine Ls rfl rfl (X_new (A_mks rfl Tryz.underlying66 ty4 rfl rfl h0 h1 h2 h3) fun x56_14 g1 g2 => ?_)
  replace h := h x56_14 g1 g2
  refine Lp (V_asg rfl rfl) rfl rfl ?_
  refine Lnil ?_
  refine thenN ?_
  refine AW.seqJ (fun fr σ => FrLe [(3, .int .i64 x23_2), (4, Sl.v x25_3), (7, Sl.v x35_7), (9, .pointer x41_10), (10, Sl.v (⟨some ⟨x56_14, 0, none⟩, Int.toNat (x35_7.len : Int), Int.toNat (x35_7.len : Int)⟩ : Sl))] fr ∧ j15_law05_SnapBack B ro x23_2 x25_3 x35_7 x41_10 x56_14 Q σ) ?_ ?_
  rotate_left
  · refine AW.seq ?_
    refine AW.reg ?_
    refine Lp (V_move rfl rfl) rfl rfl ?_
    refine Lp (V_lenL rfl rfl Tryz.underlying23 rfl rfl) rfl rfl ?_
    refine Lp (V_move rfl rfl) rfl rfl ?_
    refine Lnil ?_
    refine thenN ?_
    refine AW.block ?_
    refine ARound.loop (fr' := [(3, .int .i64 x23_2), (4, Sl.v x25_3), (7, Sl.v x35_7), (9, .pointer x41_10), (10, Sl.v (⟨some ⟨x56_14, 0, none⟩, Int.toNat (x35_7.len : Int), Int.toNat (x35_7.len : Int)⟩ : Sl)), (57, Sl.v x29_5), (58, .int .i64 (x29_5.len : Int)), (59, .int .i64 0)]) ?_ (FrLe.cons rfl (FrLe.cons rfl (FrLe.cons rfl (FrLe.cons rfl (FrLe.cons rfl (FrLe.cons rfl (FrLe.cons rfl (FrLe.cons rfl (FrLe.nil _)))))))))
    refine h (fun x59_47 σ => ARound _ _ _ _ _ _ [(3, .int .i64 x23_2), (4, Sl.v x25_3), (7, Sl.v x35_7), (9, .pointer x41_10), (10, Sl.v (⟨some ⟨x56_14, 0, none⟩, Int.toNat (x35_7.len : Int), Int.toNat (x35_7.len : Int)⟩ : Sl)), (57, Sl.v x29_5), (58, .int .i64 (x29_5.len : Int)), (59, .int .i64 x59_47)] σ) ?_
    rintro x59_47 σ Y46 hY46 h
    show AW _ _ _ _ _ _ _ _
    unfold l46_law05_SnapBack at h
    refine AW.seq ?_
    refine AW.reg ?_
    refine Lp (V_lss rfl rfl rfl) rfl rfl ?_
    refine Lnil ?_
    refine thenN ?_
    refine AW.seq ?_
    refine AW.iff rfl decide_eq_true_iff h (fun h => ?_) (fun h => ?_)
    rotate_left
    · refine AW.exit ?_
      refine thenE ?_
      refine thenE ?_
      refine blockE ?_
      refine thenN ?_
      exact ⟨(FrLe.cons rfl (FrLe.cons rfl (FrLe.cons rfl (FrLe.cons rfl (FrLe.cons rfl (FrLe.nil _)))))), h⟩
    refine AW.skip ?_
    refine thenN ?_
    refine AW.seqJ (fun fr σ => FrLe [(3, .int .i64 x23_2), (4, Sl.v x25_3), (7, Sl.v x35_7), (9, .pointer x41_10), (10, Sl.v (⟨some ⟨x56_14, 0, none⟩, Int.toNat (x35_7.len : Int), Int.toNat (x35_7.len : Int)⟩ : Sl)), (57, Sl.v x29_5), (58, .int .i64 (x29_5.len : Int)), (59, .int .i64 x59_47)] fr ∧ j48_law05_SnapBack B ro x23_2 x25_3 x29_5 x35_7 x41_10 x56_14 x59_47 Q Y46 σ) ?_ ?_
    · rintro fr σ ⟨hl, h⟩
      refine AW.weaken ?_ hl (HLe.refl _)
      unfold j48_law05_SnapBack at h
      refine AW.reg ?_
      refine Lp (V_add rfl rfl rfl) rfl rfl ?_
      refine Lp (V_move rfl rfl) rfl rfl ?_
      refine Lnil ?_
      refine thenN ?_
      refine ARound.head (fr' := [(3, .int .i64 x23_2), (4, Sl.v x25_3), (7, Sl.v x35_7), (9, .pointer x41_10), (10, Sl.v (⟨some ⟨x56_14, 0, none⟩, Int.toNat (x35_7.len : Int), Int.toNat (x35_7.len : Int)⟩ : Sl)), (57, Sl.v x29_5), (58, .int .i64 (x29_5.len : Int)), (59, .int .i64 (IntKind.i64.wrap (x59_47 + 1)))]) ?_ (FrLe.cons rfl (FrLe.cons rfl (FrLe.cons rfl (FrLe.cons rfl (FrLe.cons rfl (FrLe.cons rfl (FrLe.cons rfl (FrLe.cons rfl (FrLe.nil _)))))))))
      exact hY46 _ _ h
    refine AW.block ?_
    refine AW.seq ?_
    refine AW.reg ?_
    obtain ⟨p61_49, ha, h0, h1, h⟩ := h
    refine Lp (V_ixA rfl Tryz.underlying23 ty3 (ixL rfl ha) rfl h0 h1) rfl rfl ?_
    obtain ⟨x62_50, hc, h⟩ := h
    refine Ls rfl rfl (X_ld rfl Tryz.underlying3 rfl rfl hc ?_)
    refine Lp (V_asg rfl rfl) rfl rfl ?_
    refine Lnil ?_
    refine thenN ?_
    refine AW.seq ?_
    refine AW.seq ?_
    refine AW.reg ?_
    refine Lp (V_move rfl rfl) rfl rfl ?_
    refine Lp (V_lss rfl rfl rfl) rfl rfl ?_
    refine Lp (V_move rfl rfl) rfl rfl ?_
    refine Lsplit 5 (decide (x62_50 < 0)) [(3, .int .i64 x23_2), (4, Sl.v x25_3), (7, Sl.v x35_7), (9, .pointer x41_10), (10, Sl.v (⟨some ⟨x56_14, 0, none⟩, Int.toNat (x35_7.len : Int), Int.toNat (x35_7.len : Int)⟩ : Sl)), (12, .int .i64 x62_50), (57, Sl.v x29_5), (58, .int .i64 (x29_5.len : Int)), (59, .int .i64 x59_47), (70, .bool ((decide (x62_50 < 0)) || (decide ((x35_7.len : Int) ≤ x62_50))))] ?_ ?_ ?_
    · intro e2 hk2
      refine Ln rfl rfl rfl rfl (.inl (by rw [e2]; rfl)) ?_
      refine Ln rfl rfl rfl rfl (.inl (by rw [e2]; rfl)) ?_
      refine Ln rfl rfl rfl rfl (.inl (by rw [e2]; rfl)) ?_
      refine Ln rfl rfl rfl rfl (.inl (by rw [e2]; rfl)) ?_
      refine Lp (V_pickT rfl (evb e2) rfl) rfl rfl ?_
      exact hk2 _ (FrLe.cons rfl (FrLe.cons rfl (FrLe.cons rfl (FrLe.cons rfl (FrLe.cons rfl (FrLe.cons rfl (FrLe.cons rfl (FrLe.cons rfl (FrLe.cons rfl (FrLe.cons (by rw [e2]; rfl) (FrLe.nil _)))))))))))
    · intro e2 hk2
      refine Lypb (V_move rfl rfl) rfl rfl rfl rfl e2 ?_
      refine Lypb (V_move rfl rfl) rfl rfl rfl rfl e2 ?_
      refine Lypb (V_lenL rfl rfl Tryz.underlying44 rfl rfl) rfl rfl rfl rfl e2 ?_
      refine Lypb (V_geq rfl rfl rfl) rfl rfl rfl rfl e2 ?_
      refine Lp (V_pickF rfl (evb e2) rfl) rfl rfl ?_
      exact hk2 _ (FrLe.cons rfl (FrLe.cons rfl (FrLe.cons rfl (FrLe.cons rfl (FrLe.cons rfl (FrLe.cons rfl (FrLe.cons rfl (FrLe.cons rfl (FrLe.cons rfl (FrLe.cons (by rw [e2]; rfl) (FrLe.nil _)))))))))))
    intro fr hl
    refine Lfr hl ?_
    refine Lnil ?_
    refine thenN ?_
    refine AW.iff rfl (bor_iff decide_eq_true_iff decide_eq_true_iff) h (fun h => ?_) (fun h => ?_)
    · refine AW.exit ?_
      refine thenE ?_
      refine blockE ?_
      refine thenN ?_
      exact ⟨(FrLe.cons rfl (FrLe.cons rfl (FrLe.cons rfl (FrLe.cons rfl (FrLe.cons rfl (FrLe.cons rfl (FrLe.cons rfl (FrLe.cons rfl (FrLe.nil _))))))))), h⟩
    refine AW.skip ?_
    refine thenN ?_
    refine AW.seq ?_
    refine AW.reg ?_
    refine Lp (V_move rfl rfl) rfl rfl ?_
    refine Lp (V_move rfl rfl) rfl rfl ?_
    obtain ⟨p73_51, ha, h0, h1, h⟩ := h
    refine Lp (V_ixA rfl Tryz.underlying66 ty4 (ixL rfl ha) rfl h0 h1) rfl rfl ?_
    refine Ls rfl rfl (X_st rfl ty4 rfl rfl rfl rfl (stN_mono h fun σ h => ?_))
    refine Lnil ?_
    refine thenN ?_
    refine AW.seq ?_
    refine AW.reg ?_
    refine Lp (V_move rfl rfl) rfl rfl ?_
    refine Lp (V_move rfl rfl) rfl rfl ?_
    refine Lp (V_move rfl rfl) rfl rfl ?_
    obtain ⟨p77_52, ha, h0, h1, h⟩ := h
    refine Lp (V_ixA rfl Tryz.underlying44 ty22 (ixL rfl ha) rfl h0 h1) rfl rfl ?_
    obtain ⟨x78_53, hc, h⟩ := h
    refine Ls rfl rfl (X_ld rfl Tryz.underlying22 rfl rfl hc ?_)
    refine Ls rfl rfl (X_call rfl Tryz.func12 rfl rfl rfl (ACalls.mono h ?_))
    rintro v σ ⟨x79_54, rfl, h⟩
    refine Ls rfl rfl (X_new (A_bsl (vs := [(0, Sl.v x79_54)]) (cs := #[Sl.v x79_54]) rfl Tryz.underlying44 ty22 (by decide) rfl rfl) fun x80_55 g1 g2 => ?_)
    replace h := h x80_55 g1 g2
    refine Ls rfl rfl (X_call rfl Tryz.func21 rfl rfl rfl (ACalls.mono h ?_))
    rintro v σ ⟨x81_56, rfl, h⟩
    refine Lp (V_neq rfl rfl rfl) rfl rfl ?_
    refine Lnil ?_
    refine thenN ?_
    refine AW.iff rfl (bnot_iff decide_eq_true_iff) h (fun h => ?_) (fun h => ?_)
    rotate_left
    · refine AW.skip ?_
      refine blockN ?_
      refine thenN ?_
      exact ⟨(FrLe.cons rfl (FrLe.cons rfl (FrLe.cons rfl (FrLe.cons rfl (FrLe.cons rfl (FrLe.cons rfl (FrLe.cons rfl (FrLe.cons rfl (FrLe.nil _))))))))), h⟩
    refine AW.seq ?_
    refine AW.reg ?_
    refine Lp (V_asg rfl rfl) rfl rfl ?_
    refine Lnil ?_
    refine thenN ?_
    refine AW.ret ?_
    refine blockR ?_
    refine thenR ?_
    refine thenR ?_
    refine blockR ?_
    refine thenR ?_
    exact bR1 Tryz.results5 rfl ⟨_, rfl, h⟩
  rintro fr σ ⟨hl, h⟩
  refine AW.weaken ?_ hl (HLe.refl _)
  unfold j15_law05_SnapBack at h
  refine AW.seq ?_
  refine AW.reg ?_
  refine Lp (V_asg rfl rfl) rfl rfl ?_
  refine Lnil ?_
  refine thenN ?_
  refine AW.seqJ (fun fr σ => ∃ (x13_17 : Int), FrLe [(3, .int .i64 x23_2), (4, Sl.v x25_3), (7, Sl.v x35_7), (9, .pointer x41_10), (13, .int .i64 x13_17)] fr ∧ j16_law05_SnapBack B ro x23_2 x25_3 x35_7 x41_10 Q x13_17 σ) ?_ ?_
  rotate_left
  · refine AW.seq ?_
    refine AW.reg ?_
    refine Lp (V_move rfl rfl) rfl rfl ?_
    refine Lp (V_lenL rfl rfl Tryz.underlying66 rfl rfl) rfl rfl ?_
    refine Lp (V_move rfl rfl) rfl rfl ?_
    refine Lnil ?_
    refine thenN ?_
    refine AW.block ?_
    refine ARound.loop (fr' := [(3, .int .i64 x23_2), (4, Sl.v x25_3), (7, Sl.v x35_7), (9, .pointer x41_10), (84, Sl.v (⟨some ⟨x56_14, 0, none⟩, Int.toNat (x35_7.len : Int), Int.toNat (x35_7.len : Int)⟩ : Sl)), (85, .int .i64 ((⟨some ⟨x56_14, 0, none⟩, Int.toNat (x35_7.len : Int), Int.toNat (x35_7.len : Int)⟩ : Sl).len : Int)), (13, .int .i64 0), (86, .int .i64 0)]) ?_ (FrLe.cons rfl (FrLe.cons rfl (FrLe.cons rfl (FrLe.cons rfl (FrLe.cons rfl (FrLe.cons rfl (FrLe.cons rfl (FrLe.cons rfl (FrLe.nil _)))))))))
    refine h (fun ⟨x13_40, x86_41⟩ σ => ARound _ _ _ _ _ _ [(3, .int .i64 x23_2), (4, Sl.v x25_3), (7, Sl.v x35_7), (9, .pointer x41_10), (84, Sl.v (⟨some ⟨x56_14, 0, none⟩, Int.toNat (x35_7.len : Int), Int.toNat (x35_7.len : Int)⟩ : Sl)), (85, .int .i64 ((⟨some ⟨x56_14, 0, none⟩, Int.toNat (x35_7.len : Int), Int.toNat (x35_7.len : Int)⟩ : Sl).len : Int)), (13, .int .i64 x13_40), (86, .int .i64 x86_41)] σ) ?_
    rintro ⟨x13_40, x86_41⟩ σ Y39 hY39 h
    show AW _ _ _ _ _ _ _ _
    unfold l39_law05_SnapBack at h
    dsimp only at h
    refine AW.seq ?_
    refine AW.reg ?_
    refine Lp (V_lss rfl rfl rfl) rfl rfl ?_
    refine Lnil ?_
    refine thenN ?_
    refine AW.seq ?_
    refine AW.iff rfl decide_eq_true_iff h (fun h => ?_) (fun h => ?_)
    rotate_left
    · refine AW.exit ?_
      refine thenE ?_
      refine thenE ?_
      refine blockE ?_
      refine thenN ?_
      exact ⟨_, (FrLe.cons rfl (FrLe.cons rfl (FrLe.cons rfl (FrLe.cons rfl (FrLe.cons rfl (FrLe.nil _)))))), h⟩
    refine AW.skip ?_
    refine thenN ?_
    refine AW.seqJ (fun fr σ => ∃ (x13_43 : Int), FrLe [(3, .int .i64 x23_2), (4, Sl.v x25_3), (7, Sl.v x35_7), (9, .pointer x41_10), (84, Sl.v (⟨some ⟨x56_14, 0, none⟩, Int.toNat (x35_7.len : Int), Int.toNat (x35_7.len : Int)⟩ : Sl)), (85, .int .i64 ((⟨some ⟨x56_14, 0, none⟩, Int.toNat (x35_7.len : Int), Int.toNat (x35_7.len : Int)⟩ : Sl).len : Int)), (86, .int .i64 x86_41), (13, .int .i64 x13_43)] fr ∧ j42_law05_SnapBack B ro x23_2 x25_3 x35_7 x41_10 x56_14 x86_41 Q Y39 x13_43 σ) ?_ ?_
    · rintro fr σ ⟨x13_43, hl, h⟩
      refine AW.weaken ?_ hl (HLe.refl _)
      unfold j42_law05_SnapBack at h
      refine AW.reg ?_
      refine Lp (V_add rfl rfl rfl) rfl rfl ?_
      refine Lp (V_move rfl rfl) rfl rfl ?_
      refine Lnil ?_
      refine thenN ?_
      refine ARound.head (fr' := [(3, .int .i64 x23_2), (4, Sl.v x25_3), (7, Sl.v x35_7), (9, .pointer x41_10), (84, Sl.v (⟨some ⟨x56_14, 0, none⟩, Int.toNat (x35_7.len : Int), Int.toNat (x35_7.len : Int)⟩ : Sl)), (85, .int .i64 ((⟨some ⟨x56_14, 0, none⟩, Int.toNat (x35_7.len : Int), Int.toNat (x35_7.len : Int)⟩ : Sl).len : Int)), (13, .int .i64 x13_43), (86, .int .i64 (IntKind.i64.wrap (x86_41 + 1)))]) ?_ (FrLe.cons rfl (FrLe.cons rfl (FrLe.cons rfl (FrLe.cons rfl (FrLe.cons rfl (FrLe.cons rfl (FrLe.cons rfl (FrLe.cons rfl (FrLe.nil _)))))))))
      exact hY39 _ _ h
    refine AW.block ?_
    refine AW.seq ?_
    refine AW.reg ?_
    obtain ⟨p88_44, ha, h0, h1, h⟩ := h
    refine Lp (V_ixA rfl Tryz.underlying66 ty4 (ixL rfl ha) rfl h0 h1) rfl rfl ?_
    obtain ⟨x89_45, hc, h⟩ := h
    refine Ls rfl rfl (X_ld rfl Tryz.underlying4 rfl rfl hc ?_)
    refine Lp (V_asg rfl rfl) rfl rfl ?_
    refine Lnil ?_
    refine thenN ?_
    refine AW.seq ?_
    refine AW.reg ?_
    refine Lp (V_move rfl rfl) rfl rfl ?_
    refine Lp (V_not rfl rfl) rfl rfl ?_
    refine Lnil ?_
    refine thenN ?_
    refine AW.iff rfl (bnot_iff Iff.rfl) h (fun h => ?_) (fun h => ?_)
    rotate_left
    · refine AW.skip ?_
      refine blockN ?_
      refine thenN ?_
      exact ⟨_, (FrLe.cons rfl (FrLe.cons rfl (FrLe.cons rfl (FrLe.cons rfl (FrLe.cons rfl (FrLe.cons rfl (FrLe.cons rfl (FrLe.cons rfl (FrLe.nil _))))))))), h⟩
    refine AW.reg ?_
    refine Lp (V_move rfl rfl) rfl rfl ?_
    refine Lp (V_add rfl rfl rfl) rfl rfl ?_
    refine Lp (V_asg rfl rfl) rfl rfl ?_
    refine Lnil ?_
    refine blockN ?_
    refine thenN ?_
    exact ⟨_, (FrLe.cons rfl (FrLe.cons rfl (FrLe.cons rfl (FrLe.cons rfl (FrLe.cons rfl (FrLe.cons rfl (FrLe.cons rfl (FrLe.cons rfl (FrLe.nil _))))))))), h⟩
  rintro fr σ ⟨x13_17, hl, h⟩
  refine AW.weaken ?_ hl (HLe.refl _)
  unfold j16_law05_SnapBack at h
  refine AW.seq ?_
  refine AW.seq ?_
  refine AW.reg ?_
  refine Lp (V_move rfl rfl) rfl rfl ?_
  refine Ls rfl rfl (X_call rfl Tryz.func23 rfl rfl rfl (ACalls.mono h ?_))
  rintro v σ ⟨x97_18, x97_19, x97_20, rfl, h⟩
  refine Lp (V_move rfl rfl) rfl rfl ?_
  refine Lp (V_ext rfl rfl rfl) rfl rfl ?_
  refine Lp (V_ext rfl rfl rfl) rfl rfl ?_
  refine Lp (V_ext rfl rfl rfl) rfl rfl ?_
  refine Lp (V_asg rfl rfl) rfl rfl ?_
  refine Lp (V_asg rfl rfl) rfl rfl ?_
  refine Lp (V_asg rfl rfl) rfl rfl ?_
  refine Lnil ?_
  refine thenN ?_
  refine AW.seq ?_
  refine AW.reg ?_
  refine Lp (V_move rfl rfl) rfl rfl ?_
  refine Lp (V_move rfl rfl) rfl rfl ?_
  refine Lp (V_eql rfl rfl rfl) rfl rfl ?_
  refine Lp (V_neB rfl Tryz.underlying4 rfl rfl) rfl rfl ?_
  refine Lp (V_move rfl rfl) rfl rfl ?_
  refine LsplitJ 12 (!(x97_20 == (decide (x13_17 = 0)))) (bnot_iff beq_iff') h (fun fr σ => ∃ (x117_22 : Bool), FrLe [(3, .int .i64 x23_2), (4, Sl.v x25_3), (7, Sl.v x35_7), (9, .pointer x41_10), (117, .bool x117_22)] fr ∧ j21_law05_SnapBack B ro x23_2 x25_3 x35_7 x41_10 Q x117_22 σ) ?_ ?_ ?_
  · intro h e4 hk4
    refine Ln rfl rfl rfl rfl (.inl (by rw [e4]; rfl)) ?_
    refine Ln rfl rfl rfl rfl (.inl (by rw [e4]; rfl)) ?_
    refine Ln rfl rfl rfl rfl (.inl (by rw [e4]; rfl)) ?_
    refine Ln rfl rfl rfl rfl (.inl (by rw [e4]; rfl)) ?_
    refine Ln rfl rfl rfl rfl (.inl (by rw [e4]; rfl)) ?_
    refine Ln rfl rfl rfl rfl (.inr rfl) ?_
    refine Ln rfl rfl rfl rfl (.inr rfl) ?_
    refine Ln rfl rfl rfl rfl (.inr rfl) ?_
    refine Ln rfl rfl rfl rfl (.inr rfl) ?_
    refine Ln rfl rfl rfl rfl (.inr rfl) ?_
    refine Ln rfl rfl rfl rfl (.inl (by rw [e4]; rfl)) ?_
    refine Lp (V_pickT rfl (evb e4) rfl) rfl rfl ?_
    exact hk4 _ _ ⟨_, (FrLe.cons rfl (FrLe.cons rfl (FrLe.cons rfl (FrLe.cons rfl (FrLe.cons rfl (FrLe.nil _)))))), h⟩
  · intro h e4 hk4
    refine Lypb (V_move rfl rfl) rfl rfl rfl rfl e4 ?_
    refine Lypb (V_move rfl rfl) rfl rfl rfl rfl e4 ?_
    refine Lypb (V_lenL rfl rfl Tryz.underlying44 rfl rfl) rfl rfl rfl rfl e4 ?_
    refine Lypb (V_lss rfl rfl rfl) rfl rfl rfl rfl e4 ?_
    refine Lypb (V_move rfl rfl) rfl rfl rfl rfl e4 ?_
    refine LsplitJ 6 (decide (x13_17 < (x35_7.len : Int))) decide_eq_true_iff h (fun fr σ => ∃ (x116_37 : Bool), FrLe [(3, .int .i64 x23_2), (4, Sl.v x25_3), (7, Sl.v x35_7), (9, .pointer x41_10), (105, .bool (!(x97_20 == (decide (x13_17 = 0))))), (116, .bool x116_37)] fr ∧ j36_law05_SnapBack B ro x13_17 x23_2 x25_3 x35_7 x41_10 x97_20 Q x116_37 σ) ?_ ?_ ?_
    · intro h e9 hk9
      refine Lypb (V_move rfl rfl) rfl rfl rfl rfl e9 ?_
      refine Lyb rfl rfl rfl rfl e9 (X_call rfl Tryz.func26 rfl rfl rfl (ACalls.mono h ?_))
      rintro v σ ⟨x112_38, rfl, h⟩
      refine Lypb (V_lenL rfl rfl Tryz.underlying23 rfl rfl) rfl rfl rfl rfl e9 ?_
      refine Lypb (V_move rfl rfl) rfl rfl rfl rfl e9 ?_
      refine Lypb (V_neq rfl rfl rfl) rfl rfl rfl rfl e9 ?_
      refine Lypb (V_pickT rfl (evb e9) rfl) rfl rfl rfl rfl e4 ?_
      exact hk9 _ _ ⟨_, (FrLe.cons rfl (FrLe.cons rfl (FrLe.cons rfl (FrLe.cons rfl (FrLe.cons rfl (FrLe.cons rfl (FrLe.nil _))))))), h⟩
    · intro h e9 hk9
      refine Ln rfl rfl rfl rfl (.inl (by rw [e9]; rfl)) ?_
      refine Ln rfl rfl rfl rfl (.inl (by rw [e9]; rfl)) ?_
      refine Ln rfl rfl rfl rfl (.inl (by rw [e9]; rfl)) ?_
      refine Ln rfl rfl rfl rfl (.inl (by rw [e9]; rfl)) ?_
      refine Ln rfl rfl rfl rfl (.inl (by rw [e9]; rfl)) ?_
      refine Lypb (V_pickF rfl (evb e9) rfl) rfl rfl rfl rfl e4 ?_
      exact hk9 _ _ ⟨_, (FrLe.cons rfl (FrLe.cons rfl (FrLe.cons rfl (FrLe.cons rfl (FrLe.cons rfl (FrLe.cons rfl (FrLe.nil _))))))), h⟩
    rintro fr σ ⟨x116_37, hl, h⟩
    unfold j36_law05_SnapBack at h
    refine Lfr hl ?_
    refine Lp (V_pickF rfl (evb e4) rfl) rfl rfl ?_
    exact hk4 _ _ ⟨_, (FrLe.cons rfl (FrLe.cons rfl (FrLe.cons rfl (FrLe.cons rfl (FrLe.cons rfl (FrLe.nil _)))))), h⟩
  rintro fr σ ⟨x117_22, hl, h⟩
  unfold j21_law05_SnapBack at h
  refine Lfr hl ?_
  refine Lnil ?_
  refine thenN ?_
  refine AW.iff rfl Iff.rfl h (fun h => ?_) (fun h => ?_)
  · refine AW.seq ?_
    refine AW.reg ?_
    refine Lp (V_asg rfl rfl) rfl rfl ?_
    refine Lnil ?_
    refine thenN ?_
    refine AW.ret ?_
    refine thenR ?_
    exact bR1 Tryz.results5 rfl ⟨_, rfl, h⟩
  refine AW.skip ?_
  refine thenN ?_
  refine AW.seq ?_
  refine AW.seq ?_
  refine AW.reg ?_
  refine Lp (V_move rfl rfl) rfl rfl ?_
  refine Lp (V_move rfl rfl) rfl rfl ?_
  refine Ls rfl rfl (X_call rfl Tryz.func21 rfl rfl rfl (ACalls.mono h ?_))
  rintro v σ ⟨x120_23, rfl, h⟩
  refine Lp (V_neq rfl rfl rfl) rfl rfl ?_
  refine Lnil ?_
  refine thenN ?_
  refine AW.iff rfl (bnot_iff decide_eq_true_iff) h (fun h => ?_) (fun h => ?_)
  · refine AW.seq ?_
    refine AW.reg ?_
    refine Lp (V_asg rfl rfl) rfl rfl ?_
    refine Lnil ?_
    refine thenN ?_
    refine AW.ret ?_
    refine thenR ?_
    exact bR1 Tryz.results5 rfl ⟨_, rfl, h⟩
  refine AW.skip ?_
  refine thenN ?_
  refine AW.seq ?_
  refine AW.reg ?_
  refine Lp (V_move rfl rfl) rfl rfl ?_
  refine Ls rfl rfl (X_call rfl Tryz.func23 rfl rfl rfl (ACalls.mono h ?_))
  rintro v σ ⟨x124_24, x124_25, x124_26, rfl, h⟩
  refine Lp (V_move rfl rfl) rfl rfl ?_
  refine Lp (V_ext rfl rfl rfl) rfl rfl ?_
  refine Lp (V_ext rfl rfl rfl) rfl rfl ?_
  refine Lp (V_ext rfl rfl rfl) rfl rfl ?_
  refine Lp (V_asg rfl rfl) rfl rfl ?_
  refine Lp (V_asg rfl rfl) rfl rfl ?_
  refine Lp (V_asg rfl rfl) rfl rfl ?_
  refine Lnil ?_
  refine thenN ?_
  refine AW.seq ?_
  refine AW.reg ?_
  refine Lp (V_move rfl rfl) rfl rfl ?_
  refine Lp (V_move rfl rfl) rfl rfl ?_
  refine Lsplit 4 x124_26 [(4, Sl.v x25_3), (9, .pointer x41_10), (20, Sl.v x124_25), (133, .bool (x124_26 && (decide (x124_24 = x23_2))))] ?_ ?_ ?_
  · intro e1 hk1
    refine Lypb (V_move rfl rfl) rfl rfl rfl rfl e1 ?_
    refine Lypb (V_move rfl rfl) rfl rfl rfl rfl e1 ?_
    refine Lypb (V_eql rfl rfl rfl) rfl rfl rfl rfl e1 ?_
    refine Lp (V_pickT rfl (evb e1) rfl) rfl rfl ?_
    exact hk1 _ (FrLe.cons rfl (FrLe.cons rfl (FrLe.cons rfl (FrLe.cons (by rw [e1]; rfl) (FrLe.nil _)))))
  · intro e1 hk1
    refine Ln rfl rfl rfl rfl (.inl (by rw [e1]; rfl)) ?_
    refine Ln rfl rfl rfl rfl (.inl (by rw [e1]; rfl)) ?_
    refine Ln rfl rfl rfl rfl (.inl (by rw [e1]; rfl)) ?_
    refine Lp (V_pickF rfl (evb e1) rfl) rfl rfl ?_
    exact hk1 _ (FrLe.cons rfl (FrLe.cons rfl (FrLe.cons rfl (FrLe.cons (by rw [e1]; rfl) (FrLe.nil _)))))
  intro fr hl
  refine Lfr hl ?_
  refine Lp (V_move rfl rfl) rfl rfl ?_
  refine LsplitJ 4 (x124_26 && (decide (x124_24 = x23_2))) (band_iff Iff.rfl decide_eq_true_iff) h (fun fr σ => ∃ (x138_28 : Bool), FrLe [(9, .pointer x41_10), (138, .bool x138_28)] fr ∧ j27_law05_SnapBack B ro x41_10 Q x138_28 σ) ?_ ?_ ?_
  · intro h e6 hk6
    refine Lypb (V_move rfl rfl) rfl rfl rfl rfl e6 ?_
    refine Lypb (V_move rfl rfl) rfl rfl rfl rfl e6 ?_
    refine Lyb rfl rfl rfl rfl e6 (X_call rfl Tryz.func17 rfl rfl rfl (ACalls.mono h ?_))
    rintro v σ ⟨x137_35, rfl, h⟩
    refine Lp (V_pickT rfl (evb e6) rfl) rfl rfl ?_
    exact hk6 _ _ ⟨_, (FrLe.cons rfl (FrLe.cons rfl (FrLe.nil _))), h⟩
  · intro h e6 hk6
    refine Ln rfl rfl rfl rfl (.inl (by rw [e6]; rfl)) ?_
    refine Ln rfl rfl rfl rfl (.inl (by rw [e6]; rfl)) ?_
    refine Ln rfl rfl rfl rfl (.inl (by rw [e6]; rfl)) ?_
    refine Lp (V_pickF rfl (evb e6) rfl) rfl rfl ?_
    exact hk6 _ _ ⟨_, (FrLe.cons rfl (FrLe.cons rfl (FrLe.nil _))), h⟩
  rintro fr σ ⟨x138_28, hl, h⟩
  unfold j27_law05_SnapBack at h
  refine Lfr hl ?_
  refine Lp (V_move rfl rfl) rfl rfl ?_
  refine LsplitJ 5 x138_28 Iff.rfl h (fun fr σ => ∃ (x144_30 : Bool), FrLe [(144, .bool x144_30)] fr ∧ j29_law05_SnapBack B ro Q x144_30 σ) ?_ ?_ ?_
  · intro h e11 hk11
    refine Lypb (V_move rfl rfl) rfl rfl rfl rfl e11 ?_
    refine Lyb rfl rfl rfl rfl e11 (X_call rfl Tryz.func26 rfl rfl rfl (ACalls.mono h ?_))
    rintro v σ ⟨x141_34, rfl, h⟩
    refine Lypb (V_lenL rfl rfl Tryz.underlying23 rfl rfl) rfl rfl rfl rfl e11 ?_
    refine Lypb (V_eql rfl rfl rfl) rfl rfl rfl rfl e11 ?_
    refine Lp (V_pickT rfl (evb e11) rfl) rfl rfl ?_
    exact hk11 _ _ ⟨_, (FrLe.cons rfl (FrLe.nil _)), h⟩
  · intro h e11 hk11
    refine Ln rfl rfl rfl rfl (.inl (by rw [e11]; rfl)) ?_
    refine Ln rfl rfl rfl rfl (.inl (by rw [e11]; rfl)) ?_
    refine Ln rfl rfl rfl rfl (.inl (by rw [e11]; rfl)) ?_
    refine Ln rfl rfl rfl rfl (.inl (by rw [e11]; rfl)) ?_
    refine Lp (V_pickF rfl (evb e11) rfl) rfl rfl ?_
    exact hk11 _ _ ⟨_, (FrLe.cons rfl (FrLe.nil _)), h⟩
  rintro fr σ ⟨x144_30, hl, h⟩
  unfold j29_law05_SnapBack at h
  refine Lfr hl ?_
  refine Lp (V_move rfl rfl) rfl rfl ?_
  refine LsplitJ 2 x144_30 Iff.rfl h (fun fr σ => ∃ (x147_32 : Bool), FrLe [(147, .bool x147_32)] fr ∧ j31_law05_SnapBack B ro Q x147_32 σ) ?_ ?_ ?_
  · intro h e17 hk17
    refine Lyb rfl rfl rfl rfl e17 (X_call rfl Tryz.func10 rfl rfl rfl (ACalls.mono h ?_))
    rintro v σ ⟨x146_33, rfl, h⟩
    refine Lp (V_pickT rfl (evb e17) rfl) rfl rfl ?_
    exact hk17 _ _ ⟨_, (FrLe.cons rfl (FrLe.nil _)), h⟩
  · intro h e17 hk17
    refine Ln rfl rfl rfl rfl (.inl (by rw [e17]; rfl)) ?_
    refine Lp (V_pickF rfl (evb e17) rfl) rfl rfl ?_
    exact hk17 _ _ ⟨_, (FrLe.cons rfl (FrLe.nil _)), h⟩
  rintro fr σ ⟨x147_32, hl, h⟩
  unfold j31_law05_SnapBack at h
  refine Lfr hl ?_
  refine Lp (V_asg rfl rfl) rfl rfl ?_
  refine Lnil ?_
  refine thenN ?_
  refine AW.ret ?_
  exact bR1 Tryz.results5 rfl ⟨_, rfl, h⟩

def j9_law05_awake (B : World) (ro : AH) (Q : Bool → AH → Prop) (x40_10 : Bool) (σ : AH) : Prop :=
 Q x40_10 σ

def j3_law05_awake (B : World) (ro : AH) (x8_1 : Option Addr) (Q : Bool → AH → Prop) (x19_4 : Bool) (σ : AH) : Prop :=
 if x19_4 = true then
  Q false σ
 else
 c_snap_Load B ro x8_1 (⟨#[115]⟩ : ByteArray) σ fun x22_5 x22_6 x22_7 x22_8 σ =>
 if ((x22_8 = 0) ∧ (x22_7 = true)) ∧ (x22_5 = 1) then
  awp Tryz.prog ro (convert 22 9 (Sl.v x22_6)) (fun v σ =>
   (∃ (x38_11 : ByteArray), v = .string x38_11 ∧
    j9_law05_awake B ro Q (decide (x38_11 = (⟨#[111, 110, 101]⟩ : ByteArray))) σ)) σ
 else
 j9_law05_awake B ro Q false σ

def f_law05_awake (B : World) (ro : AH) (σ : AH) (Q : Bool → AH → Prop) : Prop :=
 c_disk_New B ro 999 σ fun x8_1 x8_2 σ =>
 if x8_1 = none then
  j3_law05_awake B ro x8_1 Q true σ
 else
 nw ro σ (.cells #[.int .u8 111, .int .u8 110, .int .u8 101] 5) fun x15_12 σ =>
 awp Tryz.prog ro (convert 22 22 (Sl.v (⟨some ⟨x15_12, 0, none⟩, 3, 3⟩ : Sl))) (fun v σ =>
  (∃ (x16_13 : Sl), v = Sl.v x16_13 ∧
   c_snap_Save B ro x8_1 (⟨#[115]⟩ : ByteArray) 1 x16_13 σ fun x17_14 σ =>
   j3_law05_awake B ro x8_1 Q (!(decide (x17_14 = 0))) σ)) σ

set_option maxRecDepth 100000 in
set_option maxHeartbeats 4000000 in
theorem law05_awake_ok {B : World} {ro : AH} {σ : AH} {Q : Bool → AH → Prop} (h : Sep ro σ → f_law05_awake B ro σ Q) : c_law05_awake B ro σ Q := by
  refine ACalls.of_sep fun hsep => ?_
  replace h := h hsep
  refine ACalls.of_body (args := []) Tryz.func10 rfl (by rw [Tryz.ntmps10]; simp) ?_
  rw [Tryz.ntmps10]
  unfold f_law05_awake at h
  refine AW.seq ?_
  refine AW.reg ?_
  refine Lp (V_asg rfl rfl) rfl rfl ?_
  refine Lnil ?_
  refine thenN ?_
  refine AW.seq ?_
  refine AW.reg ?_
  refine Ls rfl rfl (X_call rfl Tryz.func9 rfl rfl rfl (ACalls.mono h ?_))
  rintro v σ ⟨x8_1, x8_2, rfl, h⟩
  refine Lp (V_move rfl rfl) rfl rfl ?_
  refine Lp (V_ext rfl rfl rfl) rfl rfl ?_
  refine Lp (V_ext rfl rfl rfl) rfl rfl ?_
  refine Lp (V_asg rfl rfl) rfl rfl ?_
  refine Lp (V_asg rfl rfl) rfl rfl ?_
  refine Lnil ?_
  refine thenN ?_
  refine AW.seq ?_
  refine AW.seq ?_
  refine AW.reg ?_
  refine Lp (V_move rfl rfl) rfl rfl ?_
  refine Lp (V_eqP rfl Tryz.underlying26 rfl rfl) rfl rfl ?_
  refine Lp (V_move rfl rfl) rfl rfl ?_
  refine LsplitJ 6 x8_1.isNone isNone_iff h (fun fr σ => ∃ (x19_4 : Bool), FrLe [(1, .pointer x8_1), (19, .bool x19_4)] fr ∧ j3_law05_awake B ro x8_1 Q x19_4 σ) ?_ ?_ ?_
  · intro h e2 hk2
    refine Ln rfl rfl rfl rfl (.inl (by rw [e2]; rfl)) ?_
    refine Ln rfl rfl rfl rfl (.inl (by rw [e2]; rfl)) ?_
    refine Ln rfl rfl rfl rfl (.inl (by rw [e2]; rfl)) ?_
    refine Ln rfl rfl rfl rfl (.inl (by rw [e2]; rfl)) ?_
    refine Ln rfl rfl rfl rfl (.inl (by rw [e2]; rfl)) ?_
    refine Lp (V_pickT rfl (evb e2) rfl) rfl rfl ?_
    exact hk2 _ _ ⟨_, (FrLe.cons rfl (FrLe.cons rfl (FrLe.nil _))), h⟩
  · intro h e2 hk2
    refine Lypb (V_move rfl rfl) rfl rfl rfl rfl e2 ?_
    refine Lyb rfl rfl rfl rfl e2 (X_new (A_bsl (vs := [(0, .int .u8 111), (1, .int .u8 110), (2, .int .u8 101)]) (cs := #[.int .u8 111, .int .u8 110, .int .u8 101]) rfl Tryz.underlying22 ty5 (by decide) rfl rfl) fun x15_12 g1 g2 => ?_)
    replace h := h x15_12 g1 g2
    refine Lyb rfl rfl rfl rfl e2 (X_cvt rfl rfl (awp_mono _ h ?_))
    rintro v σ ⟨x16_13, rfl, h⟩
    refine Lyb rfl rfl rfl rfl e2 (X_call rfl Tryz.func11 rfl rfl rfl (ACalls.mono h ?_))
    rintro v σ ⟨x17_14, rfl, h⟩
    refine Lypb (V_neq rfl rfl rfl) rfl rfl rfl rfl e2 ?_
    refine Lp (V_pickF rfl (evb e2) rfl) rfl rfl ?_
    exact hk2 _ _ ⟨_, (FrLe.cons rfl (FrLe.cons rfl (FrLe.nil _))), h⟩
  rintro fr σ ⟨x19_4, hl, h⟩
  unfold j3_law05_awake at h
  refine Lfr hl ?_
  refine Lnil ?_
  refine thenN ?_
  refine AW.iff rfl Iff.rfl h (fun h => ?_) (fun h => ?_)
  · refine AW.seq ?_
    refine AW.reg ?_
    refine Lp (V_asg rfl rfl) rfl rfl ?_
    refine Lnil ?_
    refine thenN ?_
    refine AW.ret ?_
    refine thenR ?_
    exact bR1 Tryz.results10 rfl ⟨_, rfl, h⟩
  refine AW.skip ?_
  refine thenN ?_
  refine AW.seq ?_
  refine AW.reg ?_
  refine Lp (V_move rfl rfl) rfl rfl ?_
  refine Ls rfl rfl (X_call rfl Tryz.func13 rfl rfl rfl (ACalls.mono h ?_))
  rintro v σ ⟨x22_5, x22_6, x22_7, x22_8, rfl, h⟩
  refine Lp (V_move rfl rfl) rfl rfl ?_
  refine Lp (V_ext rfl rfl rfl) rfl rfl ?_
  refine Lp (V_ext rfl rfl rfl) rfl rfl ?_
  refine Lp (V_ext rfl rfl rfl) rfl rfl ?_
  refine Lp (V_ext rfl rfl rfl) rfl rfl ?_
  refine Lp (V_asg rfl rfl) rfl rfl ?_
  refine Lp (V_asg rfl rfl) rfl rfl ?_
  refine Lp (V_asg rfl rfl) rfl rfl ?_
  refine Lp (V_asg rfl rfl) rfl rfl ?_
  refine Lnil ?_
  refine thenN ?_
  refine AW.seq ?_
  refine AW.reg ?_
  refine Lp (V_move rfl rfl) rfl rfl ?_
  refine Lp (V_eql rfl rfl rfl) rfl rfl ?_
  refine Lp (V_move rfl rfl) rfl rfl ?_
  refine Lsplit 2 (decide (x22_8 = 0)) [(3, .int .i64 x22_5), (4, Sl.v x22_6), (31, .bool ((decide (x22_8 = 0)) && x22_7))] ?_ ?_ ?_
  · intro e2 hk2
    refine Lypb (V_move rfl rfl) rfl rfl rfl rfl e2 ?_
    refine Lp (V_pickT rfl (evb e2) rfl) rfl rfl ?_
    exact hk2 _ (FrLe.cons rfl (FrLe.cons rfl (FrLe.cons (by rw [e2]; rfl) (FrLe.nil _))))
  · intro e2 hk2
    refine Ln rfl rfl rfl rfl (.inl (by rw [e2]; rfl)) ?_
    refine Lp (V_pickF rfl (evb e2) rfl) rfl rfl ?_
    exact hk2 _ (FrLe.cons rfl (FrLe.cons rfl (FrLe.cons (by rw [e2]; rfl) (FrLe.nil _))))
  intro fr hl
  refine Lfr hl ?_
  refine Lp (V_move rfl rfl) rfl rfl ?_
  refine Lsplit 3 ((decide (x22_8 = 0)) && x22_7) [(4, Sl.v x22_6), (35, .bool (((decide (x22_8 = 0)) && x22_7) && (decide (x22_5 = 1))))] ?_ ?_ ?_
  · intro e5 hk5
    refine Lypb (V_move rfl rfl) rfl rfl rfl rfl e5 ?_
    refine Lypb (V_eql rfl rfl rfl) rfl rfl rfl rfl e5 ?_
    refine Lp (V_pickT rfl (evb e5) rfl) rfl rfl ?_
    exact hk5 _ (FrLe.cons rfl (FrLe.cons (by rw [e5]; rfl) (FrLe.nil _)))
  · intro e5 hk5
    refine Ln rfl rfl rfl rfl (.inl (by rw [e5]; rfl)) ?_
    refine Ln rfl rfl rfl rfl (.inl (by rw [e5]; rfl)) ?_
    refine Lp (V_pickF rfl (evb e5) rfl) rfl rfl ?_
    exact hk5 _ (FrLe.cons rfl (FrLe.cons (by rw [e5]; rfl) (FrLe.nil _)))
  intro fr hl
  refine Lfr hl ?_
  refine Lp (V_move rfl rfl) rfl rfl ?_
  refine LsplitJ 4 (((decide (x22_8 = 0)) && x22_7) && (decide (x22_5 = 1))) (band_iff (band_iff decide_eq_true_iff Iff.rfl) decide_eq_true_iff) h (fun fr σ => ∃ (x40_10 : Bool), FrLe [(40, .bool x40_10)] fr ∧ j9_law05_awake B ro Q x40_10 σ) ?_ ?_ ?_
  · intro h e9 hk9
    refine Lypb (V_move rfl rfl) rfl rfl rfl rfl e9 ?_
    refine Lyb rfl rfl rfl rfl e9 (X_cvt rfl rfl (awp_mono _ h ?_))
    rintro v σ ⟨x38_11, rfl, h⟩
    refine Lypb (V_eqlS rfl rfl rfl) rfl rfl rfl rfl e9 ?_
    refine Lp (V_pickT rfl (evb e9) rfl) rfl rfl ?_
    exact hk9 _ _ ⟨_, (FrLe.cons rfl (FrLe.nil _)), h⟩
  · intro h e9 hk9
    refine Ln rfl rfl rfl rfl (.inl (by rw [e9]; rfl)) ?_
    refine Ln rfl rfl rfl rfl (.inl (by rw [e9]; rfl)) ?_
    refine Ln rfl rfl rfl rfl (.inl (by rw [e9]; rfl)) ?_
    refine Lp (V_pickF rfl (evb e9) rfl) rfl rfl ?_
    exact hk9 _ _ ⟨_, (FrLe.cons rfl (FrLe.nil _)), h⟩
  rintro fr σ ⟨x40_10, hl, h⟩
  unfold j9_law05_awake at h
  refine Lfr hl ?_
  refine Lp (V_asg rfl rfl) rfl rfl ?_
  refine Lnil ?_
  refine thenN ?_
  refine AW.ret ?_
  exact bR1 Tryz.results10 rfl ⟨_, rfl, h⟩

end Go.Proofs.YtfobjidchipdaaaGreatDoor.G

/- SnapKeeps, the walk. -/
namespace Go.Proofs.YtfobjidchipdaaaGreatDoor.Zt
open Go Go.Proofs.YtfobjidchipdaaaGreatDoor.SL Go.Proofs.YtfobjidchipdaaaGreatDoor.G Go.Proofs.YtfobjidchipdaaaGreatDoor.Pa
set_option maxRecDepth 100000
variable {B : World} {ro σ σ' : AH} {tag tag' : Nat → Nat}
theorem nw_lit {cs : Array Value} {K : Value → AH → Prop} (hs : SL.Sep ro σ) (hK : ∀ s tag' σ', (∀ R, Step R ro tag σ tag' σ') → Held tag' σ' 6 s cs.toList → K (Sl.v s) σ') :
    nw ro σ (.cells cs 5) fun x σ => awp Tryz.prog ro (convert 22 22 (Sl.v ⟨some ⟨x, 0, none⟩, cs.size, cs.size⟩)) K σ := by
  intro b hro hb
  unfold convert
  simp only [bind_def]
  rw [awp_underlying u30, awp_underlying u30]
  simp only [Sl.v]
  rw [awp_underlying u5'']
  show awp Tryz.prog ro (Sem.bind (markStringish ⟨b, 0, none⟩) fun _ => Sem.pure (Value.slice (some ⟨b, 0, none⟩) cs.size cs.size)) K (upd σ b _)
  unfold markStringish
  show ∃ o, rd ro (upd σ b _) b = some o ∧ _
  refine ⟨_, by unfold rd; rw [hro]; exact upd_same _ _ _, ?_⟩
  show (1 : Nat) ≠ 0 ∧ ∃ o, upd σ b _ b = some o ∧ _
  refine ⟨by decide, _, upd_same _ _ _, ?_⟩
  rw [upd_upd]
  refine hK ⟨some ⟨b, 0, none⟩, cs.size, cs.size⟩ (setTag tag b 6) _ (fun _ => Step.fresh hs hro hb) ⟨by simp, .inr ⟨_, _, rfl, by simp [setTag], upd_same _ _ _, fun i v hv => ?_⟩⟩
  rw [add_add, Nat.zero_add]
  show cs[i]? = some v
  rw [← hv]; simp
end Go.Proofs.YtfobjidchipdaaaGreatDoor.Zt
namespace Go.Proofs.YtfobjidchipdaaaGreatDoor.Sn
open Go Go.Proofs.YtfobjidchipdaaaGreatDoor.SL Go.Proofs.YtfobjidchipdaaaGreatDoor.G Go.Proofs.YtfobjidchipdaaaGreatDoor.Pa Go.Proofs.YtfobjidchipdaaaGreatDoor.Wi Go.Proofs.YtfobjidchipdaaaGreatDoor.Dk
set_option linter.unusedSimpArgs false
set_option linter.unusedVariables false
set_option maxRecDepth 100000
variable {B : World} {ro σ σ' : AH} {tag tag' : Nat → Nat}
theorem awake_ok (g : Glob ro) : c_law05_awake B ro σ fun r _ => r = true := by
  refine law05_awake_ok fun hs => ?_
  unfold f_law05_awake
  refine new_ok (tag := fun _ => 0) (r := 10) (fun h => absurd h (by decide)) fun _ _ T M tag1 σ1 st1 h1 => ?_
  rw [if_neg (by simp)]
  have hs1 := (st1 []).sep
  refine Zt.nw_lit (tag := tag1) (cs := #[.int .u8 111, .int .u8 110, .int .u8 101]) hs1 fun s tag2 σ2 st2 hh => ?_
  refine ⟨s, rfl, ?_⟩
  refine save_ok (o := none) (k := 1) (d := [111, 110, 101]) g (h1.keep (st2 []) (by simp)) (by decide) (by decide) rfl (by decide) (.inr hh) (by decide) ?_ ?_
  · rintro e _ (h | ⟨k0, d0, h, _⟩ | h)
    · exact absurd h (by decide)
    · cases h
    · exact absurd h (by decide)
  · intro _ _ ps' tag3 σ3 st3 h3 hF
    unfold j3_law05_awake
    rw [if_neg (by simp)]
    refine load_ok (o := some (1, [111, 110, 101])) g h3 (by decide) (by decide) hF (fun e => by cases e) fun k' d' e s' tag4 σ4 st4 r4 => ?_
    cases e
    rw [if_pos ⟨⟨rfl, rfl⟩, rfl⟩]
    refine Zt.awp_b2s (r4.read st4.sep) ⟨_, rfl, ?_⟩
    unfold j9_law05_awake
    exact decide_eq_true rfl
end Go.Proofs.YtfobjidchipdaaaGreatDoor.Sn

/- SnapBack, the walk. -/
namespace Go.Proofs.YtfobjidchipdaaaGreatDoor.Sn
open Go Go.Proofs.YtfobjidchipdaaaGreatDoor.SL Go.Proofs.YtfobjidchipdaaaGreatDoor.G Go.Proofs.YtfobjidchipdaaaGreatDoor.Pa Go.Proofs.YtfobjidchipdaaaGreatDoor.Wi
set_option linter.unusedSimpArgs false
set_option linter.unusedVariables false
set_option maxRecDepth 100000
variable {B : World} {ro σ σ' : AH} {tag tag' : Nat → Nat}
theorem encCk_len {k : Nat} {d : Str} {sz i : Nat} (hk : k < 4611686018427387904) (hd : d.length ≤ 1048576) (h1 : 1 ≤ sz) (h2 : sz ≤ 32768) (hi : i < cnt d.length sz) : (encCk (ckAt k d sz i)).length ≤ 100000 := by
  obtain ⟨hrt, hft⟩ := ckAt_right (k := k) (d := d) (sz := sz) (i := i) hk hd h1 h2 hi
  have hcl : cnt d.length sz < 4611686018427387904 := hrt.2.1
  have hcr := crc_lt d
  have hpl := partOf_len d sz i
  have hrn : [(k : Int), (cnt d.length sz : Int), (i : Int), (d.length : Int), (crc d : Int)].all rightN = true := by
    have rn : ∀ n : Nat, n < 4611686018427387904 → rightN (n : Int) = true := fun n h => by unfold rightN; simp; omega
    simp [rn k (by omega), rn (cnt d.length sz) hcl, rn i (by omega), rn d.length (by omega), rn (crc d) (by omega)]
  have hnl := nums_len hrn
  have hnl : (nums [(k : Int), (cnt d.length sz : Int), (i : Int), (d.length : Int), (crc d : Int)]).length ≤ 45 := by simpa using hnl
  rw [← enc_eq, List.length_append]
  unfold blob
  rw [List.length_append]
  have := vput_len9 (n := (partOf d sz i).length) (by omega)
  omega
def bools (n : Nat) (K : Nat → Bool) : List Value := (List.range n).map fun i => Value.bool (K i)
theorem bools_set {n i : Nat} {K : Nat → Bool} : (bools n K).set i (.bool true) = bools n (fun j => if j = i then true else K j) := by
  apply List.ext_getElem?
  intro j
  unfold bools
  rw [List.getElem?_set]
  by_cases c : i = j
  · subst c
    simp
    by_cases h : i < n
    · simp [h]
    · simp [h]
  · rw [if_neg c, List.getElem?_map, List.getElem?_map]
    by_cases h : j < n
    · rw [List.getElem?_range h]
      show some (Value.bool (K j)) = some (Value.bool (if j = i then true else K j))
      rw [if_neg (Ne.symm c)]
    · rw [List.getElem?_eq_none (by simpa using h)]; rfl
/-- what the law knows of the chunks made -/
structure Made (ro : AH) (tag : Nat → Nat) (σ : AH) (k : Nat) (d : Str) (sz : Nat) (s : Sl) (ss : List Sl) : Prop where
  row : Row tag σ 14 22 s (ss.map Sl.v)
  len : ss.length = cnt d.length sz
  all : ∀ (i : Nat) (x : Sl), ss[i]? = some x → Row tag σ 6 5 x ((encCk (ckAt k d sz i)).map Zt.vU)
theorem Made.keepS {C : List Nat} {k : Nat} {d : Str} {sz : Nat} {s : Sl} {ss : List Sl} (h : Made ro tag σ k d sz s ss) (st : StepS C ro tag σ tag' σ') (h14 : 14 ∉ C) (h6 : 6 ∉ C) : Made ro tag' σ' k d sz s ss :=
  ⟨h.row.keepS st h14, h.len, fun i x hx => (h.all i x hx).keepS st h6⟩
theorem back_end (g : Glob ro) {k : Nat} {d : Str} {sz : Nat} {s s0 : Sl} {ss : List Sl} {K : Nat → Bool} {a : As} {T M : Nat}
    (hk : k < 4611686018427387904) (hd : d.length ≤ 1048576) (h1 : 1 ≤ sz) (h2 : sz ≤ 32768) (hc : cnt d.length sz ≤ 1000)
    (h0 : SL.Read ro (fun _ => none) s0 (d.map Zt.vU)) (hm : Made ro tag σ k d sz s ss) (ha : AsAt tag σ 10 T M a) (hC : Come k d sz K a) (hs : SL.Sep ro σ) :
    j21_law05_SnapBack B ro (k : Int) s0 s (some ⟨T, 0, none⟩) (fun r _ => r = true) false σ := by
  unfold j21_law05_SnapBack
  rw [if_neg (by simp)]
  obtain ⟨e1, e2⟩ := Come.adds hC hk hd h1 h2 (List.range (cnt d.length sz)) K a hC (fun i hi => List.mem_range.1 hi)
  have eb : (List.range (cnt d.length sz)).map (fun i => encCk (ckAt k d sz i)) = chunksOf k d sz := rfl
  rw [eb] at e1 e2
  refine add_ok (tag := tag) (r := 10) (ss := ss) (bs := chunksOf k d sz) (by decide) (by decide) ha (by rw [chunksOf_len, hm.len]) (by rw [chunksOf_len]; omega) (fun tag' σ' st => (hm.row.keepS st (by decide)).read st.sep) (fun i x b hx hb => ?_) fun tag1 σ1 st1 ha1 => ?_
  · have hil : i < cnt d.length sz := by
      rw [← hm.len]
      exact (List.getElem?_eq_some_iff.1 hx).1
    have eb : b = encCk (ckAt k d sz i) := by
      unfold chunksOf at hb
      rw [List.getElem?_map, List.getElem?_range hil] at hb
      exact (Option.some.inj hb).symm
    subst eb
    have := encCk_len hk hd h1 h2 hil
    exact ⟨.inr (hm.all i x hx).held, by omega⟩
  rw [e1, if_neg (by simp)]
  have hall : ∀ i, i < cnt d.length sz → (decide (i ∈ List.range (cnt d.length sz)) || K i) = true := fun i hi => by simp [hi]
  have hl0 := leftOf_zero.2 hall
  obtain ⟨f1, f2⟩ := e2.done h1
  obtain ⟨f3, f4⟩ := f2 hall
  have hcm := (cnt_mul (n := d.length) h1).2.2
  refine done_ok (tag := tag1) (r := 10) (by decide) (by decide) ha1 (e2.ok hd (by omega)) (fun h => ?_) fun _ s5 tag2 σ2 st2 r2 => ?_
  · rw [f1, hl0] at h; cases h
  rw [f3] at r2
  rw [f4, if_pos ⟨rfl, rfl⟩]
  refine Zt.same_ok (r2.read st2.sep) h0.keep ?_
  rw [decide_eq_true rfl]
  unfold j27_law05_SnapBack
  rw [if_pos rfl]
  refine missing_ok (tag := tag2) (r := 10) (by decide) (by decide) (ha1.keepS st2 (by decide) (by decide)) (e2.ok hd (by omega)) fun s6 tag3 σ3 st3 r3 => ?_
  have hml := e2.missing ⟨0, by omega, hall 0 (by omega)⟩
  have : s6.len = 0 := by rw [r3.len, List.length_map, hml, hl0]
  unfold j29_law05_SnapBack
  rw [if_pos (by simp [this])]
  exact c_law05_awake_mono (awake_ok g) fun r σ _ e => e
theorem back_left (g : Glob ro) {k : Nat} {d : Str} {sz : Nat} {s s0 : Sl} {ss : List Sl} {K : Nat → Bool} {a : As} {T M : Nat}
    (hk : k < 4611686018427387904) (hd : d.length ≤ 1048576) (h1 : 1 ≤ sz) (h2 : sz ≤ 32768) (hc : cnt d.length sz ≤ 1000)
    (h0 : SL.Read ro (fun _ => none) s0 (d.map Zt.vU)) (hm : Made ro tag σ k d sz s ss) (ha : AsAt tag σ 10 T M a) (hC : Come k d sz K a) (hs : SL.Sep ro σ) :
    j16_law05_SnapBack B ro (k : Int) s0 s (some ⟨T, 0, none⟩) (fun r _ => r = true) (leftOf (cnt d.length sz) K : Int) σ := by
  unfold j16_law05_SnapBack
  obtain ⟨f1, f2⟩ := hC.done h1
  have hsl : s.len = cnt d.length sz := by rw [hm.row.len, List.length_map, hm.len]
  have key : ∀ tag1 σ1, StepS [0, 12] ro tag σ tag1 σ1 → ∀ b : Bool, b = (asDone a).2.2 →
      (if ¬ (b = decide ((leftOf (cnt d.length sz) K : Int) = 0)) then j21_law05_SnapBack B ro (k : Int) s0 s (some ⟨T, 0, none⟩) (fun r _ => r = true) true σ1
      else if (leftOf (cnt d.length sz) K : Int) < (s.len : Int) then
        c_snap_Asm_Missing B ro (some ⟨T, 0, none⟩) σ1 fun x112_38 σ =>
        j36_law05_SnapBack B ro (leftOf (cnt d.length sz) K : Int) (k : Int) s0 s (some ⟨T, 0, none⟩) b (fun r _ => r = true) (!(decide ((x112_38.len : Int) = (leftOf (cnt d.length sz) K : Int)))) σ
      else j36_law05_SnapBack B ro (leftOf (cnt d.length sz) K : Int) (k : Int) s0 s (some ⟨T, 0, none⟩) b (fun r _ => r = true) false σ1) := by
    intro tag1 σ1 st1 b hb
    rw [if_neg (by
      rw [hb, f1]
      simp only [Classical.not_not]
      exact decide_eq_decide.2 (by omega))]
    have hm1 := hm.keepS st1 (by decide) (by decide)
    have ha1 := ha.keepS st1 (by decide) (by decide)
    by_cases c : leftOf (cnt d.length sz) K < cnt d.length sz
    · rw [if_pos (by omega)]
      refine missing_ok (tag := tag1) (r := 10) (by decide) (by decide) ha1 (hC.ok hd (by omega)) fun s6 tag3 σ3 st3 r3 => ?_
      have hml := hC.missing (leftOf_lt.1 c)
      have : s6.len = leftOf (cnt d.length sz) K := by rw [r3.len, List.length_map, hml]
      unfold j36_law05_SnapBack
      rw [this, decide_eq_true rfl]
      exact back_end g hk hd h1 h2 hc h0 (hm1.keepS st3 (by decide) (by decide)) (ha1.keepS st3 (by decide) (by decide)) hC st3.sep
    · rw [if_neg (by omega)]
      unfold j36_law05_SnapBack
      exact back_end g hk hd h1 h2 hc h0 hm1 ha1 hC st1.sep
  refine done_ok (tag := tag) (r := 10) (by decide) (by decide) ha (hC.ok hd (by omega)) (fun h tag1 σ1 st1 => ?_) fun h s5 tag2 σ2 st2 r2 => ?_
  · exact key tag1 σ1 st1 false h.symm
  · exact key tag2 σ2 st2 true h.symm
theorem leftOf_succ (n : Nat) (K : Nat → Bool) : leftOf (n + 1) K = leftOf n K + if K n = true then 0 else 1 := by
  unfold leftOf
  rw [List.range_succ, List.filter_append, List.length_append]
  cases h : K n <;> simp [h]
theorem back_count (g : Glob ro) {k : Nat} {d : Str} {sz : Nat} {s s0 : Sl} {ss : List Sl} {K : Nat → Bool} {a : As} {T M A : Nat}
    (hk : k < 4611686018427387904) (hd : d.length ≤ 1048576) (h1 : 1 ≤ sz) (h2 : sz ≤ 32768) (hc : cnt d.length sz ≤ 1000)
    (h0 : SL.Read ro (fun _ => none) s0 (d.map Zt.vU)) (hm : Made ro tag σ k d sz s ss) (ha : AsAt tag σ 10 T M a) (hC : Come k d sz K a) (hs : SL.Sep ro σ)
    (hb : Row tag σ 16 4 ⟨some ⟨A, 0, none⟩, cnt d.length sz, cnt d.length sz⟩ (bools (cnt d.length sz) K)) :
    j15_law05_SnapBack B ro (k : Int) s0 s (some ⟨T, 0, none⟩) A (fun r _ => r = true) σ := by
  unfold j15_law05_SnapBack
  have hsl : s.len = cnt d.length sz := by rw [hm.row.len, List.length_map, hm.len]
  suffices ∀ (m j : Nat), j + m = cnt d.length sz → lfpD (l39_law05_SnapBack B ro (k : Int) s0 s (some ⟨T, 0, none⟩) A (fun r _ => r = true)) ((leftOf j K : Int), (j : Int)) σ from
    this _ 0 (Nat.zero_add _)
  intro m
  induction m with
  | zero =>
    intro j hj
    refine lfpD.intro ?_
    unfold l39_law05_SnapBack
    simp only [hsl, Int.toNat_natCast]
    rw [if_neg (by omega)]
    have : j = cnt d.length sz := by omega
    rw [this]
    exact back_left g hk hd h1 h2 hc h0 hm ha hC hs
  | succ m ih =>
    intro j hj
    have hcell := hb.read hs
    have hl := leftOf_le j K
    refine lfpD.intro ?_
    generalize hY : lfpD (l39_law05_SnapBack B ro (k : Int) s0 s (some ⟨T, 0, none⟩) A (fun r _ => r = true)) = Y
    unfold l39_law05_SnapBack
    simp only [hsl, Int.toNat_natCast]
    rw [if_pos (by omega)]
    refine ⟨_, rfl, by omega, by omega, K j, ?_, ?_⟩
    · rw [Nat.mul_one]
      exact hcell.2.2 _ rfl j _ (by unfold bools; rw [List.getElem?_map, List.getElem?_range (by omega)]; rfl)
    have hih := ih (j + 1) (by omega)
    rw [leftOf_succ] at hih
    rw [hY] at hih
    unfold j42_law05_SnapBack
    by_cases c : K j = true
    · rw [if_neg (by simpa using c), Pa.inc j (by omega)]
      rw [if_pos c, Nat.add_zero] at hih
      exact hih
    · rw [if_pos c, Pa.inc j (by omega), Pa.inc (leftOf j K) (by omega)]
      rw [if_neg c] at hih
      exact hih
theorem asAdd_one (a : As) (b : Str) : asAdd a [b] = asAdd1 a b := by
  unfold asAdd
  split
  · rename_i h
    unfold asAdd
    exact Prod.ext rfl h.symm
  · rfl
theorem back_order (g : Glob ro) {k : Nat} {d : Str} {sz : Nat} {s s0 s4 : Sl} {ss : List Sl} {T M A : Nat} {os : List Int}
    (hk : k < 4611686018427387904) (hd : d.length ≤ 1048576) (h1 : 1 ≤ sz) (h2 : sz ≤ 32768) (hc : cnt d.length sz ≤ 1000)
    (h0 : SL.Read ro (fun _ => none) s0 (d.map Zt.vU)) (h4 : SL.Read ro (fun _ => none) s4 (os.map Zt.vI)) (hos : os.length ≤ 17592186044416) (hm0 : Made ro tag σ k d sz s ss) :
    ∀ (m j : Nat) (K : Nat → Bool) (a : As) (tag1 : Nat → Nat) (σ1 : AH), j + m = os.length → StepS [0, 5, 7, 8, 9, 10, 16, 31, 3] ro tag σ tag1 σ1 → AsAt tag1 σ1 10 T M a → Come k d sz K a → Row tag1 σ1 16 4 ⟨some ⟨A, 0, none⟩, cnt d.length sz, cnt d.length sz⟩ (bools (cnt d.length sz) K) →
    lfpD (l46_law05_SnapBack B ro (k : Int) s0 s4 s (some ⟨T, 0, none⟩) A (fun r _ => r = true)) (j : Int) σ1 := by
  have hsl : s.len = cnt d.length sz := by rw [hm0.row.len, List.length_map, hm0.len]
  have h4l : s4.len = os.length := by rw [h4.1, List.length_map]
  intro m
  induction m with
  | zero =>
    intro j K a tag1 σ1 hj st1 ha hC hb
    refine lfpD.intro ?_
    unfold l46_law05_SnapBack
    simp only
    rw [if_neg (by omega)]
    exact back_count g hk hd h1 h2 hc h0 (hm0.keepS st1 (by decide) (by decide)) ha hC st1.sep hb
  | succ m ih =>
    intro j K a tag1 σ1 hj st1 ha hC hb
    have hjo : j < os.length := by omega
    obtain ⟨p, hp⟩ : ∃ p, s4.a = some p := by
      cases e : s4.a with
      | none => have := h4.2.1 e; simp at this; rw [this] at hjo; simp at hjo
      | some p => exact ⟨p, rfl⟩
    have hcell := (h4.keep (σ := σ1)).2.2 p hp j (Zt.vI os[j]) (by rw [List.getElem?_map, List.getElem?_eq_getElem hjo]; rfl)
    refine lfpD.intro ?_
    generalize hY : lfpD (l46_law05_SnapBack B ro (k : Int) s0 s4 s (some ⟨T, 0, none⟩) A (fun r _ => r = true)) = Y
    unfold l46_law05_SnapBack
    simp only [hsl, Int.toNat_natCast]
    rw [if_pos (by omega)]
    refine ⟨p, hp, by omega, by omega, os[j], by rw [Nat.mul_one]; exact hcell, ?_⟩
    generalize os[j] = o at *
    unfold j48_law05_SnapBack
    rw [Pa.inc j (by omega)]
    by_cases c : o < 0 ∨ ((cnt d.length sz : Nat) : Int) ≤ o
    · rw [if_pos c, ← hY]
      exact ih (j + 1) K a tag1 σ1 (by omega) st1 ha hC hb
    rw [if_neg c]
    obtain ⟨i, rfl⟩ := Int.eq_ofNat_of_zero_le (a := o) (by omega)
    have hi : i < cnt d.length sz := by omega
    refine ⟨_, rfl, by omega, by omega, ?_⟩
    rw [Int.toNat_natCast]
    refine hb.st (v := .bool true) st1.sep rfl (by unfold bools; simpa using hi) rfl fun σ2 st2 hb2 => ?_
    rw [bools_set] at hb2
    have s2 := st1.trans (st2.s (C := [0, 5, 7, 8, 9, 10, 16, 31, 3]) (by decide))
    have hm2 := hm0.keepS s2 (by decide) (by decide)
    have his : i < ss.length := by rw [hm0.len]; exact hi
    obtain ⟨q, hq, hcl⟩ := hm2.row.ptr s2.sep (by rw [List.length_map]; omega)
    refine ⟨q, hq, by omega, by omega, ss[i], hcl i _ (by rw [List.getElem?_map, List.getElem?_eq_getElem his]; rfl), ?_⟩
    have hr := hm2.all i _ (List.getElem?_eq_getElem his)
    have hlen := encCk_len hk hd h1 h2 hi
    refine Zt.copy_ok (tag := tag1) (.inr hr.held) (by omega) fun y tag3 σ3 st3 r3 => ?_
    refine nw_cells (tag := tag3) 5 (st3 []).sep fun z tag4 σ4 st4 r4 => ?_
    have s24 : StepS [0, 5, 7, 8, 9, 10, 16, 31, 3] ro tag1 σ2 tag4 σ4 := ((st3 []).s (by simp)).trans ((st4 []).s (by simp))
    have ha4 : AsAt tag4 σ4 10 T M a := (ha.keep st2 (by decide) (by decide) (by decide)).keep ((st3 []).trans (st4 [])) (by simp) (by simp) (by simp)
    obtain ⟨e1, e2⟩ := hC.add hk hd h1 h2 hi
    refine add_ok (tag := tag4) (r := 10) (ss := [y]) (bs := [encCk (ckAt k d sz i)]) (by decide) (by decide) ha4 rfl (by simp) (fun tag' σ' st => (r4.keepS st (by decide)).read st.sep) (fun i' x b hx hb' => ?_) fun tag5 σ5 st5 ha5 => ?_
    · cases i' with
      | zero =>
        cases hx; cases hb'
        exact ⟨.inr (r3.keep (st4 []) (by simp)).held, by omega⟩
      | succ n => cases hx
    rw [asAdd_one] at ha5 ⊢
    rw [e1, if_neg (by simp), ← hY]
    refine ih (j + 1) _ _ tag5 σ5 (by omega) (s2.trans (s24.trans (st5.mono (by decide)))) ha5 e2 ?_
    exact (hb2.keep ((st3 []).trans (st4 [])) (by simp)).keepS st5 (by decide)
theorem back_ok (g : Glob ro) {n1 n2 : Int} {s1 s4 : Sl} {d : Str} {os : List Int} (h1 : SL.Read ro (fun _ => none) s1 (d.map vU)) (h4 : SL.Read ro (fun _ => none) s4 (os.map Zt.vI)) (l1 : d.length ≤ 140737488355328) (l4 : os.length ≤ 17592186044416) :
    c_law05_SnapBack B ro n1 s1 n2 s4 σ fun r _ => r = true := by
  refine law05_SnapBack_ok fun hs => ?_
  unfold f_law05_SnapBack
  refine nw_cells (tag := fun _ => 0) 50 hs fun x tag1 σ1 st1 r1 => ?_
  obtain ⟨p, hp, hg⟩ := r1.ptr (st1 []).sep (by simp)
  cases hp
  refine ⟨n1, hg 0 _ rfl, s1, hg 1 _ rfl, n2, hg 2 _ rfl, s4, hg 3 _ rfl, ?_⟩
  refine Zt.copy_ok (tag := tag1) (.inl h1) l1 fun y tag3 σ3 st3 r3 => ?_
  have hcap := r3.capAt
  refine chunks_ok (tag := tag3) (.inr r3.held) (by rw [r3.len]; exact hcap) (by omega) (fun he => ?_) fun k sz _ e1 e2 hk hdl hz1 hz2 s ss tag4 σ4 st4 r4 hsl hrows => ?_
  · rw [if_pos (by simpa using he)]
    exact c_law05_awake_mono (awake_ok g) fun r σ _ e => e
  subst e1 e2
  rw [if_neg (by simp)]
  have hm : Made ro tag4 σ4 k d sz s ss := ⟨r4, hsl, hrows⟩
  have hsl' : s.len = cnt d.length sz := by rw [r4.len, List.length_map, hsl]
  refine newAsm_ok (tag := tag4) (r := 10) fun T M tag5 σ5 st5 ha5 => ?_
  by_cases c : 1000 < cnt d.length sz
  · rw [if_pos (.inr (by omega)), if_pos (by simp)]
    unfold j11_law05_SnapBack
    exact c_law05_awake_mono (awake_ok g) fun r σ _ e => e
  rw [if_neg (by simp; omega), hsl', Int.toNat_natCast]
  refine ⟨⟨by omega, by omega, by omega, by omega⟩, ?_⟩
  refine nw_row (tag := tag5) 16 (zv := .bool false) (n := cnt d.length sz) (st5 []).sep rfl fun A tag6 σ6 st6 r6 => ?_
  have hm6 : Made ro tag6 σ6 k d sz s ss := hm.keepS (C := []) (((st5 []).trans (st6 [])).s (by simp)) (by simp) (by simp)
  refine back_order g hk hdl hz1 hz2 (by omega) h1 h4 l4 hm6 _ 0 (fun _ => false) As.new tag6 σ6 (Nat.zero_add _) (StepS.refl (st6 []).sep) (ha5.keep (st6 []) (by simp) (by simp) (by simp)) (Come.begin k d sz) ?_
  have eb : List.replicate (cnt d.length sz) (Value.bool false) = bools (cnt d.length sz) (fun _ => false) := by
    unfold bools
    apply List.ext_getElem?
    intro i
    by_cases h : i < cnt d.length sz <;> simp [List.getElem?_replicate, h]
  rw [← eb]
  simpa using r6
end Go.Proofs.YtfobjidchipdaaaGreatDoor.Sn
