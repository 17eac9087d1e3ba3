/- GSn -/
import Derived.Test.YtfobjidchipdaaaGreatDoorXH
/- Functions as predicate transformers, and the proofs that the code does what they tell: printed by wip/tools/gen.py. -/
namespace Go.Proofs.YtfobjidchipdaaaGreatDoor.G
open Go Go.Proofs.YtfobjidchipdaaaGreatDoor.SL
set_option linter.unusedVariables false
set_option linter.unusedSimpArgs false

def j19_snap_Save (B : World) (ro : AH) (Q : Int → AH → Prop) (σ : AH) : Prop :=
 Q 0 σ

def j26_snap_Save (B : World) (ro : AH) (a1 : ByteArray) (x4_1 : Nat) (x13_8 : Nat) (x101_23 : Sl) (x103_25 : Int) (Q : Int → AH → Prop) (Y24 : (Int) → AH → Prop) (σ : AH) : Prop :=
 Y24 (IntKind.i64.wrap (x103_25 + 1)) σ

def j30_snap_Save (B : World) (ro : AH) (a1 : ByteArray) (x4_1 : Nat) (x13_8 : Nat) (x101_23 : Sl) (x103_25 : Int) (x106_28 : ByteArray) (Q : Int → AH → Prop) (Y24 : (Int) → AH → Prop) (x114_31 : Bool) (σ : AH) : Prop :=
 if x114_31 = true then
  ∃ (x115_32 : Option Addr), acell ro σ ⟨x4_1, 0, none⟩ = some (.pointer x115_32) ∧
  nw ro σ (.cells #[.string x106_28] 9) fun x117_33 σ =>
  c_disk_Disk_Remove B ro x115_32 (⟨some ⟨x117_33, 0, none⟩, 1, 1⟩ : Sl) σ fun x118_34 σ =>
  j26_snap_Save B ro a1 x4_1 x13_8 x101_23 x103_25 Q Y24 σ
 else
 j26_snap_Save B ro a1 x4_1 x13_8 x101_23 x103_25 Q Y24 σ

def l24_snap_Save (B : World) (ro : AH) (a1 : ByteArray) (x4_1 : Nat) (x13_8 : Nat) (x101_23 : Sl) (Q : Int → AH → Prop) : (Int) → AH → ((Int) → AH → Prop) → Prop := fun x103_25 σ Y24 =>
 if x103_25 < (x101_23.len : Int) then
  ∃ p105_27 : Addr, x101_23.a = some p105_27 ∧ (0 : Int) ≤ x103_25 ∧ x103_25 < (x101_23.len : Int) ∧
  ∃ (x106_28 : ByteArray), acell ro σ (p105_27.add (Int.toNat x103_25 * 1)) = some (.string x106_28) ∧
  ∃ (x108_29 : ByteArray), acell ro σ ⟨x13_8, 0, none⟩ = some (.string x108_29) ∧
  if ¬ (x106_28 = x108_29) then
   c_snap_isData B ro a1 x106_28 σ fun x113_35 σ =>
   j30_snap_Save B ro a1 x4_1 x13_8 x101_23 x103_25 x106_28 Q Y24 x113_35 σ
  else
  j30_snap_Save B ro a1 x4_1 x13_8 x101_23 x103_25 x106_28 Q Y24 false σ
 else
 j19_snap_Save B ro Q σ

def j10_snap_Save (B : World) (ro : AH) (a1 : ByteArray) (x4_1 : Nat) (x13_8 : Nat) (x14_9 : Nat) (Q : Int → AH → Prop) (σ : AH) : Prop :=
 ∃ (x87_11 : Option Addr), acell ro σ ⟨x4_1, 0, none⟩ = some (.pointer x87_11) ∧
 ∃ (x88_12 : ByteArray), acell ro σ ⟨x13_8, 0, none⟩ = some (.string x88_12) ∧
 ∃ (x89_13 : ByteArray), acell ro σ ⟨x14_9, 0, none⟩ = some (.string x89_13) ∧
 nw ro σ (.cells #[.string x88_12, .string x89_13] 9) fun x90_14 σ =>
 c_disk_Disk_Sync B ro x87_11 (⟨some ⟨x90_14, 0, none⟩, 2, 2⟩ : Sl) σ fun x91_15 σ =>
 ∃ (x92_16 : Option Addr), acell ro σ ⟨x4_1, 0, none⟩ = some (.pointer x92_16) ∧
 ∃ (x93_17 : ByteArray), acell ro σ ⟨x14_9, 0, none⟩ = some (.string x93_17) ∧
 a1.size + (⟨#[46, 109, 97, 110]⟩ : ByteArray).size ≤ 9223372036854775807 ∧
 c_disk_Disk_Rename B ro x92_16 x93_17 (a1 ++ (⟨#[46, 109, 97, 110]⟩ : ByteArray)) σ fun x96_18 σ =>
 ∃ (x97_20 : Option Addr), acell ro σ ⟨x4_1, 0, none⟩ = some (.pointer x97_20) ∧
 ∃ p98_21 : Addr, x97_20 = some p98_21 ∧
 ∃ (x100_22 : Option Nat), acell ro σ p98_21 = some (.map x100_22) ∧
 c_disk_table_Files B ro x100_22 σ fun x101_23 σ =>
 lfpD (l24_snap_Save B ro a1 x4_1 x13_8 x101_23 Q ) (0) σ

def l41_snap_Save (B : World) (ro : AH) (a1 : ByteArray) (x4_1 : Nat) (x13_8 : Nat) (x14_9 : Nat) (x69_40 : Nat) (Q : Int → AH → Prop) : (Int) → AH → ((Int) → AH → Prop) → Prop := fun x71_42 σ Y41 =>
 if x71_42 < ((⟨some ⟨x69_40, 0, none⟩, 2, 2⟩ : Sl).len : Int) then
  ∃ p73_43 : Addr, (⟨some ⟨x69_40, 0, none⟩, 2, 2⟩ : Sl).a = some p73_43 ∧ (0 : Int) ≤ x71_42 ∧ x71_42 < ((⟨some ⟨x69_40, 0, none⟩, 2, 2⟩ : Sl).len : Int) ∧
  ∃ (x74_44a : ByteArray) (x74_44b : Sl), cellsAt ro σ (p73_43.add (Int.toNat x71_42 * 2)) 0 [.string x74_44a, Sl.v x74_44b] ∧
  nw ro σ (.cells #[.string ByteArray.empty, Sl.v (⟨none, 0, 0⟩ : Sl)] 85) fun x17_45 σ =>
  stN ⟨x17_45, 0, none⟩ (fun σ =>
   ∃ (x75_46 : Option Addr), acell ro σ ⟨x4_1, 0, none⟩ = some (.pointer x75_46) ∧
   ∃ (x77_47 : ByteArray), acell ro σ ⟨x17_45, 0, none⟩ = some (.string x77_47) ∧
   ∃ (x79_48 : Sl), acell ro σ ((⟨x17_45, 0, none⟩ : Addr).add 1) = some (Sl.v x79_48) ∧
   c_disk_Disk_Append B ro x75_46 x77_47 x79_48 σ fun x80_49 σ =>
   if ¬ (x80_49 = 0) then
    c_snap_Save_c1 B ro ⟨x13_8, 0, none⟩ ⟨x14_9, 0, none⟩ ⟨x4_1, 0, none⟩ σ fun σ =>
    Q x80_49 σ
   else
   Y41 (IntKind.i64.wrap (x71_42 + 1)) σ) [.string x74_44a, Sl.v x74_44b] 0 σ
 else
 j10_snap_Save B ro a1 x4_1 x13_8 x14_9 Q σ

def f_snap_Save (B : World) (ro : AH) (a0 : Option Addr) (a1 : ByteArray) (a2 : Int) (a3 : Sl) (σ : AH) (Q : Int → AH → Prop) : Prop :=
 nw ro σ (.cells #[.pointer a0] 26) fun x4_1 σ =>
 ∃ (x22_2 : Option Addr), acell ro σ ⟨x4_1, 0, none⟩ = some (.pointer x22_2) ∧
 c_snap_Load B ro x22_2 a1 σ fun x24_3 x24_4 x24_5 x24_6 σ =>
 if ¬ (x24_6 = 0) then
  Q x24_6 σ
 else
 if (a2 < 0) ∨ (4611686018427387903 < a2) then
  Q 10 σ
 else
 if 1048576 < (a3.len : Int) then
  Q 14 σ
 else
 if (x24_5 = true) ∧ (a2 ≤ x24_3) then
  Q 41 σ
 else
 c_snap_dataFile B ro a1 a2 σ fun x53_7 σ =>
 a1.size + (⟨#[46, 116, 109, 112]⟩ : ByteArray).size ≤ 9223372036854775807 ∧
 nw ro σ (.cells #[.string ByteArray.empty] 9) fun x13_8 σ =>
 nw ro σ (.cells #[.string ByteArray.empty] 9) fun x14_9 σ =>
 stN ⟨x13_8, 0, none⟩ (fun σ =>
  stN ⟨x14_9, 0, none⟩ (fun σ =>
   c_snap_Save_c1 B ro ⟨x13_8, 0, none⟩ ⟨x14_9, 0, none⟩ ⟨x4_1, 0, none⟩ σ fun σ =>
   lent σ fun ψ σ =>
    ∃ (x59_36 : ByteArray), acell (join ro ψ) (fun _ => none) ⟨x13_8, 0, none⟩ = some (.string x59_36) ∧
    ∃ (x62_37 : ByteArray), acell (join ro ψ) (fun _ => none) ⟨x14_9, 0, none⟩ = some (.string x62_37) ∧
    c_snap_digestOf B (join ro ψ) a3 σ fun x64_38a x64_38b σ =>
    c_snap_manifest_bytes B (join ro ψ) x64_38a x64_38b a2 σ fun x67_39 σ =>
    nw (join ro ψ) σ (.cells #[.string x59_36, Sl.v a3, .string x62_37, Sl.v x67_39] 85) fun x69_40 σ =>
    (Disj ψ σ → (fun σ => 
     lfpD (l41_snap_Save B ro a1 x4_1 x13_8 x14_9 x69_40 Q ) (0) σ) (join ψ σ))) [.string (a1 ++ (⟨#[46, 116, 109, 112]⟩ : ByteArray))] 0 σ) [.string x53_7] 0 σ

set_option maxRecDepth 100000 in
set_option maxHeartbeats 4000000 in
theorem snap_Save_ok {B : World} {ro : AH} {a0 : Option Addr} {a1 : ByteArray} {a2 : Int} {a3 : Sl} {σ : AH} {Q : Int → AH → Prop} (h : Sep ro σ → f_snap_Save B ro a0 a1 a2 a3 σ Q) : c_snap_Save B ro a0 a1 a2 a3 σ Q := by
  refine ACalls.of_sep fun hsep => ?_
  replace h := h hsep
  refine ACalls.of_body (args := [.pointer a0, .string a1, .int .i64 a2, Sl.v a3]) Tryz.func11 rfl (by rw [Tryz.ntmps11]; simp) ?_
  rw [Tryz.ntmps11]
  unfold f_snap_Save at h
  refine AW.seq ?_
  refine AW.reg ?_
  refine Ls rfl rfl (X_new (A_box rfl rfl) fun x4_1 g1 g2 => ?_)
  replace h := h x4_1 g1 g2
  refine Lp (V_asg rfl rfl) rfl rfl ?_
  refine Lnil ?_
  refine thenN ?_
  refine AW.seq ?_
  refine AW.reg ?_
  obtain ⟨x22_2, hc, h⟩ := h
  refine Ls rfl rfl (X_ld rfl Tryz.underlying26 rfl rfl hc ?_)
  refine Lp (V_move rfl rfl) rfl rfl ?_
  refine Ls rfl rfl (X_call rfl Tryz.func13 rfl rfl rfl (ACalls.mono h ?_))
  rintro v σ ⟨x24_3, x24_4, x24_5, x24_6, rfl, h⟩
  refine Lp (V_move rfl rfl) rfl rfl ?_
  refine Lp (V_ext rfl rfl rfl) rfl rfl ?_
  refine Lp (V_ext rfl rfl rfl) rfl rfl ?_
  refine Lp (V_ext rfl rfl rfl) rfl rfl ?_
  refine Lp (V_ext rfl rfl rfl) rfl rfl ?_
  refine Lp (V_asg rfl rfl) rfl rfl ?_
  refine Lp (V_asg rfl rfl) rfl rfl ?_
  refine Lp (V_asg rfl rfl) rfl rfl ?_
  refine Lp (V_asg rfl rfl) rfl rfl ?_
  refine Lnil ?_
  refine thenN ?_
  refine AW.seq ?_
  refine AW.block ?_
  refine AW.seq ?_
  refine AW.reg ?_
  refine Lp (V_move rfl rfl) rfl rfl ?_
  refine Lp (V_neq rfl rfl rfl) rfl rfl ?_
  refine Lp (V_asg rfl rfl) rfl rfl ?_
  refine Lnil ?_
  refine thenN ?_
  refine AW.iff rfl (bnot_iff decide_eq_true_iff) h (fun h => ?_) (fun h => ?_)
  · refine AW.seq ?_
    refine AW.reg ?_
    refine Lp (V_move rfl rfl) rfl rfl ?_
    refine Lp (V_asg rfl rfl) rfl rfl ?_
    refine Lnil ?_
    refine thenN ?_
    refine AW.ret ?_
    refine blockR ?_
    refine thenR ?_
    exact bR1 Tryz.results11 rfl ⟨_, rfl, h⟩
  refine AW.seq ?_
  refine AW.reg ?_
  refine Lp (V_move rfl rfl) rfl rfl ?_
  refine Lp (V_lss rfl rfl rfl) rfl rfl ?_
  refine Lp (V_move rfl rfl) rfl rfl ?_
  refine Lsplit 3 (decide (a2 < 0)) [(1, .string a1), (2, .int .i64 a2), (3, Sl.v a3), (4, .pointer (some ⟨x4_1, 0, none⟩)), (9, .int .i64 x24_3), (11, .bool x24_5), (39, .bool ((decide (a2 < 0)) || (decide (4611686018427387903 < a2))))] ?_ ?_ ?_
  · intro e2 hk2
    refine Ln rfl rfl rfl rfl (.inl (by rw [e2]; rfl)) ?_
    refine Ln rfl rfl rfl rfl (.inl (by rw [e2]; rfl)) ?_
    refine Lp (V_pickT rfl (evb e2) rfl) rfl rfl ?_
    exact hk2 _ (FrLe.cons rfl (FrLe.cons rfl (FrLe.cons rfl (FrLe.cons rfl (FrLe.cons rfl (FrLe.cons rfl (FrLe.cons (by rw [e2]; rfl) (FrLe.nil _))))))))
  · intro e2 hk2
    refine Lypb (V_move rfl rfl) rfl rfl rfl rfl e2 ?_
    refine Lypb (V_gtr rfl rfl rfl) rfl rfl rfl rfl e2 ?_
    refine Lp (V_pickF rfl (evb e2) rfl) rfl rfl ?_
    exact hk2 _ (FrLe.cons rfl (FrLe.cons rfl (FrLe.cons rfl (FrLe.cons rfl (FrLe.cons rfl (FrLe.cons rfl (FrLe.cons (by rw [e2]; rfl) (FrLe.nil _))))))))
  intro fr hl
  refine Lfr hl ?_
  refine Lp (V_asg rfl rfl) rfl rfl ?_
  refine Lnil ?_
  refine thenN ?_
  refine AW.iff rfl (bor_iff decide_eq_true_iff decide_eq_true_iff) h (fun h => ?_) (fun h => ?_)
  · refine AW.seq ?_
    refine AW.reg ?_
    refine Lp (V_asg rfl rfl) rfl rfl ?_
    refine Lnil ?_
    refine thenN ?_
    refine AW.ret ?_
    refine blockR ?_
    refine thenR ?_
    exact bR1 Tryz.results11 rfl ⟨_, rfl, h⟩
  refine AW.seq ?_
  refine AW.reg ?_
  refine Lp (V_move rfl rfl) rfl rfl ?_
  refine Lp (V_lenL rfl rfl Tryz.underlying22 rfl rfl) rfl rfl ?_
  refine Lp (V_gtr rfl rfl rfl) rfl rfl ?_
  refine Lp (V_asg rfl rfl) rfl rfl ?_
  refine Lnil ?_
  refine thenN ?_
  refine AW.iff rfl decide_eq_true_iff h (fun h => ?_) (fun h => ?_)
  · refine AW.seq ?_
    refine AW.reg ?_
    refine Lp (V_asg rfl rfl) rfl rfl ?_
    refine Lnil ?_
    refine thenN ?_
    refine AW.ret ?_
    refine blockR ?_
    refine thenR ?_
    exact bR1 Tryz.results11 rfl ⟨_, rfl, h⟩
  refine AW.seq ?_
  refine AW.reg ?_
  refine Lp (V_move rfl rfl) rfl rfl ?_
  refine Lp (V_move rfl rfl) rfl rfl ?_
  refine Lsplit 4 x24_5 [(1, .string a1), (2, .int .i64 a2), (3, Sl.v a3), (4, .pointer (some ⟨x4_1, 0, none⟩)), (50, .bool (x24_5 && (decide (a2 ≤ x24_3))))] ?_ ?_ ?_
  · intro e1 hk1
    refine Lypb (V_move rfl rfl) rfl rfl rfl rfl e1 ?_
    refine Lypb (V_move rfl rfl) rfl rfl rfl rfl e1 ?_
    refine Lypb (V_geq rfl rfl rfl) rfl rfl rfl rfl e1 ?_
    refine Lp (V_pickT rfl (evb e1) rfl) rfl rfl ?_
    exact hk1 _ (FrLe.cons rfl (FrLe.cons rfl (FrLe.cons rfl (FrLe.cons rfl (FrLe.cons (by rw [e1]; rfl) (FrLe.nil _))))))
  · intro e1 hk1
    refine Ln rfl rfl rfl rfl (.inl (by rw [e1]; rfl)) ?_
    refine Ln rfl rfl rfl rfl (.inl (by rw [e1]; rfl)) ?_
    refine Ln rfl rfl rfl rfl (.inl (by rw [e1]; rfl)) ?_
    refine Lp (V_pickF rfl (evb e1) rfl) rfl rfl ?_
    exact hk1 _ (FrLe.cons rfl (FrLe.cons rfl (FrLe.cons rfl (FrLe.cons rfl (FrLe.cons (by rw [e1]; rfl) (FrLe.nil _))))))
  intro fr hl
  refine Lfr hl ?_
  refine Lp (V_asg rfl rfl) rfl rfl ?_
  refine Lnil ?_
  refine thenN ?_
  refine AW.iff rfl (band_iff Iff.rfl decide_eq_true_iff) h (fun h => ?_) (fun h => ?_)
  · refine AW.seq ?_
    refine AW.reg ?_
    refine Lp (V_asg rfl rfl) rfl rfl ?_
    refine Lnil ?_
    refine thenN ?_
    refine AW.ret ?_
    refine blockR ?_
    refine thenR ?_
    exact bR1 Tryz.results11 rfl ⟨_, rfl, h⟩
  refine AW.skip ?_
  refine blockN ?_
  refine thenN ?_
  refine AW.seq ?_
  refine AW.reg ?_
  refine Lp (V_move rfl rfl) rfl rfl ?_
  refine Lp (V_move rfl rfl) rfl rfl ?_
  refine Ls rfl rfl (X_call rfl Tryz.func38 rfl rfl rfl (ACalls.mono h ?_))
  rintro v σ ⟨x53_7, rfl, h⟩
  refine Lp (V_move rfl rfl) rfl rfl ?_
  obtain ⟨hc, h⟩ := h
  refine Lp (V_cat rfl rfl rfl hc) rfl rfl ?_
  refine Ls rfl rfl (X_new (A_alloc rfl ty9) fun x13_8 g1 g2 => ?_)
  replace h := h x13_8 g1 g2
  refine Ls rfl rfl (X_new (A_alloc rfl ty9) fun x14_9 g1 g2 => ?_)
  replace h := h x14_9 g1 g2
  refine Ls rfl rfl (X_st rfl ty9 rfl rfl rfl rfl (stN_mono h fun σ h => ?_))
  refine Ls rfl rfl (X_st rfl ty9 rfl rfl rfl rfl (stN_mono h fun σ h => ?_))
  refine Lnil ?_
  refine thenN ?_
  refine AW.seq ?_
  refine AW.reg ?_
  refine Lp (V_mkf rfl rfl rfl) rfl rfl ?_
  refine Lp (V_asg rfl rfl) rfl rfl ?_
  refine Lnil ?_
  refine thenN ?_
  refine AW.seq ?_
  refine AW.reg ?_
  refine Lp (V_move rfl rfl) rfl rfl ?_
  refine Ls rfl rfl (X_callv rfl rfl Tryz.func39 rfl rfl rfl (ACalls.mono h ?_))
  rintro v σ ⟨rfl, h⟩
  refine Lnil ?_
  refine thenN ?_
  refine AW.seqJ (fun fr σ => FrLe [(1, .string a1), (4, .pointer (some ⟨x4_1, 0, none⟩)), (13, .pointer (some ⟨x13_8, 0, none⟩)), (14, .pointer (some ⟨x14_9, 0, none⟩))] fr ∧ j10_snap_Save B ro a1 x4_1 x13_8 x14_9 Q σ) ?_ ?_
  rotate_left
  · refine AW.seq ?_
    refine AW.drawnL (fun i => ([0, 0, 0, 0, 0, 2, 0, 0, 2, 0, 1, 0, 0] : List Nat).getD i 2) [] [0, 1, 2, 3, 4, 6, 12, 5, 7, 8, 9, 10, 11] Tryz.mixed h (by decide +kernel) ?_
    clear h
    intro ψ σ h
    obtain ⟨x59_36, hc, h⟩ := h
    refine Dp rfl rfl rfl rfl (V_ld rfl Tryz.underlying9 rfl rfl hc) ?_
    refine Dp rfl rfl rfl rfl (V_move rfl rfl) ?_
    refine Dp rfl rfl rfl rfl (V_bld (vs := [(0, .string x59_36), (1, Sl.v a3)]) (cs := #[.string x59_36, Sl.v a3]) rfl Tryz.underlying85 ty85 pl85 rfl rfl) ?_
    obtain ⟨x62_37, hc, h⟩ := h
    refine Dp rfl rfl rfl rfl (V_ld rfl Tryz.underlying9 rfl rfl hc) ?_
    refine Dp rfl rfl rfl rfl (V_move rfl rfl) ?_
    refine Dp rfl rfl rfl rfl (V_move rfl rfl) ?_
    refine Dp rfl rfl rfl rfl (V_move rfl rfl) ?_
    refine Dg rfl rfl rfl rfl (X_call rfl Tryz.func41 rfl rfl rfl (ACalls.mono h ?_))
    rintro v σ ⟨x64_38a, x64_38b, rfl, h⟩
    refine Dp rfl rfl rfl rfl (V_bld (vs := [(0, .agg #[.int .i64 x64_38a, .int .i64 x64_38b]), (1, .int .i64 a2)]) (cs := #[.int .i64 x64_38a, .int .i64 x64_38b, .int .i64 a2]) rfl Tryz.underlying90 ty90 pl90 rfl rfl) ?_
    refine Dg rfl rfl rfl rfl (X_call rfl Tryz.func42 rfl rfl rfl (ACalls.mono h ?_))
    rintro v σ ⟨x67_39, rfl, h⟩
    refine Dp rfl rfl rfl rfl (V_bld (vs := [(0, .string x62_37), (1, Sl.v x67_39)]) (cs := #[.string x62_37, Sl.v x67_39]) rfl Tryz.underlying85 ty85 pl85 rfl rfl) ?_
    refine Da rfl rfl rfl rfl (A_bsl (vs := [(0, .agg #[.string x59_36, Sl.v a3]), (1, .agg #[.string x62_37, Sl.v x67_39])]) (cs := #[.string x59_36, Sl.v a3, .string x62_37, Sl.v x67_39]) rfl Tryz.underlying92 ty85 (by decide) rfl rfl) fun x69_40 g1 g2 => ?_
    replace h := h x69_40 g1 g2
    refine Dp rfl rfl rfl rfl (V_lenL rfl rfl Tryz.underlying92 rfl rfl) ?_
    refine ⟨_, FrEq.refl _, fun hdj => ?_⟩
    replace h := h hdj
    refine thenN ?_
    refine AW.block ?_
    refine ARound.loop (fr' := [(1, .string a1), (4, .pointer (some ⟨x4_1, 0, none⟩)), (13, .pointer (some ⟨x13_8, 0, none⟩)), (14, .pointer (some ⟨x14_9, 0, none⟩)), (15, (.func (.func 39) #[] #[.pointer (some ⟨x13_8, 0, none⟩), .pointer (some ⟨x14_9, 0, none⟩), .pointer (some ⟨x4_1, 0, none⟩)])), (69, Sl.v (⟨some ⟨x69_40, 0, none⟩, 2, 2⟩ : Sl)), (70, .int .i64 ((⟨some ⟨x69_40, 0, none⟩, 2, 2⟩ : Sl).len : Int)), (71, .int .i64 0)]) ?_ (FrLe.cons rfl (FrLe.cons rfl (FrLe.cons rfl (FrLe.cons rfl (FrLe.cons rfl (FrLe.cons rfl (FrLe.cons rfl (FrLe.cons rfl (FrLe.nil _)))))))))
    refine h (fun x71_42 σ => ARound _ _ _ _ _ _ [(1, .string a1), (4, .pointer (some ⟨x4_1, 0, none⟩)), (13, .pointer (some ⟨x13_8, 0, none⟩)), (14, .pointer (some ⟨x14_9, 0, none⟩)), (15, (.func (.func 39) #[] #[.pointer (some ⟨x13_8, 0, none⟩), .pointer (some ⟨x14_9, 0, none⟩), .pointer (some ⟨x4_1, 0, none⟩)])), (69, Sl.v (⟨some ⟨x69_40, 0, none⟩, 2, 2⟩ : Sl)), (70, .int .i64 ((⟨some ⟨x69_40, 0, none⟩, 2, 2⟩ : Sl).len : Int)), (71, .int .i64 x71_42)] σ) ?_
    rintro x71_42 σ Y41 hY41 h
    show AW _ _ _ _ _ _ _ _
    unfold l41_snap_Save at h
    refine AW.seq ?_
    refine AW.reg ?_
    refine Lp (V_lss rfl rfl rfl) rfl rfl ?_
    refine Lnil ?_
    refine thenN ?_
    refine AW.seq ?_
    refine AW.iff rfl decide_eq_true_iff h (fun h => ?_) (fun h => ?_)
    rotate_left
    · refine AW.exit ?_
      refine thenE ?_
      refine thenE ?_
      refine blockE ?_
      refine thenN ?_
      exact ⟨(FrLe.cons rfl (FrLe.cons rfl (FrLe.cons rfl (FrLe.cons rfl (FrLe.nil _))))), h⟩
    refine AW.skip ?_
    refine thenN ?_
    refine AW.seq ?_
    refine AW.block ?_
    refine AW.seq ?_
    refine AW.reg ?_
    obtain ⟨p73_43, ha, h0, h1, h⟩ := h
    refine Lp (V_ixA rfl Tryz.underlying92 ty85 (ixL rfl ha) rfl h0 h1) rfl rfl ?_
    obtain ⟨x74_44a, x74_44b, hc, h⟩ := h
    refine Ls rfl rfl (X_lda rfl Tryz.underlying85 rfl ty85 rfl hc ?_)
    refine Ls rfl rfl (X_new (A_alloc rfl ty85) fun x17_45 g1 g2 => ?_)
    replace h := h x17_45 g1 g2
    refine Ls rfl rfl (X_st rfl ty85 rfl rfl rfl rfl (stN_mono h fun σ h => ?_))
    refine Lnil ?_
    refine thenN ?_
    refine AW.seq ?_
    refine AW.reg ?_
    obtain ⟨x75_46, hc, h⟩ := h
    refine Ls rfl rfl (X_ld rfl Tryz.underlying26 rfl rfl hc ?_)
    refine Lp (V_fld rfl Tryz.underlying85 rfl ty9 (by decide) rfl) rfl rfl ?_
    obtain ⟨x77_47, hc, h⟩ := h
    refine Ls rfl rfl (X_ld rfl Tryz.underlying9 rfl rfl hc ?_)
    refine Lp (V_fld rfl Tryz.underlying85 rfl ty22 (by decide) rfl) rfl rfl ?_
    obtain ⟨x79_48, hc, h⟩ := h
    refine Ls rfl rfl (X_ld rfl Tryz.underlying22 rfl rfl hc ?_)
    refine Ls rfl rfl (X_call rfl Tryz.func43 rfl rfl rfl (ACalls.mono h ?_))
    rintro v σ ⟨x80_49, rfl, h⟩
    refine Lp (V_asg rfl rfl) rfl rfl ?_
    refine Lnil ?_
    refine thenN ?_
    refine AW.seq ?_
    refine AW.reg ?_
    refine Lp (V_move rfl rfl) rfl rfl ?_
    refine Lp (V_neq rfl rfl rfl) rfl rfl ?_
    refine Lnil ?_
    refine thenN ?_
    refine AW.iff rfl (bnot_iff decide_eq_true_iff) h (fun h => ?_) (fun h => ?_)
    · refine AW.seq ?_
      refine AW.reg ?_
      refine Lp (V_move rfl rfl) rfl rfl ?_
      refine Ls rfl rfl (X_callv rfl rfl Tryz.func39 rfl rfl rfl (ACalls.mono h ?_))
      rintro v σ ⟨rfl, h⟩
      refine Lnil ?_
      refine thenN ?_
      refine AW.seq ?_
      refine AW.reg ?_
      refine Lp (V_move rfl rfl) rfl rfl ?_
      refine Lp (V_asg rfl rfl) rfl rfl ?_
      refine Lnil ?_
      refine thenN ?_
      refine AW.ret ?_
      refine blockR ?_
      refine thenR ?_
      refine thenR ?_
      refine blockR ?_
      refine thenR ?_
      exact bR1 Tryz.results11 rfl ⟨_, rfl, h⟩
    refine AW.skip ?_
    refine blockN ?_
    refine thenN ?_
    refine AW.reg ?_
    refine Lp (V_add rfl rfl rfl) rfl rfl ?_
    refine Lp (V_move rfl rfl) rfl rfl ?_
    refine Lnil ?_
    refine thenN ?_
    refine ARound.head (fr' := [(1, .string a1), (4, .pointer (some ⟨x4_1, 0, none⟩)), (13, .pointer (some ⟨x13_8, 0, none⟩)), (14, .pointer (some ⟨x14_9, 0, none⟩)), (15, (.func (.func 39) #[] #[.pointer (some ⟨x13_8, 0, none⟩), .pointer (some ⟨x14_9, 0, none⟩), .pointer (some ⟨x4_1, 0, none⟩)])), (69, Sl.v (⟨some ⟨x69_40, 0, none⟩, 2, 2⟩ : Sl)), (70, .int .i64 ((⟨some ⟨x69_40, 0, none⟩, 2, 2⟩ : Sl).len : Int)), (71, .int .i64 (IntKind.i64.wrap (x71_42 + 1)))]) ?_ (FrLe.cons rfl (FrLe.cons rfl (FrLe.cons rfl (FrLe.cons rfl (FrLe.cons rfl (FrLe.cons rfl (FrLe.cons rfl (FrLe.cons rfl (FrLe.nil _)))))))))
    exact hY41 _ _ h
  rintro fr σ ⟨hl, h⟩
  refine AW.weaken ?_ hl (HLe.refl _)
  unfold j10_snap_Save at h
  refine AW.seq ?_
  refine AW.reg ?_
  obtain ⟨x87_11, hc, h⟩ := h
  refine Ls rfl rfl (X_ld rfl Tryz.underlying26 rfl rfl hc ?_)
  obtain ⟨x88_12, hc, h⟩ := h
  refine Ls rfl rfl (X_ld rfl Tryz.underlying9 rfl rfl hc ?_)
  obtain ⟨x89_13, hc, h⟩ := h
  refine Ls rfl rfl (X_ld rfl Tryz.underlying9 rfl rfl hc ?_)
  refine Ls rfl rfl (X_new (A_bsl (vs := [(0, .string x88_12), (1, .string x89_13)]) (cs := #[.string x88_12, .string x89_13]) rfl Tryz.underlying83 ty9 (by decide) rfl rfl) fun x90_14 g1 g2 => ?_)
  replace h := h x90_14 g1 g2
  refine Ls rfl rfl (X_call rfl Tryz.func44 rfl rfl rfl (ACalls.mono h ?_))
  rintro v σ ⟨x91_15, rfl, h⟩
  refine Lnil ?_
  refine thenN ?_
  refine AW.seq ?_
  refine AW.reg ?_
  obtain ⟨x92_16, hc, h⟩ := h
  refine Ls rfl rfl (X_ld rfl Tryz.underlying26 rfl rfl hc ?_)
  obtain ⟨x93_17, hc, h⟩ := h
  refine Ls rfl rfl (X_ld rfl Tryz.underlying9 rfl rfl hc ?_)
  refine Lp (V_move rfl rfl) rfl rfl ?_
  obtain ⟨hc, h⟩ := h
  refine Lp (V_cat rfl rfl rfl hc) rfl rfl ?_
  refine Ls rfl rfl (X_call rfl Tryz.func45 rfl rfl rfl (ACalls.mono h ?_))
  rintro v σ ⟨x96_18, rfl, h⟩
  refine Lnil ?_
  refine thenN ?_
  refine AW.seqJ (fun fr σ => FrLe [] fr ∧ j19_snap_Save B ro Q σ) ?_ ?_
  · rintro fr σ ⟨hl, h⟩
    refine AW.weaken ?_ hl (HLe.refl _)
    unfold j19_snap_Save at h
    refine AW.seq ?_
    refine AW.reg ?_
    refine Lp (V_asg rfl rfl) rfl rfl ?_
    refine Lnil ?_
    refine thenN ?_
    refine AW.ret ?_
    exact bR1 Tryz.results11 rfl ⟨_, rfl, h⟩
  refine AW.seq ?_
  refine AW.reg ?_
  obtain ⟨x97_20, hc, h⟩ := h
  refine Ls rfl rfl (X_ld rfl Tryz.underlying26 rfl rfl hc ?_)
  obtain ⟨p98_21, hc, h⟩ := h
  refine Lp (V_nil rfl (by rw [← hc]; rfl)) rfl rfl ?_
  refine Lp (V_fld rfl Tryz.underlying39 rfl ty37 (by decide) rfl) rfl rfl ?_
  obtain ⟨x100_22, hc, h⟩ := h
  refine Ls rfl rfl (X_ld rfl Tryz.underlying37 rfl rfl hc ?_)
  refine Ls rfl rfl (X_call rfl Tryz.func46 rfl rfl rfl (ACalls.mono h ?_))
  rintro v σ ⟨x101_23, rfl, h⟩
  refine Lp (V_lenL rfl rfl Tryz.underlying83 rfl rfl) rfl rfl ?_
  refine Lp (V_move rfl rfl) rfl rfl ?_
  refine Lnil ?_
  refine thenN ?_
  refine AW.block ?_
  refine ARound.loop (fr' := [(1, .string a1), (4, .pointer (some ⟨x4_1, 0, none⟩)), (13, .pointer (some ⟨x13_8, 0, none⟩)), (101, Sl.v x101_23), (102, .int .i64 (x101_23.len : Int)), (103, .int .i64 0)]) ?_ (FrLe.cons rfl (FrLe.cons rfl (FrLe.cons rfl (FrLe.cons rfl (FrLe.cons rfl (FrLe.cons rfl (FrLe.nil _)))))))
  refine h (fun x103_25 σ => ARound _ _ _ _ _ _ [(1, .string a1), (4, .pointer (some ⟨x4_1, 0, none⟩)), (13, .pointer (some ⟨x13_8, 0, none⟩)), (101, Sl.v x101_23), (102, .int .i64 (x101_23.len : Int)), (103, .int .i64 x103_25)] σ) ?_
  rintro x103_25 σ Y24 hY24 h
  show AW _ _ _ _ _ _ _ _
  unfold l24_snap_Save at h
  refine AW.seq ?_
  refine AW.reg ?_
  refine Lp (V_lss rfl rfl rfl) rfl rfl ?_
  refine Lnil ?_
  refine thenN ?_
  refine AW.seq ?_
  refine AW.iff rfl decide_eq_true_iff h (fun h => ?_) (fun h => ?_)
  rotate_left
  · refine AW.exit ?_
    refine thenE ?_
    refine thenE ?_
    refine blockE ?_
    refine thenN ?_
    exact ⟨(FrLe.nil _), h⟩
  refine AW.skip ?_
  refine thenN ?_
  refine AW.seqJ (fun fr σ => FrLe [(1, .string a1), (4, .pointer (some ⟨x4_1, 0, none⟩)), (13, .pointer (some ⟨x13_8, 0, none⟩)), (101, Sl.v x101_23), (102, .int .i64 (x101_23.len : Int)), (103, .int .i64 x103_25)] fr ∧ j26_snap_Save B ro a1 x4_1 x13_8 x101_23 x103_25 Q Y24 σ) ?_ ?_
  · rintro fr σ ⟨hl, h⟩
    refine AW.weaken ?_ hl (HLe.refl _)
    unfold j26_snap_Save at h
    refine AW.reg ?_
    refine Lp (V_add rfl rfl rfl) rfl rfl ?_
    refine Lp (V_move rfl rfl) rfl rfl ?_
    refine Lnil ?_
    refine thenN ?_
    refine ARound.head (fr' := [(1, .string a1), (4, .pointer (some ⟨x4_1, 0, none⟩)), (13, .pointer (some ⟨x13_8, 0, none⟩)), (101, Sl.v x101_23), (102, .int .i64 (x101_23.len : Int)), (103, .int .i64 (IntKind.i64.wrap (x103_25 + 1)))]) ?_ (FrLe.cons rfl (FrLe.cons rfl (FrLe.cons rfl (FrLe.cons rfl (FrLe.cons rfl (FrLe.cons rfl (FrLe.nil _)))))))
    exact hY24 _ _ h
  refine AW.block ?_
  refine AW.seq ?_
  refine AW.reg ?_
  obtain ⟨p105_27, ha, h0, h1, h⟩ := h
  refine Lp (V_ixA rfl Tryz.underlying83 ty9 (ixL rfl ha) rfl h0 h1) rfl rfl ?_
  obtain ⟨x106_28, hc, h⟩ := h
  refine Ls rfl rfl (X_ld rfl Tryz.underlying9 rfl rfl hc ?_)
  refine Lp (V_asg rfl rfl) rfl rfl ?_
  refine Lnil ?_
  refine thenN ?_
  refine AW.seq ?_
  refine AW.reg ?_
  refine Lp (V_move rfl rfl) rfl rfl ?_
  obtain ⟨x108_29, hc, h⟩ := h
  refine Ls rfl rfl (X_ld rfl Tryz.underlying9 rfl rfl hc ?_)
  refine Lp (V_neqS rfl rfl rfl) rfl rfl ?_
  refine Lp (V_move rfl rfl) rfl rfl ?_
  refine LsplitJ 4 (!(decide (x106_28 = x108_29))) (bnot_iff decide_eq_true_iff) h (fun fr σ => ∃ (x114_31 : Bool), FrLe [(1, .string a1), (4, .pointer (some ⟨x4_1, 0, none⟩)), (13, .pointer (some ⟨x13_8, 0, none⟩)), (20, .string x106_28), (101, Sl.v x101_23), (102, .int .i64 (x101_23.len : Int)), (103, .int .i64 x103_25), (114, .bool x114_31)] fr ∧ j30_snap_Save B ro a1 x4_1 x13_8 x101_23 x103_25 x106_28 Q Y24 x114_31 σ) ?_ ?_ ?_
  · intro h e3 hk3
    refine Lypb (V_move rfl rfl) rfl rfl rfl rfl e3 ?_
    refine Lypb (V_move rfl rfl) rfl rfl rfl rfl e3 ?_
    refine Lyb rfl rfl rfl rfl e3 (X_call rfl Tryz.func47 rfl rfl rfl (ACalls.mono h ?_))
    rintro v σ ⟨x113_35, rfl, h⟩
    refine Lp (V_pickT rfl (evb e3) rfl) rfl rfl ?_
    exact hk3 _ _ ⟨_, (FrLe.cons rfl (FrLe.cons rfl (FrLe.cons rfl (FrLe.cons rfl (FrLe.cons rfl (FrLe.cons rfl (FrLe.cons rfl (FrLe.cons rfl (FrLe.nil _))))))))), h⟩
  · intro h e3 hk3
    refine Ln rfl rfl rfl rfl (.inl (by rw [e3]; rfl)) ?_
    refine Ln rfl rfl rfl rfl (.inl (by rw [e3]; rfl)) ?_
    refine Ln rfl rfl rfl rfl (.inl (by rw [e3]; rfl)) ?_
    refine Lp (V_pickF rfl (evb e3) rfl) rfl rfl ?_
    exact hk3 _ _ ⟨_, (FrLe.cons rfl (FrLe.cons rfl (FrLe.cons rfl (FrLe.cons rfl (FrLe.cons rfl (FrLe.cons rfl (FrLe.cons rfl (FrLe.cons rfl (FrLe.nil _))))))))), h⟩
  rintro fr σ ⟨x114_31, hl, h⟩
  unfold j30_snap_Save at h
  refine Lfr hl ?_
  refine Lnil ?_
  refine thenN ?_
  refine AW.iff rfl Iff.rfl h (fun h => ?_) (fun h => ?_)
  rotate_left
  · refine AW.skip ?_
    refine blockN ?_
    refine thenN ?_
    exact ⟨(FrLe.cons rfl (FrLe.cons rfl (FrLe.cons rfl (FrLe.cons rfl (FrLe.cons rfl (FrLe.cons rfl (FrLe.nil _))))))), h⟩
  refine AW.reg ?_
  obtain ⟨x115_32, hc, h⟩ := h
  refine Ls rfl rfl (X_ld rfl Tryz.underlying26 rfl rfl hc ?_)
  refine Lp (V_move rfl rfl) rfl rfl ?_
  refine Ls rfl rfl (X_new (A_bsl (vs := [(0, .string x106_28)]) (cs := #[.string x106_28]) rfl Tryz.underlying83 ty9 (by decide) rfl rfl) fun x117_33 g1 g2 => ?_)
  replace h := h x117_33 g1 g2
  refine Ls rfl rfl (X_call rfl Tryz.func40 rfl rfl rfl (ACalls.mono h ?_))
  rintro v σ ⟨x118_34, rfl, h⟩
  refine Lnil ?_
  refine blockN ?_
  refine thenN ?_
  exact ⟨(FrLe.cons rfl (FrLe.cons rfl (FrLe.cons rfl (FrLe.cons rfl (FrLe.cons rfl (FrLe.cons rfl (FrLe.nil _))))))), h⟩

def j9_snap_Load (B : World) (ro : AH) (x8_4 : Nat) (x27_7 : Sl) (Q : Int → Sl → Bool → Int → AH → Prop) (x38_10 : Bool) (σ : AH) : Prop :=
 if x38_10 = true then
  Q 0 (⟨none, 0, 0⟩ : Sl) false 0 σ
 else
 ∃ (x40_11 : Int), acell ro σ ((⟨x8_4, 0, none⟩ : Addr).add 2) = some (.int .i64 x40_11) ∧
 Q x40_11 x27_7 true 0 σ

def f_snap_Load (B : World) (ro : AH) (a0 : Option Addr) (a1 : ByteArray) (σ : AH) (Q : Int → Sl → Bool → Int → AH → Prop) : Prop :=
 c_snap_rightName B ro a1 σ fun x11_1 σ =>
 if ¬ (x11_1 = true) then
  Q 0 (⟨none, 0, 0⟩ : Sl) false 40 σ
 else
 c_snap_readManifest B ro a0 a1 σ fun x16_2a x16_2b x16_2c x16_3 σ =>
 nw ro σ (.cells #[.int .i64 0, .int .i64 0, .int .i64 0] 90) fun x8_4 σ =>
 stN ⟨x8_4, 0, none⟩ (fun σ =>
  if ¬ (x16_3 = true) then
   Q 0 (⟨none, 0, 0⟩ : Sl) false 0 σ
  else
  ∃ (x25_5 : Int), acell ro σ ((⟨x8_4, 0, none⟩ : Addr).add 2) = some (.int .i64 x25_5) ∧
  c_snap_dataFile B ro a1 x25_5 σ fun x26_6 σ =>
  c_disk_Disk_Read B ro a0 x26_6 σ fun x27_7 x27_8 σ =>
  lent σ fun ψ σ =>
   if ¬ (x27_8 = 0) then
    (Disj ψ σ → (fun σ => 
     j9_snap_Load B ro x8_4 x27_7 Q true σ) (join ψ σ))
   else
   ∃ (x36_12a : Int) (x36_12b : Int), cellsAt (join ro ψ) (fun _ => none) ⟨x8_4, 0, none⟩ 0 [.int .i64 x36_12a, .int .i64 x36_12b] ∧
   c_snap_digestOf B (join ro ψ) x27_7 σ fun x34_13a x34_13b σ =>
   awp Tryz.prog (join ro ψ) (do eqGuard .neq 87 (.tmp 34) (.tmp 36) (.agg #[.int .i64 x34_13a, .int .i64 x34_13b]) (.agg #[.int .i64 x36_12a, .int .i64 x36_12b]); Go.binOp .neq 87 (.agg #[.int .i64 x34_13a, .int .i64 x34_13b]) (.agg #[.int .i64 x36_12a, .int .i64 x36_12b])) (fun v σ => ∃ x37_14 : Bool, v = .bool x37_14 ∧
    (Disj ψ σ → (fun σ => 
     j9_snap_Load B ro x8_4 x27_7 Q x37_14 σ) (join ψ σ))) σ) [.int .i64 x16_2a, .int .i64 x16_2b, .int .i64 x16_2c] 0 σ

set_option maxRecDepth 100000 in
set_option maxHeartbeats 4000000 in
theorem snap_Load_ok {B : World} {ro : AH} {a0 : Option Addr} {a1 : ByteArray} {σ : AH} {Q : Int → Sl → Bool → Int → AH → Prop} (h : Sep ro σ → f_snap_Load B ro a0 a1 σ Q) : c_snap_Load B ro a0 a1 σ Q := by
  refine ACalls.of_sep fun hsep => ?_
  replace h := h hsep
  refine ACalls.of_body (args := [.pointer a0, .string a1]) Tryz.func13 rfl (by rw [Tryz.ntmps13]; simp) ?_
  rw [Tryz.ntmps13]
  unfold f_snap_Load at h
  refine AW.seq ?_
  refine AW.reg ?_
  refine Lp (V_asg rfl rfl) rfl rfl ?_
  refine Lp (V_asg rfl rfl) rfl rfl ?_
  refine Lp (V_asg rfl rfl) rfl rfl ?_
  refine Lp (V_asg rfl rfl) rfl rfl ?_
  refine Lnil ?_
  refine thenN ?_
  refine AW.seq ?_
  refine AW.seq ?_
  refine AW.reg ?_
  refine Lp (V_move rfl rfl) rfl rfl ?_
  refine Ls rfl rfl (X_call rfl Tryz.func49 rfl rfl rfl (ACalls.mono h ?_))
  rintro v σ ⟨x11_1, rfl, h⟩
  refine Lp (V_not rfl rfl) rfl rfl ?_
  refine Lnil ?_
  refine thenN ?_
  refine AW.iff rfl (bnot_iff Iff.rfl) h (fun h => ?_) (fun h => ?_)
  · refine AW.seq ?_
    refine AW.reg ?_
    refine Lp (V_asg rfl rfl) rfl rfl ?_
    refine Lp (V_asg rfl rfl) rfl rfl ?_
    refine Lp (V_asg rfl rfl) rfl rfl ?_
    refine Lp (V_asg rfl rfl) rfl rfl ?_
    refine Lnil ?_
    refine thenN ?_
    refine AW.ret ?_
    refine thenR ?_
    exact bRM Tryz.results13 (rCons (rTmp rfl) (rCons (rTmp rfl) (rCons (rTmp rfl) (rCons (rTmp rfl) rNil)))) ⟨_, _, _, _, rfl, h⟩
  refine AW.skip ?_
  refine thenN ?_
  refine AW.seq ?_
  refine AW.reg ?_
  refine Lp (V_move rfl rfl) rfl rfl ?_
  refine Lp (V_move rfl rfl) rfl rfl ?_
  refine Ls rfl rfl (X_call rfl Tryz.func50 rfl rfl rfl (ACalls.mono h ?_))
  rintro v σ ⟨x16_2a, x16_2b, x16_2c, x16_3, rfl, h⟩
  refine Lp (V_move rfl rfl) rfl rfl ?_
  refine Lp (V_ext rfl rfl rfl) rfl rfl ?_
  refine Lp (V_ext rfl rfl rfl) rfl rfl ?_
  refine Ls rfl rfl (X_new (A_alloc rfl ty90) fun x8_4 g1 g2 => ?_)
  replace h := h x8_4 g1 g2
  refine Ls rfl rfl (X_st rfl ty90 rfl rfl rfl rfl (stN_mono h fun σ h => ?_))
  refine Lp (V_asg rfl rfl) rfl rfl ?_
  refine Lnil ?_
  refine thenN ?_
  refine AW.seq ?_
  refine AW.seq ?_
  refine AW.reg ?_
  refine Lp (V_move rfl rfl) rfl rfl ?_
  refine Lp (V_not rfl rfl) rfl rfl ?_
  refine Lnil ?_
  refine thenN ?_
  refine AW.iff rfl (bnot_iff Iff.rfl) h (fun h => ?_) (fun h => ?_)
  · refine AW.seq ?_
    refine AW.reg ?_
    refine Lp (V_asg rfl rfl) rfl rfl ?_
    refine Lp (V_asg rfl rfl) rfl rfl ?_
    refine Lp (V_asg rfl rfl) rfl rfl ?_
    refine Lp (V_asg rfl rfl) rfl rfl ?_
    refine Lnil ?_
    refine thenN ?_
    refine AW.ret ?_
    refine thenR ?_
    exact bRM Tryz.results13 (rCons (rTmp rfl) (rCons (rTmp rfl) (rCons (rTmp rfl) (rCons (rTmp rfl) rNil)))) ⟨_, _, _, _, rfl, h⟩
  refine AW.skip ?_
  refine thenN ?_
  refine AW.seq ?_
  refine AW.reg ?_
  refine Lp (V_move rfl rfl) rfl rfl ?_
  refine Lp (V_move rfl rfl) rfl rfl ?_
  refine Lp (V_fld rfl Tryz.underlying90 rfl ty3 (by decide) rfl) rfl rfl ?_
  obtain ⟨x25_5, hc, h⟩ := h
  refine Ls rfl rfl (X_ld rfl Tryz.underlying3 rfl rfl hc ?_)
  refine Ls rfl rfl (X_call rfl Tryz.func38 rfl rfl rfl (ACalls.mono h ?_))
  rintro v σ ⟨x26_6, rfl, h⟩
  refine Ls rfl rfl (X_call rfl Tryz.func51 rfl rfl rfl (ACalls.mono h ?_))
  rintro v σ ⟨x27_7, x27_8, rfl, h⟩
  refine Lp (V_move rfl rfl) rfl rfl ?_
  refine Lp (V_ext rfl rfl rfl) rfl rfl ?_
  refine Lp (V_ext rfl rfl rfl) rfl rfl ?_
  refine Lp (V_asg rfl rfl) rfl rfl ?_
  refine Lp (V_asg rfl rfl) rfl rfl ?_
  refine Lnil ?_
  refine thenN ?_
  refine AW.seq ?_
  refine AW.seqJ (fun fr σ => ∃ (x38_10 : Bool), FrLe [(5, Sl.v x27_7), (8, .pointer (some ⟨x8_4, 0, none⟩)), (38, .bool x38_10)] fr ∧ j9_snap_Load B ro x8_4 x27_7 Q x38_10 σ) ?_ ?_
  · rintro fr σ ⟨x38_10, hl, h⟩
    refine AW.weaken ?_ hl (HLe.refl _)
    unfold j9_snap_Load at h
    refine AW.iff rfl Iff.rfl h (fun h => ?_) (fun h => ?_)
    · refine AW.seq ?_
      refine AW.reg ?_
      refine Lp (V_asg rfl rfl) rfl rfl ?_
      refine Lp (V_asg rfl rfl) rfl rfl ?_
      refine Lp (V_asg rfl rfl) rfl rfl ?_
      refine Lp (V_asg rfl rfl) rfl rfl ?_
      refine Lnil ?_
      refine thenN ?_
      refine AW.ret ?_
      refine thenR ?_
      exact bRM Tryz.results13 (rCons (rTmp rfl) (rCons (rTmp rfl) (rCons (rTmp rfl) (rCons (rTmp rfl) rNil)))) ⟨_, _, _, _, rfl, h⟩
    refine AW.skip ?_
    refine thenN ?_
    refine AW.seq ?_
    refine AW.reg ?_
    refine Lp (V_fld rfl Tryz.underlying90 rfl ty3 (by decide) rfl) rfl rfl ?_
    obtain ⟨x40_11, hc, h⟩ := h
    refine Ls rfl rfl (X_ld rfl Tryz.underlying3 rfl rfl hc ?_)
    refine Lp (V_move rfl rfl) rfl rfl ?_
    refine Lp (V_asg rfl rfl) rfl rfl ?_
    refine Lp (V_asg rfl rfl) rfl rfl ?_
    refine Lp (V_asg rfl rfl) rfl rfl ?_
    refine Lp (V_asg rfl rfl) rfl rfl ?_
    refine Lnil ?_
    refine thenN ?_
    refine AW.ret ?_
    exact bRM Tryz.results13 (rCons (rTmp rfl) (rCons (rTmp rfl) (rCons (rTmp rfl) (rCons (rTmp rfl) rNil)))) ⟨_, _, _, _, rfl, h⟩
  refine AW.drawnL (fun i => ([0, 0, 0, 0, 2, 0, 0, 2, 0] : List Nat).getD i 2) [] [0, 1, 2, 3, 5, 6, 4, 7, 8] Tryz.mixed h (by decide +kernel) ?_
  clear h
  intro ψ σ h
  refine Dp rfl rfl rfl rfl (V_move rfl rfl) ?_
  refine Dp rfl rfl rfl rfl (V_neq rfl rfl rfl) ?_
  refine Dp rfl rfl rfl rfl (V_move rfl rfl) ?_
  refine splitP (!(decide (x27_8 = 0))) (bnot_iff decide_eq_true_iff) h ?_ ?_
  · intro h e2
    refine Dpn rfl rfl rfl rfl rfl (.inl (by rw [e2]; rfl)) rfl ?_
    refine Dpn rfl rfl rfl rfl rfl (.inl (by rw [e2]; rfl)) rfl ?_
    refine Dpn rfl rfl rfl rfl rfl (.inl (by rw [e2]; rfl)) rfl ?_
    refine Dgn rfl rfl rfl rfl rfl (.inl (by rw [e2]; rfl)) rfl ?_
    refine Dgn rfl rfl rfl rfl rfl (.inl (by rw [e2]; rfl)) rfl ?_
    refine Dp rfl rfl rfl rfl (V_pickT rfl (evb e2) rfl) ?_
    refine ⟨_, FrEq.refl _, fun hdj => ?_⟩
    replace h := h hdj
    refine thenN ?_
    exact ⟨_, (FrLe.cons rfl (FrLe.cons rfl (FrLe.cons rfl (FrLe.nil _)))), h⟩
  intro h e2
  refine Dpy rfl rfl rfl rfl rfl e2 rfl (V_move rfl rfl) ?_
  refine Dpy rfl rfl rfl rfl rfl e2 rfl (V_fld rfl Tryz.underlying90 rfl ty87 (by decide) rfl) ?_
  obtain ⟨x36_12a, x36_12b, hc, h⟩ := h
  refine Dpy rfl rfl rfl rfl rfl e2 rfl (V_lda rfl Tryz.underlying87 rfl ty87 rfl hc) ?_
  refine Dgy rfl rfl rfl rfl rfl e2 rfl (X_call rfl Tryz.func41 rfl rfl rfl (ACalls.mono h ?_))
  rintro v σ ⟨x34_13a, x34_13b, rfl, h⟩
  refine Dgy rfl rfl rfl rfl rfl e2 rfl (X_eq rfl rfl rfl (awp_mono _ h ?_))
  rintro v σ ⟨x37_14, rfl, h⟩
  refine Dp rfl rfl rfl rfl (V_pickF rfl (evb e2) rfl) ?_
  refine ⟨_, FrEq.refl _, fun hdj => ?_⟩
  replace h := h hdj
  refine thenN ?_
  exact ⟨_, (FrLe.cons rfl (FrLe.cons rfl (FrLe.cons rfl (FrLe.nil _)))), h⟩

def j3_snap_Chunks (B : World) (ro : AH) (Q : Sl → Int → AH → Prop) (x10_4 : Sl) (σ : AH) : Prop :=
 Q x10_4 0 σ

def l5_snap_Chunks (B : World) (ro : AH) (a0 : Int) (a1 : Sl) (a2 : Int) (x9_2 : Nat) (Q : Sl → Int → AH → Prop) : (Sl × Int) → AH → ((Sl × Int) → AH → Prop) → Prop := fun ⟨x10_6, x44_7⟩ σ Y5 =>
 if x44_7 < (if 1 < IntKind.i64.wrap (Int.tdiv (IntKind.i64.wrap ((IntKind.i64.wrap ((a1.len : Int) + a2)) - 1)) a2) then IntKind.i64.wrap (Int.tdiv (IntKind.i64.wrap ((IntKind.i64.wrap ((a1.len : Int) + a2)) - 1)) a2) else 1) then
  c_wire_NewWriter B ro σ fun x47_8 σ =>
  ∃ (x53_9 : Int), acell ro σ ⟨x9_2, 0, none⟩ = some (.int .i64 x53_9) ∧
  ∃ (x55_10 : Int), acell ro σ ((⟨x9_2, 0, none⟩ : Addr).add 1) = some (.int .i64 x55_10) ∧
  nw ro σ (.cells #[.int .i64 a0, .int .i64 (if 1 < IntKind.i64.wrap (Int.tdiv (IntKind.i64.wrap ((IntKind.i64.wrap ((a1.len : Int) + a2)) - 1)) a2) then IntKind.i64.wrap (Int.tdiv (IntKind.i64.wrap ((IntKind.i64.wrap ((a1.len : Int) + a2)) - 1)) a2) else 1), .int .i64 x44_7, .int .i64 x53_9, .int .i64 x55_10] 3) fun x56_11 σ =>
  c_wire_Writer_Nums B ro x47_8 (⟨some ⟨x56_11, 0, none⟩, 5, 5⟩ : Sl) σ fun σ =>
  cutOk (some (IntKind.i64.wrap (x44_7 * a2))) (some (if IntKind.i64.wrap ((IntKind.i64.wrap (x44_7 + 1)) * a2) < (a1.len : Int) then IntKind.i64.wrap ((IntKind.i64.wrap (x44_7 + 1)) * a2) else (a1.len : Int))) a1.len a1.cap ∧
  nw ro σ (.cells #[Sl.v (⟨cutA a1.a (Int.toNat (IntKind.i64.wrap (x44_7 * a2))) a1.cap 1, Int.toNat (if IntKind.i64.wrap ((IntKind.i64.wrap (x44_7 + 1)) * a2) < (a1.len : Int) then IntKind.i64.wrap ((IntKind.i64.wrap (x44_7 + 1)) * a2) else (a1.len : Int)) - Int.toNat (IntKind.i64.wrap (x44_7 * a2)), a1.cap - Int.toNat (IntKind.i64.wrap (x44_7 * a2))⟩ : Sl)] 22) fun x71_12 σ =>
  c_wire_Writer_Blobs B ro x47_8 (⟨some ⟨x71_12, 0, none⟩, 1, 1⟩ : Sl) σ fun σ =>
  c_wire_Writer_Out B ro x47_8 σ fun x75_13 x75_14 σ =>
  nw ro σ (.cells #[Sl.v x75_13] 22) fun x80_15 σ =>
  awp Tryz.prog ro (Builtin.append_ #[44, 44] 44 #[Sl.v x10_6, Sl.v (⟨some ⟨x80_15, 0, none⟩, 1, 1⟩ : Sl)]) (fun v σ => ∃ (x81_16 : Sl), v = Sl.v x81_16 ∧
   Y5 (x81_16, IntKind.i64.wrap (x44_7 + 1)) σ) σ
 else
 j3_snap_Chunks B ro Q x10_6 σ

def f_snap_Chunks (B : World) (ro : AH) (a0 : Int) (a1 : Sl) (a2 : Int) (σ : AH) (Q : Sl → Int → AH → Prop) : Prop :=
 if (a0 < 0) ∨ (4611686018427387903 < a0) then
  Q (⟨none, 0, 0⟩ : Sl) 10 σ
 else
 if 1048576 < (a1.len : Int) then
  Q (⟨none, 0, 0⟩ : Sl) 14 σ
 else
 if (a2 < 1) ∨ (32768 < a2) then
  Q (⟨none, 0, 0⟩ : Sl) 10 σ
 else
 a2 ≠ (0 : Int) ∧
 c_snap_digestOf B ro a1 σ fun x42_1a x42_1b σ =>
 nw ro σ (.cells #[.int .i64 0, .int .i64 0] 87) fun x9_2 σ =>
 stN ⟨x9_2, 0, none⟩ (fun σ =>
  lfpD (l5_snap_Chunks B ro a0 a1 a2 x9_2 Q ) ((⟨none, 0, 0⟩ : Sl), 0) σ) [.int .i64 x42_1a, .int .i64 x42_1b] 0 σ

set_option maxRecDepth 100000 in
set_option maxHeartbeats 4000000 in
theorem snap_Chunks_ok {B : World} {ro : AH} {a0 : Int} {a1 : Sl} {a2 : Int} {σ : AH} {Q : Sl → Int → AH → Prop} (h : Sep ro σ → f_snap_Chunks B ro a0 a1 a2 σ Q) : c_snap_Chunks B ro a0 a1 a2 σ Q := by
  refine ACalls.of_sep fun hsep => ?_
  replace h := h hsep
  refine ACalls.of_body (args := [.int .i64 a0, Sl.v a1, .int .i64 a2]) Tryz.func18 rfl (by rw [Tryz.ntmps18]; simp) ?_
  rw [Tryz.ntmps18]
  unfold f_snap_Chunks at h
  refine AW.seq ?_
  refine AW.reg ?_
  refine Lp (V_asg rfl rfl) rfl rfl ?_
  refine Lp (V_asg rfl rfl) rfl rfl ?_
  refine Lnil ?_
  refine thenN ?_
  refine AW.seq ?_
  refine AW.block ?_
  refine AW.seq ?_
  refine AW.reg ?_
  refine Lp (V_move rfl rfl) rfl rfl ?_
  refine Lp (V_lss rfl rfl rfl) rfl rfl ?_
  refine Lp (V_move rfl rfl) rfl rfl ?_
  refine Lsplit 3 (decide (a0 < 0)) [(0, .int .i64 a0), (1, Sl.v a1), (2, .int .i64 a2), (21, .bool ((decide (a0 < 0)) || (decide (4611686018427387903 < a0))))] ?_ ?_ ?_
  · intro e2 hk2
    refine Ln rfl rfl rfl rfl (.inl (by rw [e2]; rfl)) ?_
    refine Ln rfl rfl rfl rfl (.inl (by rw [e2]; rfl)) ?_
    refine Lp (V_pickT rfl (evb e2) rfl) rfl rfl ?_
    exact hk2 _ (FrLe.cons rfl (FrLe.cons rfl (FrLe.cons rfl (FrLe.cons (by rw [e2]; rfl) (FrLe.nil _)))))
  · intro e2 hk2
    refine Lypb (V_move rfl rfl) rfl rfl rfl rfl e2 ?_
    refine Lypb (V_gtr rfl rfl rfl) rfl rfl rfl rfl e2 ?_
    refine Lp (V_pickF rfl (evb e2) rfl) rfl rfl ?_
    exact hk2 _ (FrLe.cons rfl (FrLe.cons rfl (FrLe.cons rfl (FrLe.cons (by rw [e2]; rfl) (FrLe.nil _)))))
  intro fr hl
  refine Lfr hl ?_
  refine Lp (V_asg rfl rfl) rfl rfl ?_
  refine Lnil ?_
  refine thenN ?_
  refine AW.iff rfl (bor_iff decide_eq_true_iff decide_eq_true_iff) h (fun h => ?_) (fun h => ?_)
  · refine AW.seq ?_
    refine AW.reg ?_
    refine Lp (V_asg rfl rfl) rfl rfl ?_
    refine Lp (V_asg rfl rfl) rfl rfl ?_
    refine Lnil ?_
    refine thenN ?_
    refine AW.ret ?_
    refine blockR ?_
    refine thenR ?_
    exact bR2 Tryz.results18 rfl rfl ⟨_, _, rfl, h⟩
  refine AW.seq ?_
  refine AW.reg ?_
  refine Lp (V_move rfl rfl) rfl rfl ?_
  refine Lp (V_lenL rfl rfl Tryz.underlying22 rfl rfl) rfl rfl ?_
  refine Lp (V_gtr rfl rfl rfl) rfl rfl ?_
  refine Lp (V_asg rfl rfl) rfl rfl ?_
  refine Lnil ?_
  refine thenN ?_
  refine AW.iff rfl decide_eq_true_iff h (fun h => ?_) (fun h => ?_)
  · refine AW.seq ?_
    refine AW.reg ?_
    refine Lp (V_asg rfl rfl) rfl rfl ?_
    refine Lp (V_asg rfl rfl) rfl rfl ?_
    refine Lnil ?_
    refine thenN ?_
    refine AW.ret ?_
    refine blockR ?_
    refine thenR ?_
    exact bR2 Tryz.results18 rfl rfl ⟨_, _, rfl, h⟩
  refine AW.seq ?_
  refine AW.reg ?_
  refine Lp (V_move rfl rfl) rfl rfl ?_
  refine Lp (V_lss rfl rfl rfl) rfl rfl ?_
  refine Lp (V_move rfl rfl) rfl rfl ?_
  refine Lsplit 3 (decide (a2 < 1)) [(0, .int .i64 a0), (1, Sl.v a1), (2, .int .i64 a2), (32, .bool ((decide (a2 < 1)) || (decide (32768 < a2))))] ?_ ?_ ?_
  · intro e2 hk2
    refine Ln rfl rfl rfl rfl (.inl (by rw [e2]; rfl)) ?_
    refine Ln rfl rfl rfl rfl (.inl (by rw [e2]; rfl)) ?_
    refine Lp (V_pickT rfl (evb e2) rfl) rfl rfl ?_
    exact hk2 _ (FrLe.cons rfl (FrLe.cons rfl (FrLe.cons rfl (FrLe.cons (by rw [e2]; rfl) (FrLe.nil _)))))
  · intro e2 hk2
    refine Lypb (V_move rfl rfl) rfl rfl rfl rfl e2 ?_
    refine Lypb (V_gtr rfl rfl rfl) rfl rfl rfl rfl e2 ?_
    refine Lp (V_pickF rfl (evb e2) rfl) rfl rfl ?_
    exact hk2 _ (FrLe.cons rfl (FrLe.cons rfl (FrLe.cons rfl (FrLe.cons (by rw [e2]; rfl) (FrLe.nil _)))))
  intro fr hl
  refine Lfr hl ?_
  refine Lp (V_asg rfl rfl) rfl rfl ?_
  refine Lnil ?_
  refine thenN ?_
  refine AW.iff rfl (bor_iff decide_eq_true_iff decide_eq_true_iff) h (fun h => ?_) (fun h => ?_)
  · refine AW.seq ?_
    refine AW.reg ?_
    refine Lp (V_asg rfl rfl) rfl rfl ?_
    refine Lp (V_asg rfl rfl) rfl rfl ?_
    refine Lnil ?_
    refine thenN ?_
    refine AW.ret ?_
    refine blockR ?_
    refine thenR ?_
    exact bR2 Tryz.results18 rfl rfl ⟨_, _, rfl, h⟩
  refine AW.skip ?_
  refine blockN ?_
  refine thenN ?_
  refine AW.seq ?_
  refine AW.reg ?_
  refine Lp (V_move rfl rfl) rfl rfl ?_
  refine Lp (V_lenL rfl rfl Tryz.underlying22 rfl rfl) rfl rfl ?_
  refine Lp (V_move rfl rfl) rfl rfl ?_
  refine Lp (V_add rfl rfl rfl) rfl rfl ?_
  refine Lp (V_sub rfl rfl rfl) rfl rfl ?_
  refine Lp (V_move rfl rfl) rfl rfl ?_
  obtain ⟨hc, h⟩ := h
  refine Lp (V_quo rfl rfl rfl hc) rfl rfl ?_
  refine Lp (V_max2 rfl rfl) rfl rfl ?_
  refine Lp (V_asg rfl rfl) rfl rfl ?_
  refine Lnil ?_
  refine thenN ?_
  refine AW.seq ?_
  refine AW.reg ?_
  refine Lp (V_move rfl rfl) rfl rfl ?_
  refine Ls rfl rfl (X_call rfl Tryz.func41 rfl rfl rfl (ACalls.mono h ?_))
  rintro v σ ⟨x42_1a, x42_1b, rfl, h⟩
  refine Ls rfl rfl (X_new (A_alloc rfl ty87) fun x9_2 g1 g2 => ?_)
  replace h := h x9_2 g1 g2
  refine Ls rfl rfl (X_st rfl ty87 rfl rfl rfl rfl (stN_mono h fun σ h => ?_))
  refine Lnil ?_
  refine thenN ?_
  refine AW.seq ?_
  refine AW.reg ?_
  refine Lp (V_asg rfl rfl) rfl rfl ?_
  refine Lnil ?_
  refine thenN ?_
  refine AW.seqJ (fun fr σ => ∃ (x10_4 : Sl), FrLe [(10, Sl.v x10_4)] fr ∧ j3_snap_Chunks B ro Q x10_4 σ) ?_ ?_
  · rintro fr σ ⟨x10_4, hl, h⟩
    refine AW.weaken ?_ hl (HLe.refl _)
    unfold j3_snap_Chunks at h
    refine AW.seq ?_
    refine AW.reg ?_
    refine Lp (V_move rfl rfl) rfl rfl ?_
    refine Lp (V_asg rfl rfl) rfl rfl ?_
    refine Lp (V_asg rfl rfl) rfl rfl ?_
    refine Lnil ?_
    refine thenN ?_
    refine AW.ret ?_
    exact bR2 Tryz.results18 rfl rfl ⟨_, _, rfl, h⟩
  refine AW.seq ?_
  refine AW.reg ?_
  refine Lp (V_move rfl rfl) rfl rfl ?_
  refine Lp (V_move rfl rfl) rfl rfl ?_
  refine Lnil ?_
  refine thenN ?_
  refine AW.block ?_
  refine ARound.loop (fr' := [(0, .int .i64 a0), (1, Sl.v a1), (2, .int .i64 a2), (8, .int .i64 (if 1 < IntKind.i64.wrap (Int.tdiv (IntKind.i64.wrap ((IntKind.i64.wrap ((a1.len : Int) + a2)) - 1)) a2) then IntKind.i64.wrap (Int.tdiv (IntKind.i64.wrap ((IntKind.i64.wrap ((a1.len : Int) + a2)) - 1)) a2) else 1)), (9, .pointer (some ⟨x9_2, 0, none⟩)), (43, .int .i64 (if 1 < IntKind.i64.wrap (Int.tdiv (IntKind.i64.wrap ((IntKind.i64.wrap ((a1.len : Int) + a2)) - 1)) a2) then IntKind.i64.wrap (Int.tdiv (IntKind.i64.wrap ((IntKind.i64.wrap ((a1.len : Int) + a2)) - 1)) a2) else 1)), (10, Sl.v (⟨none, 0, 0⟩ : Sl)), (44, .int .i64 0)]) ?_ (FrLe.cons rfl (FrLe.cons rfl (FrLe.cons rfl (FrLe.cons rfl (FrLe.cons rfl (FrLe.cons rfl (FrLe.cons rfl (FrLe.cons rfl (FrLe.nil _)))))))))
  refine h (fun ⟨x10_6, x44_7⟩ σ => ARound _ _ _ _ _ _ [(0, .int .i64 a0), (1, Sl.v a1), (2, .int .i64 a2), (8, .int .i64 (if 1 < IntKind.i64.wrap (Int.tdiv (IntKind.i64.wrap ((IntKind.i64.wrap ((a1.len : Int) + a2)) - 1)) a2) then IntKind.i64.wrap (Int.tdiv (IntKind.i64.wrap ((IntKind.i64.wrap ((a1.len : Int) + a2)) - 1)) a2) else 1)), (9, .pointer (some ⟨x9_2, 0, none⟩)), (43, .int .i64 (if 1 < IntKind.i64.wrap (Int.tdiv (IntKind.i64.wrap ((IntKind.i64.wrap ((a1.len : Int) + a2)) - 1)) a2) then IntKind.i64.wrap (Int.tdiv (IntKind.i64.wrap ((IntKind.i64.wrap ((a1.len : Int) + a2)) - 1)) a2) else 1)), (10, Sl.v x10_6), (44, .int .i64 x44_7)] σ) ?_
  rintro ⟨x10_6, x44_7⟩ σ Y5 hY5 h
  show AW _ _ _ _ _ _ _ _
  unfold l5_snap_Chunks at h
  dsimp only at h
  refine AW.seq ?_
  refine AW.reg ?_
  refine Lp (V_lss rfl rfl rfl) rfl rfl ?_
  refine Lnil ?_
  refine thenN ?_
  refine AW.seq ?_
  refine AW.iff rfl decide_eq_true_iff h (fun h => ?_) (fun h => ?_)
  rotate_left
  · refine AW.exit ?_
    refine thenE ?_
    refine thenE ?_
    refine blockE ?_
    refine thenN ?_
    exact ⟨_, (FrLe.cons rfl (FrLe.nil _)), h⟩
  refine AW.skip ?_
  refine thenN ?_
  refine AW.seq ?_
  refine AW.block ?_
  refine AW.seq ?_
  refine AW.reg ?_
  refine Lp (V_move rfl rfl) rfl rfl ?_
  refine Lp (V_asg rfl rfl) rfl rfl ?_
  refine Lnil ?_
  refine thenN ?_
  refine AW.seq ?_
  refine AW.reg ?_
  refine Ls rfl rfl (X_call rfl Tryz.func52 rfl rfl rfl (ACalls.mono h ?_))
  rintro v σ ⟨x47_8, rfl, h⟩
  refine Lp (V_asg rfl rfl) rfl rfl ?_
  refine Lnil ?_
  refine thenN ?_
  refine AW.seq ?_
  refine AW.reg ?_
  refine Lp (V_move rfl rfl) rfl rfl ?_
  refine Lp (V_move rfl rfl) rfl rfl ?_
  refine Lp (V_move rfl rfl) rfl rfl ?_
  refine Lp (V_move rfl rfl) rfl rfl ?_
  refine Lp (V_fld rfl Tryz.underlying87 rfl ty3 (by decide) rfl) rfl rfl ?_
  obtain ⟨x53_9, hc, h⟩ := h
  refine Ls rfl rfl (X_ld rfl Tryz.underlying3 rfl rfl hc ?_)
  refine Lp (V_fld rfl Tryz.underlying87 rfl ty3 (by decide) rfl) rfl rfl ?_
  obtain ⟨x55_10, hc, h⟩ := h
  refine Ls rfl rfl (X_ld rfl Tryz.underlying3 rfl rfl hc ?_)
  refine Ls rfl rfl (X_new (A_bsl (vs := [(0, .int .i64 a0), (1, .int .i64 (if 1 < IntKind.i64.wrap (Int.tdiv (IntKind.i64.wrap ((IntKind.i64.wrap ((a1.len : Int) + a2)) - 1)) a2) then IntKind.i64.wrap (Int.tdiv (IntKind.i64.wrap ((IntKind.i64.wrap ((a1.len : Int) + a2)) - 1)) a2) else 1)), (2, .int .i64 x44_7), (3, .int .i64 x53_9), (4, .int .i64 x55_10)]) (cs := #[.int .i64 a0, .int .i64 (if 1 < IntKind.i64.wrap (Int.tdiv (IntKind.i64.wrap ((IntKind.i64.wrap ((a1.len : Int) + a2)) - 1)) a2) then IntKind.i64.wrap (Int.tdiv (IntKind.i64.wrap ((IntKind.i64.wrap ((a1.len : Int) + a2)) - 1)) a2) else 1), .int .i64 x44_7, .int .i64 x53_9, .int .i64 x55_10]) rfl Tryz.underlying23 ty3 (by decide) rfl rfl) fun x56_11 g1 g2 => ?_)
  replace h := h x56_11 g1 g2
  refine Ls rfl rfl (X_call rfl Tryz.func53 rfl rfl rfl (ACalls.mono h ?_))
  rintro v σ ⟨rfl, h⟩
  refine Lnil ?_
  refine thenN ?_
  refine AW.seq ?_
  refine AW.reg ?_
  refine Lp (V_move rfl rfl) rfl rfl ?_
  refine Lp (V_move rfl rfl) rfl rfl ?_
  refine Lp (V_move rfl rfl) rfl rfl ?_
  refine Lp (V_move rfl rfl) rfl rfl ?_
  refine Lp (V_mul rfl rfl rfl) rfl rfl ?_
  refine Lp (V_move rfl rfl) rfl rfl ?_
  refine Lp (V_lenL rfl rfl Tryz.underlying22 rfl rfl) rfl rfl ?_
  refine Lp (V_move rfl rfl) rfl rfl ?_
  refine Lp (V_add rfl rfl rfl) rfl rfl ?_
  refine Lp (V_move rfl rfl) rfl rfl ?_
  refine Lp (V_mul rfl rfl rfl) rfl rfl ?_
  refine Lp (V_min2 rfl rfl) rfl rfl ?_
  obtain ⟨hc, h⟩ := h
  refine Lp (V_slL (lo := (some (IntKind.i64.wrap (x44_7 * a2)))) (hi := (some (if IntKind.i64.wrap ((IntKind.i64.wrap (x44_7 + 1)) * a2) < (a1.len : Int) then IntKind.i64.wrap ((IntKind.i64.wrap (x44_7 + 1)) * a2) else (a1.len : Int)))) rfl Tryz.underlying22 ty5 rfl (optI_some rfl) (optI_some rfl) hc) rfl rfl ?_
  refine Ls rfl rfl (X_new (A_bsl (vs := [(0, Sl.v (⟨cutA a1.a (Int.toNat (IntKind.i64.wrap (x44_7 * a2))) a1.cap 1, Int.toNat (if IntKind.i64.wrap ((IntKind.i64.wrap (x44_7 + 1)) * a2) < (a1.len : Int) then IntKind.i64.wrap ((IntKind.i64.wrap (x44_7 + 1)) * a2) else (a1.len : Int)) - Int.toNat (IntKind.i64.wrap (x44_7 * a2)), a1.cap - Int.toNat (IntKind.i64.wrap (x44_7 * a2))⟩ : Sl))]) (cs := #[Sl.v (⟨cutA a1.a (Int.toNat (IntKind.i64.wrap (x44_7 * a2))) a1.cap 1, Int.toNat (if IntKind.i64.wrap ((IntKind.i64.wrap (x44_7 + 1)) * a2) < (a1.len : Int) then IntKind.i64.wrap ((IntKind.i64.wrap (x44_7 + 1)) * a2) else (a1.len : Int)) - Int.toNat (IntKind.i64.wrap (x44_7 * a2)), a1.cap - Int.toNat (IntKind.i64.wrap (x44_7 * a2))⟩ : Sl)]) rfl Tryz.underlying44 ty22 (by decide) rfl rfl) fun x71_12 g1 g2 => ?_)
  replace h := h x71_12 g1 g2
  refine Ls rfl rfl (X_call rfl Tryz.func54 rfl rfl rfl (ACalls.mono h ?_))
  rintro v σ ⟨rfl, h⟩
  refine Lnil ?_
  refine thenN ?_
  refine AW.seq ?_
  refine AW.reg ?_
  refine Lp (V_move rfl rfl) rfl rfl ?_
  refine Ls rfl rfl (X_call rfl Tryz.func55 rfl rfl rfl (ACalls.mono h ?_))
  rintro v σ ⟨x75_13, x75_14, rfl, h⟩
  refine Lp (V_move rfl rfl) rfl rfl ?_
  refine Lp (V_ext rfl rfl rfl) rfl rfl ?_
  refine Lp (V_ext rfl rfl rfl) rfl rfl ?_
  refine Lp (V_asg rfl rfl) rfl rfl ?_
  refine Lp (V_asg rfl rfl) rfl rfl ?_
  refine Lnil ?_
  refine thenN ?_
  refine AW.reg ?_
  refine Lp (V_move rfl rfl) rfl rfl ?_
  refine Lp (V_move rfl rfl) rfl rfl ?_
  refine Ls rfl rfl (X_new (A_bsl (vs := [(0, Sl.v x75_13)]) (cs := #[Sl.v x75_13]) rfl Tryz.underlying44 ty22 (by decide) rfl rfl) fun x80_15 g1 g2 => ?_)
  replace h := h x80_15 g1 g2
  refine Ls rfl rfl (X_bi (s := Builtin.append_ #[44, 44] 44 #[Sl.v x10_6, Sl.v (⟨some ⟨x80_15, 0, none⟩, 1, 1⟩ : Sl)]) rfl rfl (fun _ => rfl) (awp_mono _ h ?_))
  rintro v σ ⟨x81_16, rfl, h⟩
  refine Lp (V_asg rfl rfl) rfl rfl ?_
  refine Lnil ?_
  refine blockN ?_
  refine thenN ?_
  refine AW.reg ?_
  refine Lp (V_add rfl rfl rfl) rfl rfl ?_
  refine Lp (V_move rfl rfl) rfl rfl ?_
  refine Lnil ?_
  refine thenN ?_
  refine ARound.head (fr' := [(0, .int .i64 a0), (1, Sl.v a1), (2, .int .i64 a2), (8, .int .i64 (if 1 < IntKind.i64.wrap (Int.tdiv (IntKind.i64.wrap ((IntKind.i64.wrap ((a1.len : Int) + a2)) - 1)) a2) then IntKind.i64.wrap (Int.tdiv (IntKind.i64.wrap ((IntKind.i64.wrap ((a1.len : Int) + a2)) - 1)) a2) else 1)), (9, .pointer (some ⟨x9_2, 0, none⟩)), (43, .int .i64 (if 1 < IntKind.i64.wrap (Int.tdiv (IntKind.i64.wrap ((IntKind.i64.wrap ((a1.len : Int) + a2)) - 1)) a2) then IntKind.i64.wrap (Int.tdiv (IntKind.i64.wrap ((IntKind.i64.wrap ((a1.len : Int) + a2)) - 1)) a2) else 1)), (10, Sl.v x81_16), (44, .int .i64 (IntKind.i64.wrap (x44_7 + 1)))]) ?_ (FrLe.cons rfl (FrLe.cons rfl (FrLe.cons rfl (FrLe.cons rfl (FrLe.cons rfl (FrLe.cons rfl (FrLe.cons rfl (FrLe.cons rfl (FrLe.nil _)))))))))
  exact hY5 _ _ h

def f_snap_NewAsm (B : World) (ro : AH) (σ : AH) (Q : Option Addr → AH → Prop) : Prop :=
 nw ro σ (.map #[] 0) fun x1_1 σ =>
 nw ro σ (.cells #[.int .i64 0, .int .i64 0, .int .i64 0, .int .i64 0, .map (some x1_1)] 114) fun x3_2 σ =>
 Q (some ⟨x3_2, 0, none⟩) σ

set_option maxRecDepth 100000 in
set_option maxHeartbeats 4000000 in
theorem snap_NewAsm_ok {B : World} {ro : AH} {σ : AH} {Q : Option Addr → AH → Prop} (h : Sep ro σ → f_snap_NewAsm B ro σ Q) : c_snap_NewAsm B ro σ Q := by
  refine ACalls.of_sep fun hsep => ?_
  replace h := h hsep
  refine ACalls.of_body (args := []) Tryz.func20 rfl (by rw [Tryz.ntmps20]; simp) ?_
  rw [Tryz.ntmps20]
  unfold f_snap_NewAsm at h
  refine AW.seq ?_
  refine AW.reg ?_
  refine Lp (V_asg rfl rfl) rfl rfl ?_
  refine Lnil ?_
  refine thenN ?_
  refine AW.seq ?_
  refine AW.reg ?_
  refine Ls rfl rfl (X_new (A_map0 rfl) fun x1_1 g1 g2 => ?_)
  replace h := h x1_1 g1 g2
  refine Lp (V_bld (vs := [(2, .map (some x1_1))]) (cs := #[.int .i64 0, .int .i64 0, .int .i64 0, .int .i64 0, .map (some x1_1)]) rfl Tryz.underlying114 ty114 pl114 rfl rfl) rfl rfl ?_
  refine Ls rfl rfl (X_new (A_box rfl rfl) fun x3_2 g1 g2 => ?_)
  replace h := h x3_2 g1 g2
  refine Lp (V_asg rfl rfl) rfl rfl ?_
  refine Lnil ?_
  refine thenN ?_
  refine AW.ret ?_
  exact bR1 Tryz.results20 rfl ⟨_, rfl, h⟩

def j1_snap_Asm_Add (B : World) (ro : AH) (Q : Int → AH → Prop) (σ : AH) : Prop :=
 Q 0 σ

def j15_snap_Asm_Add (B : World) (ro : AH) (a0 : Option Addr) (a1 : Sl) (x7_8 : Nat) (x13_3 : Int) (Q : Int → AH → Prop) (Y2 : (Int) → AH → Prop) (x74_16 : Bool) (σ : AH) : Prop :=
 if x74_16 = true then
  Q 51 σ
 else
 ∃ p76_17 : Addr, a0 = some p76_17 ∧
 ∃ (x78_18 : Option Nat), acell ro σ (p76_17.add 4) = some (.map x78_18) ∧
 ∃ (x80_19 : Int), acell ro σ ((⟨x7_8, 0, none⟩ : Addr).add 4) = some (.int .i64 x80_19) ∧
 ∃ (x82_20 : Sl), acell ro σ ((⟨x7_8, 0, none⟩ : Addr).add 5) = some (Sl.v x82_20) ∧
 awp Tryz.prog ro (Instr.mapUpdate 112 (.map x78_18) (.int .i64 x80_19) (Sl.v x82_20)) (fun _ σ =>
  Y2 (IntKind.i64.wrap (x13_3 + 1)) σ) σ

def j9_snap_Asm_Add (B : World) (ro : AH) (a0 : Option Addr) (a1 : Sl) (x7_8 : Nat) (x13_3 : Int) (Q : Int → AH → Prop) (Y2 : (Int) → AH → Prop) (σ : AH) : Prop :=
 ∃ p41_10 : Addr, a0 = some p41_10 ∧
 ∃ (x43_11 : Option Nat), acell ro σ (p41_10.add 4) = some (.map x43_11) ∧
 ∃ (x45_12 : Int), acell ro σ ((⟨x7_8, 0, none⟩ : Addr).add 4) = some (.int .i64 x45_12) ∧
 awp Tryz.prog ro (Instr.lookup 112 (.map x43_11) (.int .i64 x45_12) true) (fun v σ =>
  (∃ (x46_13 : Sl) (x46_14 : Bool), v = .tuple #[Sl.v x46_13, .bool x46_14] ∧
   ∃ p52_21 : Addr, a0 = some p52_21 ∧
   ∃ (x50_22a : Int) (x50_22b : Int) (x50_22c : Int), cellsAt ro σ ⟨x7_8, 0, none⟩ 0 [.int .i64 x50_22a, .int .i64 x50_22b, .int .i64 x50_22c] ∧
   ∃ (x54_23a : Int) (x54_23b : Int) (x54_23c : Int), cellsAt ro σ p52_21 0 [.int .i64 x54_23a, .int .i64 x54_23b, .int .i64 x54_23c] ∧
   awp Tryz.prog ro (do eqGuard .neq 90 (.tmp 50) (.tmp 54) (.agg #[.int .i64 x50_22a, .int .i64 x50_22b, .int .i64 x50_22c]) (.agg #[.int .i64 x54_23a, .int .i64 x54_23b, .int .i64 x54_23c]); Go.binOp .neq 90 (.agg #[.int .i64 x50_22a, .int .i64 x50_22b, .int .i64 x50_22c]) (.agg #[.int .i64 x54_23a, .int .i64 x54_23b, .int .i64 x54_23c])) (fun v σ => ∃ x55_24 : Bool, v = .bool x55_24 ∧
    if x55_24 = true then
     j15_snap_Asm_Add B ro a0 a1 x7_8 x13_3 Q Y2 true σ
    else
    ∃ p60_25 : Addr, a0 = some p60_25 ∧
    ∃ (x58_26 : Int), acell ro σ ((⟨x7_8, 0, none⟩ : Addr).add 3) = some (.int .i64 x58_26) ∧
    ∃ (x62_27 : Int), acell ro σ (p60_25.add 3) = some (.int .i64 x62_27) ∧
    if ¬ (x58_26 = x62_27) then
     j15_snap_Asm_Add B ro a0 a1 x7_8 x13_3 Q Y2 true σ
    else
    if x46_14 = true then
     ∃ (x70_28 : Sl), acell ro σ ((⟨x7_8, 0, none⟩ : Addr).add 5) = some (Sl.v x70_28) ∧
     c_bytes_Equal B ro x46_13 x70_28 σ fun x71_29 σ =>
     j15_snap_Asm_Add B ro a0 a1 x7_8 x13_3 Q Y2 (!x71_29) σ
    else
    j15_snap_Asm_Add B ro a0 a1 x7_8 x13_3 Q Y2 false σ) σ)) σ

def l2_snap_Asm_Add (B : World) (ro : AH) (a0 : Option Addr) (a1 : Sl) (Q : Int → AH → Prop) : (Int) → AH → ((Int) → AH → Prop) → Prop := fun x13_3 σ Y2 =>
 if x13_3 < (a1.len : Int) then
  ∃ p15_4 : Addr, a1.a = some p15_4 ∧ (0 : Int) ≤ x13_3 ∧ x13_3 < (a1.len : Int) ∧
  ∃ (x16_5 : Sl), acell ro σ (p15_4.add (Int.toNat x13_3 * 1)) = some (Sl.v x16_5) ∧
  c_snap_readChunk B ro x16_5 σ fun x19_6a x19_6b x19_6c x19_6d x19_6e x19_6f x19_7 σ =>
  nw ro σ (.cells #[.int .i64 0, .int .i64 0, .int .i64 0, .int .i64 0, .int .i64 0, Sl.v (⟨none, 0, 0⟩ : Sl)] 116) fun x7_8 σ =>
  stN ⟨x7_8, 0, none⟩ (fun σ =>
   if ¬ (x19_7 = true) then
    Q 50 σ
   else
   ∃ p25_30 : Addr, a0 = some p25_30 ∧
   ∃ (x27_31 : Int), acell ro σ (p25_30.add 3) = some (.int .i64 x27_31) ∧
   if x27_31 = 0 then
    lent σ fun ψ σ =>
     ∃ (x34_32 : Int), acell (join ro ψ) (fun _ => none) ((⟨x7_8, 0, none⟩ : Addr).add 3) = some (.int .i64 x34_32) ∧
     ∃ (x32_33a : Int) (x32_33b : Int) (x32_33c : Int), cellsAt (join ro ψ) σ ⟨x7_8, 0, none⟩ 0 [.int .i64 x32_33a, .int .i64 x32_33b, .int .i64 x32_33c] ∧
     ∃ p35_34 : Addr, a0 = some p35_34 ∧
     stN p35_34 (fun σ =>
      ∃ p37_35 : Addr, a0 = some p37_35 ∧
      stN (p37_35.add 3) (fun σ =>
       (Disj ψ σ → (fun σ => 
        j9_snap_Asm_Add B ro a0 a1 x7_8 x13_3 Q Y2 σ) (join ψ σ))) [.int .i64 x34_32] 0 σ) [.int .i64 x32_33a, .int .i64 x32_33b, .int .i64 x32_33c] 0 σ
   else
   j9_snap_Asm_Add B ro a0 a1 x7_8 x13_3 Q Y2 σ) [.int .i64 x19_6a, .int .i64 x19_6b, .int .i64 x19_6c, .int .i64 x19_6d, .int .i64 x19_6e, Sl.v x19_6f] 0 σ
 else
 j1_snap_Asm_Add B ro Q σ

def f_snap_Asm_Add (B : World) (ro : AH) (a0 : Option Addr) (a1 : Sl) (σ : AH) (Q : Int → AH → Prop) : Prop :=
 lfpD (l2_snap_Asm_Add B ro a0 a1 Q ) (0) σ

set_option maxRecDepth 100000 in
set_option maxHeartbeats 4000000 in
theorem snap_Asm_Add_ok {B : World} {ro : AH} {a0 : Option Addr} {a1 : Sl} {σ : AH} {Q : Int → AH → Prop} (h : Sep ro σ → f_snap_Asm_Add B ro a0 a1 σ Q) : c_snap_Asm_Add B ro a0 a1 σ Q := by
  refine ACalls.of_sep fun hsep => ?_
  replace h := h hsep
  refine ACalls.of_body (args := [.pointer a0, Sl.v a1]) Tryz.func21 rfl (by rw [Tryz.ntmps21]; simp) ?_
  rw [Tryz.ntmps21]
  unfold f_snap_Asm_Add at h
  refine AW.seq ?_
  refine AW.reg ?_
  refine Lp (V_asg rfl rfl) rfl rfl ?_
  refine Lnil ?_
  refine thenN ?_
  refine AW.seqJ (fun fr σ => FrLe [] fr ∧ j1_snap_Asm_Add B ro Q σ) ?_ ?_
  · rintro fr σ ⟨hl, h⟩
    refine AW.weaken ?_ hl (HLe.refl _)
    unfold j1_snap_Asm_Add at h
    refine AW.seq ?_
    refine AW.reg ?_
    refine Lp (V_asg rfl rfl) rfl rfl ?_
    refine Lnil ?_
    refine thenN ?_
    refine AW.ret ?_
    exact bR1 Tryz.results21 rfl ⟨_, rfl, h⟩
  refine AW.seq ?_
  refine AW.reg ?_
  refine Lp (V_move rfl rfl) rfl rfl ?_
  refine Lp (V_lenL rfl rfl Tryz.underlying44 rfl rfl) rfl rfl ?_
  refine Lp (V_move rfl rfl) rfl rfl ?_
  refine Lnil ?_
  refine thenN ?_
  refine AW.block ?_
  refine ARound.loop (fr' := [(0, .pointer a0), (11, Sl.v a1), (12, .int .i64 (a1.len : Int)), (13, .int .i64 0)]) ?_ (FrLe.cons rfl (FrLe.cons rfl (FrLe.cons rfl (FrLe.cons rfl (FrLe.nil _)))))
  refine h (fun x13_3 σ => ARound _ _ _ _ _ _ [(0, .pointer a0), (11, Sl.v a1), (12, .int .i64 (a1.len : Int)), (13, .int .i64 x13_3)] σ) ?_
  rintro x13_3 σ Y2 hY2 h
  show AW _ _ _ _ _ _ _ _
  unfold l2_snap_Asm_Add at h
  refine AW.seq ?_
  refine AW.reg ?_
  refine Lp (V_lss rfl rfl rfl) rfl rfl ?_
  refine Lnil ?_
  refine thenN ?_
  refine AW.seq ?_
  refine AW.iff rfl decide_eq_true_iff h (fun h => ?_) (fun h => ?_)
  rotate_left
  · refine AW.exit ?_
    refine thenE ?_
    refine thenE ?_
    refine blockE ?_
    refine thenN ?_
    exact ⟨(FrLe.nil _), h⟩
  refine AW.skip ?_
  refine thenN ?_
  refine AW.seq ?_
  refine AW.block ?_
  refine AW.seq ?_
  refine AW.reg ?_
  obtain ⟨p15_4, ha, h0, h1, h⟩ := h
  refine Lp (V_ixA rfl Tryz.underlying44 ty22 (ixL rfl ha) rfl h0 h1) rfl rfl ?_
  obtain ⟨x16_5, hc, h⟩ := h
  refine Ls rfl rfl (X_ld rfl Tryz.underlying22 rfl rfl hc ?_)
  refine Lp (V_asg rfl rfl) rfl rfl ?_
  refine Lnil ?_
  refine thenN ?_
  refine AW.seq ?_
  refine AW.reg ?_
  refine Lp (V_move rfl rfl) rfl rfl ?_
  refine Ls rfl rfl (X_call rfl Tryz.func60 rfl rfl rfl (ACalls.mono h ?_))
  rintro v σ ⟨x19_6a, x19_6b, x19_6c, x19_6d, x19_6e, x19_6f, x19_7, rfl, h⟩
  refine Lp (V_move rfl rfl) rfl rfl ?_
  refine Lp (V_ext rfl rfl rfl) rfl rfl ?_
  refine Lp (V_ext rfl rfl rfl) rfl rfl ?_
  refine Ls rfl rfl (X_new (A_alloc rfl ty116) fun x7_8 g1 g2 => ?_)
  replace h := h x7_8 g1 g2
  refine Ls rfl rfl (X_st rfl ty116 rfl rfl rfl rfl (stN_mono h fun σ h => ?_))
  refine Lp (V_asg rfl rfl) rfl rfl ?_
  refine Lnil ?_
  refine thenN ?_
  refine AW.seq ?_
  refine AW.seq ?_
  refine AW.reg ?_
  refine Lp (V_move rfl rfl) rfl rfl ?_
  refine Lp (V_not rfl rfl) rfl rfl ?_
  refine Lnil ?_
  refine thenN ?_
  refine AW.iff rfl (bnot_iff Iff.rfl) h (fun h => ?_) (fun h => ?_)
  · refine AW.seq ?_
    refine AW.reg ?_
    refine Lp (V_asg rfl rfl) rfl rfl ?_
    refine Lnil ?_
    refine thenN ?_
    refine AW.ret ?_
    refine thenR ?_
    refine blockR ?_
    refine thenR ?_
    refine thenR ?_
    refine blockR ?_
    refine thenR ?_
    exact bR1 Tryz.results21 rfl ⟨_, rfl, h⟩
  refine AW.skip ?_
  refine thenN ?_
  refine AW.seqJ (fun fr σ => FrLe [(0, .pointer a0), (7, .pointer (some ⟨x7_8, 0, none⟩)), (11, Sl.v a1), (12, .int .i64 (a1.len : Int)), (13, .int .i64 x13_3)] fr ∧ j9_snap_Asm_Add B ro a0 a1 x7_8 x13_3 Q Y2 σ) ?_ ?_
  rotate_left
  · refine AW.seq ?_
    refine AW.reg ?_
    refine Lp (V_move rfl rfl) rfl rfl ?_
    obtain ⟨p25_30, hc, h⟩ := h
    refine Lp (V_nil rfl (by rw [← hc]; rfl)) rfl rfl ?_
    refine Lp (V_fld rfl Tryz.underlying114 rfl ty3 (by decide) rfl) rfl rfl ?_
    obtain ⟨x27_31, hc, h⟩ := h
    refine Ls rfl rfl (X_ld rfl Tryz.underlying3 rfl rfl hc ?_)
    refine Lp (V_eql rfl rfl rfl) rfl rfl ?_
    refine Lnil ?_
    refine thenN ?_
    refine AW.iff rfl decide_eq_true_iff h (fun h => ?_) (fun h => ?_)
    rotate_left
    · refine AW.skip ?_
      refine thenN ?_
      exact ⟨(FrLe.cons rfl (FrLe.cons rfl (FrLe.cons rfl (FrLe.cons rfl (FrLe.cons rfl (FrLe.nil _)))))), h⟩
    refine AW.drawnL (fun i => ([0, 0, 0, 3, 0, 0, 0, 0, 2, 0, 0, 2] : List Nat).getD i 2) [] [0, 1, 2, 4, 5, 3, 6, 7, 8, 9, 10, 11] Tryz.mixed h (by decide +kernel) ?_
    clear h
    intro ψ σ h
    refine Dp rfl rfl rfl rfl (V_move rfl rfl) ?_
    refine Dp rfl rfl rfl rfl (V_move rfl rfl) ?_
    refine Dp rfl rfl rfl rfl (V_fld rfl Tryz.underlying116 rfl ty90 (by decide) rfl) ?_
    refine Dp rfl rfl rfl rfl (V_fld rfl Tryz.underlying116 rfl ty3 (by decide) rfl) ?_
    obtain ⟨x34_32, hc, h⟩ := h
    refine Dp rfl rfl rfl rfl (V_ld rfl Tryz.underlying3 rfl rfl hc) ?_
    obtain ⟨x32_33a, x32_33b, x32_33c, hc, h⟩ := h
    refine Dr rfl rfl rfl rfl (R_lda rfl Tryz.underlying90 rfl ty90 rfl hc) ?_
    obtain ⟨p35_34, hc, h⟩ := h
    refine Dp rfl rfl rfl rfl (V_nil rfl (by rw [← hc]; rfl)) ?_
    refine Dp rfl rfl rfl rfl (V_fld rfl Tryz.underlying114 rfl ty90 (by decide) rfl) ?_
    refine Dg rfl rfl rfl rfl (X_st rfl ty90 rfl rfl rfl rfl (stN_mono h fun σ h => ?_))
    obtain ⟨p37_35, hc, h⟩ := h
    refine Dp rfl rfl rfl rfl (V_nil rfl (by rw [← hc]; rfl)) ?_
    refine Dp rfl rfl rfl rfl (V_fld rfl Tryz.underlying114 rfl ty3 (by decide) rfl) ?_
    refine Dg rfl rfl rfl rfl (X_st rfl ty3 rfl rfl rfl rfl (stN_mono h fun σ h => ?_))
    refine ⟨_, FrEq.refl _, fun hdj => ?_⟩
    replace h := h hdj
    refine thenN ?_
    exact ⟨(FrLe.cons rfl (FrLe.cons rfl (FrLe.cons rfl (FrLe.cons rfl (FrLe.cons rfl (FrLe.nil _)))))), h⟩
  rintro fr σ ⟨hl, h⟩
  refine AW.weaken ?_ hl (HLe.refl _)
  unfold j9_snap_Asm_Add at h
  refine AW.seq ?_
  refine AW.drawn0 (fun i => ([0, 0, 0, 3, 0, 3, 2, 0, 0, 0, 0, 0] : List Nat).getD i 2) [] [0, 1, 2, 4, 3, 5, 6, 7, 8, 9, 10, 11] Tryz.mixed (by decide +kernel) ?_
  refine Dp rfl rfl rfl rfl (V_move rfl rfl) ?_
  obtain ⟨p41_10, hc, h⟩ := h
  refine Dp rfl rfl rfl rfl (V_nil rfl (by rw [← hc]; rfl)) ?_
  refine Dp rfl rfl rfl rfl (V_fld rfl Tryz.underlying114 rfl ty112 (by decide) rfl) ?_
  refine Dp rfl rfl rfl rfl (V_fld rfl Tryz.underlying116 rfl ty3 (by decide) rfl) ?_
  obtain ⟨x43_11, hc, h⟩ := h
  refine Dr rfl rfl rfl rfl (R_ld rfl Tryz.underlying112 rfl rfl hc) ?_
  obtain ⟨x45_12, hc, h⟩ := h
  refine Dr rfl rfl rfl rfl (R_ld rfl Tryz.underlying3 rfl rfl hc) ?_
  refine Dg rfl rfl rfl rfl (X_lkp rfl rfl rfl (awp_mono _ h ?_))
  rintro v σ ⟨x46_13, x46_14, rfl, h⟩
  refine Dp rfl rfl rfl rfl (V_move rfl rfl) ?_
  refine Dp rfl rfl rfl rfl (V_ext rfl rfl rfl) ?_
  refine Dp rfl rfl rfl rfl (V_ext rfl rfl rfl) ?_
  refine Dp rfl rfl rfl rfl (V_asg rfl rfl) ?_
  refine Dp rfl rfl rfl rfl (V_asg rfl rfl) ?_
  refine Dend ?_
  refine thenN ?_
  refine AW.seq ?_
  refine AW.seqJ (fun fr σ => ∃ (x74_16 : Bool), FrLe [(0, .pointer a0), (7, .pointer (some ⟨x7_8, 0, none⟩)), (11, Sl.v a1), (12, .int .i64 (a1.len : Int)), (13, .int .i64 x13_3), (74, .bool x74_16)] fr ∧ j15_snap_Asm_Add B ro a0 a1 x7_8 x13_3 Q Y2 x74_16 σ) ?_ ?_
  · rintro fr σ ⟨x74_16, hl, h⟩
    refine AW.weaken ?_ hl (HLe.refl _)
    unfold j15_snap_Asm_Add at h
    refine AW.iff rfl Iff.rfl h (fun h => ?_) (fun h => ?_)
    · refine AW.seq ?_
      refine AW.reg ?_
      refine Lp (V_asg rfl rfl) rfl rfl ?_
      refine Lnil ?_
      refine thenN ?_
      refine AW.ret ?_
      refine thenR ?_
      refine blockR ?_
      refine thenR ?_
      refine thenR ?_
      refine blockR ?_
      refine thenR ?_
      exact bR1 Tryz.results21 rfl ⟨_, rfl, h⟩
    refine AW.skip ?_
    refine thenN ?_
    refine AW.drawn0 (fun i => ([0, 0, 0, 3, 0, 3, 0, 3, 2] : List Nat).getD i 2) [] [0, 1, 2, 4, 6, 3, 5, 7, 8] Tryz.mixed (by decide +kernel) ?_
    refine Dp rfl rfl rfl rfl (V_move rfl rfl) ?_
    obtain ⟨p76_17, hc, h⟩ := h
    refine Dp rfl rfl rfl rfl (V_nil rfl (by rw [← hc]; rfl)) ?_
    refine Dp rfl rfl rfl rfl (V_fld rfl Tryz.underlying114 rfl ty112 (by decide) rfl) ?_
    refine Dp rfl rfl rfl rfl (V_fld rfl Tryz.underlying116 rfl ty3 (by decide) rfl) ?_
    refine Dp rfl rfl rfl rfl (V_fld rfl Tryz.underlying116 rfl ty22 (by decide) rfl) ?_
    obtain ⟨x78_18, hc, h⟩ := h
    refine Dr rfl rfl rfl rfl (R_ld rfl Tryz.underlying112 rfl rfl hc) ?_
    obtain ⟨x80_19, hc, h⟩ := h
    refine Dr rfl rfl rfl rfl (R_ld rfl Tryz.underlying3 rfl rfl hc) ?_
    obtain ⟨x82_20, hc, h⟩ := h
    refine Dr rfl rfl rfl rfl (R_ld rfl Tryz.underlying22 rfl rfl hc) ?_
    refine Dg rfl rfl rfl rfl (X_mup (.inl rfl) rfl rfl rfl (awp_mono _ h ?_))
    rintro _ σ h
    refine Dend ?_
    refine blockN ?_
    refine thenN ?_
    refine AW.reg ?_
    refine Lp (V_add rfl rfl rfl) rfl rfl ?_
    refine Lp (V_move rfl rfl) rfl rfl ?_
    refine Lnil ?_
    refine thenN ?_
    refine ARound.head (fr' := [(0, .pointer a0), (11, Sl.v a1), (12, .int .i64 (a1.len : Int)), (13, .int .i64 (IntKind.i64.wrap (x13_3 + 1)))]) ?_ (FrLe.cons rfl (FrLe.cons rfl (FrLe.cons rfl (FrLe.cons rfl (FrLe.nil _)))))
    exact hY2 _ _ h
  refine AW.drawn0 (fun i => ([0, 3, 0, 0, 0, 3, 2, 0, 0, 3, 0, 0, 0, 3, 0, 0, 0, 0, 0, 0, 0, 3, 2, 0, 0, 0] : List Nat).getD i 2) [(1, 6), (1, 7), (1, 15), (1, 16), (1, 17), (1, 18), (1, 19), (1, 22), (5, 6), (5, 7), (5, 15), (5, 16), (5, 17), (5, 18), (5, 19), (5, 22), (6, 7), (6, 8), (6, 9), (6, 10), (6, 11), (6, 12), (6, 13), (6, 15), (6, 16), (6, 17), (6, 18), (6, 19), (6, 20), (6, 21), (6, 22), (9, 14), (9, 15), (9, 16), (9, 17), (9, 18), (9, 19), (9, 22), (13, 14), (13, 15), (13, 16), (13, 17), (13, 18), (13, 19), (13, 22)] [0, 2, 3, 4, 1, 5, 6, 7, 8, 10, 11, 12, 9, 13, 14, 15, 16, 17, 18, 19, 20, 21, 22, 23, 24, 25] Tryz.mixed (by decide +kernel) ?_
  refine Dp rfl rfl rfl rfl (V_fld rfl Tryz.underlying116 rfl ty90 (by decide) rfl) ?_
  refine Dp rfl rfl rfl rfl (V_move rfl rfl) ?_
  obtain ⟨p52_21, hc, h⟩ := h
  refine Dp rfl rfl rfl rfl (V_nil rfl (by rw [← hc]; rfl)) ?_
  refine Dp rfl rfl rfl rfl (V_fld rfl Tryz.underlying114 rfl ty90 (by decide) rfl) ?_
  obtain ⟨x50_22a, x50_22b, x50_22c, hc, h⟩ := h
  refine Dr rfl rfl rfl rfl (R_lda rfl Tryz.underlying90 rfl ty90 rfl hc) ?_
  obtain ⟨x54_23a, x54_23b, x54_23c, hc, h⟩ := h
  refine Dr rfl rfl rfl rfl (R_lda rfl Tryz.underlying90 rfl ty90 rfl hc) ?_
  refine Dg rfl rfl rfl rfl (X_eq rfl rfl rfl (awp_mono _ h ?_))
  rintro v σ ⟨x55_24, rfl, h⟩
  refine Dp rfl rfl rfl rfl (V_move rfl rfl) ?_
  refine splitP x55_24 Iff.rfl h ?_ ?_
  · intro h e7
    refine Dpn rfl rfl rfl rfl rfl (.inl (by rw [e7]; rfl)) rfl ?_
    refine Dpn rfl rfl rfl rfl rfl (.inl (by rw [e7]; rfl)) rfl ?_
    refine Dpn rfl rfl rfl rfl rfl (.inl (by rw [e7]; rfl)) rfl ?_
    refine Dpn rfl rfl rfl rfl rfl (.inl (by rw [e7]; rfl)) rfl ?_
    refine Drn rfl rfl rfl rfl rfl (.inl (by rw [e7]; rfl)) rfl ?_
    refine Drn rfl rfl rfl rfl rfl (.inl (by rw [e7]; rfl)) rfl ?_
    refine Dpn rfl rfl rfl rfl rfl (.inl (by rw [e7]; rfl)) rfl ?_
    refine Dp rfl rfl rfl rfl (V_pickT rfl (evb e7) rfl) ?_
    refine Dp rfl rfl rfl rfl (V_move rfl rfl) ?_
    refine Dpn rfl rfl rfl rfl rfl (.inl rfl) rfl ?_
    refine Dpn rfl rfl rfl rfl rfl (.inl rfl) rfl ?_
    refine Dpn rfl rfl rfl rfl rfl (.inr rfl) rfl ?_
    refine Dpn rfl rfl rfl rfl rfl (.inr rfl) rfl ?_
    refine Drn rfl rfl rfl rfl rfl (.inr rfl) rfl ?_
    refine Dgn rfl rfl rfl rfl rfl (.inr rfl) rfl ?_
    refine Dpn rfl rfl rfl rfl rfl (.inr rfl) rfl ?_
    refine Dpn rfl rfl rfl rfl rfl (.inl rfl) rfl ?_
    refine Dp rfl rfl rfl rfl (V_pickT rfl (evb rfl) rfl) ?_
    refine Dend ?_
    refine thenN ?_
    exact ⟨_, (FrLe.cons rfl (FrLe.cons rfl (FrLe.cons rfl (FrLe.cons rfl (FrLe.cons rfl (FrLe.cons rfl (FrLe.nil _))))))), h⟩
  intro h e7
  refine Dpy rfl rfl rfl rfl rfl e7 rfl (V_fld rfl Tryz.underlying116 rfl ty3 (by decide) rfl) ?_
  refine Dpy rfl rfl rfl rfl rfl e7 rfl (V_move rfl rfl) ?_
  obtain ⟨p60_25, hc, h⟩ := h
  refine Dpy rfl rfl rfl rfl rfl e7 rfl (V_nil rfl (by rw [← hc]; rfl)) ?_
  refine Dpy rfl rfl rfl rfl rfl e7 rfl (V_fld rfl Tryz.underlying114 rfl ty3 (by decide) rfl) ?_
  obtain ⟨x58_26, hc, h⟩ := h
  refine Dry rfl rfl rfl rfl rfl e7 rfl (R_ld rfl Tryz.underlying3 rfl rfl hc) ?_
  obtain ⟨x62_27, hc, h⟩ := h
  refine Dry rfl rfl rfl rfl rfl e7 rfl (R_ld rfl Tryz.underlying3 rfl rfl hc) ?_
  refine Dpy rfl rfl rfl rfl rfl e7 rfl (V_neq rfl rfl rfl) ?_
  refine Dp rfl rfl rfl rfl (V_pickF rfl (evb e7) rfl) ?_
  refine Dp rfl rfl rfl rfl (V_move rfl rfl) ?_
  refine splitP (!(decide (x58_26 = x62_27))) (bnot_iff decide_eq_true_iff) h ?_ ?_
  · intro h e16
    refine Dpn rfl rfl rfl rfl rfl (.inl (by rw [e16]; rfl)) rfl ?_
    refine Dpn rfl rfl rfl rfl rfl (.inl (by rw [e16]; rfl)) rfl ?_
    refine Dpn rfl rfl rfl rfl rfl (.inr rfl) rfl ?_
    refine Dpn rfl rfl rfl rfl rfl (.inr rfl) rfl ?_
    refine Drn rfl rfl rfl rfl rfl (.inr rfl) rfl ?_
    refine Dgn rfl rfl rfl rfl rfl (.inr rfl) rfl ?_
    refine Dpn rfl rfl rfl rfl rfl (.inr rfl) rfl ?_
    refine Dpn rfl rfl rfl rfl rfl (.inl (by rw [e16]; rfl)) rfl ?_
    refine Dp rfl rfl rfl rfl (V_pickT rfl (evb e16) rfl) ?_
    refine Dend ?_
    refine thenN ?_
    exact ⟨_, (FrLe.cons rfl (FrLe.cons rfl (FrLe.cons rfl (FrLe.cons rfl (FrLe.cons rfl (FrLe.cons rfl (FrLe.nil _))))))), h⟩
  intro h e16
  refine Dpy rfl rfl rfl rfl rfl e16 rfl (V_move rfl rfl) ?_
  refine Dpy rfl rfl rfl rfl rfl e16 rfl (V_move rfl rfl) ?_
  refine splitP x46_14 Iff.rfl h ?_ ?_
  rotate_left
  · intro h e18
    refine Dpn rfl rfl rfl rfl rfl (.inl (by rw [e18]; rfl)) rfl ?_
    refine Dpn rfl rfl rfl rfl rfl (.inl (by rw [e18]; rfl)) rfl ?_
    refine Drn rfl rfl rfl rfl rfl (.inl (by rw [e18]; rfl)) rfl ?_
    refine Dgn rfl rfl rfl rfl rfl (.inl (by rw [e18]; rfl)) rfl ?_
    refine Dpn rfl rfl rfl rfl rfl (.inl (by rw [e18]; rfl)) rfl ?_
    refine Dpy rfl rfl rfl rfl rfl e16 rfl (V_pickF rfl (evb e18) rfl) ?_
    refine Dp rfl rfl rfl rfl (V_pickF rfl (evb e16) rfl) ?_
    refine Dend ?_
    refine thenN ?_
    exact ⟨_, (FrLe.cons rfl (FrLe.cons rfl (FrLe.cons rfl (FrLe.cons rfl (FrLe.cons rfl (FrLe.cons rfl (FrLe.nil _))))))), h⟩
  intro h e18
  refine Dpy rfl rfl rfl rfl rfl e18 rfl (V_move rfl rfl) ?_
  refine Dpy rfl rfl rfl rfl rfl e18 rfl (V_fld rfl Tryz.underlying116 rfl ty22 (by decide) rfl) ?_
  obtain ⟨x70_28, hc, h⟩ := h
  refine Dry rfl rfl rfl rfl rfl e18 rfl (R_ld rfl Tryz.underlying22 rfl rfl hc) ?_
  refine Dgy rfl rfl rfl rfl rfl e18 rfl (X_call rfl Tryz.func61 rfl rfl rfl (ACalls.mono h ?_))
  rintro v σ ⟨x71_29, rfl, h⟩
  refine Dpy rfl rfl rfl rfl rfl e18 rfl (V_not rfl rfl) ?_
  refine Dpy rfl rfl rfl rfl rfl e16 rfl (V_pickT rfl (evb e18) rfl) ?_
  refine Dp rfl rfl rfl rfl (V_pickF rfl (evb e16) rfl) ?_
  refine Dend ?_
  refine thenN ?_
  exact ⟨_, (FrLe.cons rfl (FrLe.cons rfl (FrLe.cons rfl (FrLe.cons rfl (FrLe.cons rfl (FrLe.cons rfl (FrLe.nil _))))))), h⟩

def j4_snap_Asm_Done (B : World) (ro : AH) (a0 : Option Addr) (Q : Int → Sl → Bool → AH → Prop) (x3_5 : Sl) (σ : AH) : Prop :=
 lent σ fun ψ σ =>
  ∃ p43_6 : Addr, a0 = some p43_6 ∧
  ∃ (x46_7a : Int) (x46_7b : Int), cellsAt (join ro ψ) (fun _ => none) p43_6 0 [.int .i64 x46_7a, .int .i64 x46_7b] ∧
  c_snap_digestOf B (join ro ψ) x3_5 σ fun x41_8a x41_8b σ =>
  awp Tryz.prog (join ro ψ) (do eqGuard .neq 87 (.tmp 41) (.tmp 46) (.agg #[.int .i64 x41_8a, .int .i64 x41_8b]) (.agg #[.int .i64 x46_7a, .int .i64 x46_7b]); Go.binOp .neq 87 (.agg #[.int .i64 x41_8a, .int .i64 x41_8b]) (.agg #[.int .i64 x46_7a, .int .i64 x46_7b])) (fun v σ => ∃ x47_9 : Bool, v = .bool x47_9 ∧
   (Disj ψ σ → (fun σ => 
    if x47_9 = true then
     Q 0 (⟨none, 0, 0⟩ : Sl) false σ
    else
    ∃ p49_10 : Addr, a0 = some p49_10 ∧
    ∃ (x52_11 : Int), acell ro σ (p49_10.add 2) = some (.int .i64 x52_11) ∧
    Q x52_11 x3_5 true σ) (join ψ σ))) σ

def l14_snap_Asm_Done (B : World) (ro : AH) (a0 : Option Addr) (x27_13 : Int) (Q : Int → Sl → Bool → AH → Prop) : (Sl × Int) → AH → ((Sl × Int) → AH → Prop) → Prop := fun ⟨x3_15, x28_16⟩ σ Y14 =>
 if x28_16 < x27_13 then
  ∃ p33_17 : Addr, a0 = some p33_17 ∧
  ∃ (x35_18 : Option Nat), acell ro σ (p33_17.add 4) = some (.map x35_18) ∧
  awp Tryz.prog ro (Instr.lookup 112 (.map x35_18) (.int .i64 x28_16) false) (fun v σ =>
   (∃ (x37_19 : Sl), v = Sl.v x37_19 ∧
    awp Tryz.prog ro (Builtin.append_ #[22, 22] 22 #[Sl.v x3_15, Sl.v x37_19]) (fun v σ => ∃ (x38_20 : Sl), v = Sl.v x38_20 ∧
     Y14 (x38_20, IntKind.i64.wrap (x28_16 + 1)) σ) σ)) σ
 else
 j4_snap_Asm_Done B ro a0 Q x3_15 σ

def j1_snap_Asm_Done (B : World) (ro : AH) (a0 : Option Addr) (Q : Int → Sl → Bool → AH → Prop) (x22_2 : Bool) (σ : AH) : Prop :=
 if x22_2 = true then
  Q 0 (⟨none, 0, 0⟩ : Sl) false σ
 else
 nw ro σ (.cells #[] 5) fun x23_3 σ =>
 ∃ p25_12 : Addr, a0 = some p25_12 ∧
 ∃ (x27_13 : Int), acell ro σ (p25_12.add 3) = some (.int .i64 x27_13) ∧
 lfpD (l14_snap_Asm_Done B ro a0 x27_13 Q ) ((⟨some ⟨x23_3, 0, none⟩, 0, 0⟩ : Sl), 0) σ

def f_snap_Asm_Done (B : World) (ro : AH) (a0 : Option Addr) (σ : AH) (Q : Int → Sl → Bool → AH → Prop) : Prop :=
 lent σ fun ψ σ =>
  ∃ p7_21 : Addr, a0 = some p7_21 ∧
  ∃ (x9_22 : Int), acell (join ro ψ) σ (p7_21.add 3) = some (.int .i64 x9_22) ∧
  if x9_22 = 0 then
   (Disj ψ σ → (fun σ => 
    j1_snap_Asm_Done B ro a0 Q true σ) (join ψ σ))
  else
  ∃ p13_23 : Addr, a0 = some p13_23 ∧
  ∃ p18_24 : Addr, a0 = some p18_24 ∧
  ∃ (x20_25 : Int), acell (join ro ψ) (fun _ => none) (p18_24.add 3) = some (.int .i64 x20_25) ∧
  ∃ (x15_26 : Option Nat), acell (join ro ψ) σ (p13_23.add 4) = some (.map x15_26) ∧
  awp Tryz.prog (join ro ψ) (Builtin.len_ #[112] 3 #[.map x15_26]) (fun v σ => ∃ (x16_27 : Int), v = .int .i64 x16_27 ∧
   (Disj ψ σ → (fun σ => 
    j1_snap_Asm_Done B ro a0 Q (decide (x16_27 < x20_25)) σ) (join ψ σ))) σ

set_option maxRecDepth 100000 in
set_option maxHeartbeats 4000000 in
theorem snap_Asm_Done_ok {B : World} {ro : AH} {a0 : Option Addr} {σ : AH} {Q : Int → Sl → Bool → AH → Prop} (h : Sep ro σ → f_snap_Asm_Done B ro a0 σ Q) : c_snap_Asm_Done B ro a0 σ Q := by
  refine ACalls.of_sep fun hsep => ?_
  replace h := h hsep
  refine ACalls.of_body (args := [.pointer a0]) Tryz.func23 rfl (by rw [Tryz.ntmps23]; simp) ?_
  rw [Tryz.ntmps23]
  unfold f_snap_Asm_Done at h
  refine AW.seq ?_
  refine AW.reg ?_
  refine Lp (V_asg rfl rfl) rfl rfl ?_
  refine Lp (V_asg rfl rfl) rfl rfl ?_
  refine Lp (V_asg rfl rfl) rfl rfl ?_
  refine Lnil ?_
  refine thenN ?_
  refine AW.seq ?_
  refine AW.seqJ (fun fr σ => ∃ (x22_2 : Bool), FrLe [(0, .pointer a0), (22, .bool x22_2)] fr ∧ j1_snap_Asm_Done B ro a0 Q x22_2 σ) ?_ ?_
  rotate_left
  · refine AW.drawnL (fun i => ([0, 0, 0, 3, 0, 0, 0, 0, 0, 3, 2, 0, 0, 0, 0, 0, 0] : List Nat).getD i 2) [(3, 4), (3, 5), (3, 6), (3, 7), (3, 8), (3, 9), (3, 10)] [0, 1, 2, 3, 4, 5, 6, 7, 8, 11, 12, 13, 14, 9, 10, 15, 16] Tryz.mixed h (by decide +kernel) ?_
    clear h
    intro ψ σ h
    refine Dp rfl rfl rfl rfl (V_move rfl rfl) ?_
    obtain ⟨p7_21, hc, h⟩ := h
    refine Dp rfl rfl rfl rfl (V_nil rfl (by rw [← hc]; rfl)) ?_
    refine Dp rfl rfl rfl rfl (V_fld rfl Tryz.underlying114 rfl ty3 (by decide) rfl) ?_
    obtain ⟨x9_22, hc, h⟩ := h
    refine Dr rfl rfl rfl rfl (R_ld rfl Tryz.underlying3 rfl rfl hc) ?_
    refine Dp rfl rfl rfl rfl (V_eql rfl rfl rfl) ?_
    refine Dp rfl rfl rfl rfl (V_move rfl rfl) ?_
    refine splitP (decide (x9_22 = 0)) decide_eq_true_iff h ?_ ?_
    · intro h e5
      refine Dpn rfl rfl rfl rfl rfl (.inl (by rw [e5]; rfl)) rfl ?_
      refine Dpn rfl rfl rfl rfl rfl (.inl (by rw [e5]; rfl)) rfl ?_
      refine Dpn rfl rfl rfl rfl rfl (.inl (by rw [e5]; rfl)) rfl ?_
      refine Dpn rfl rfl rfl rfl rfl (.inl (by rw [e5]; rfl)) rfl ?_
      refine Dpn rfl rfl rfl rfl rfl (.inl (by rw [e5]; rfl)) rfl ?_
      refine Dpn rfl rfl rfl rfl rfl (.inl (by rw [e5]; rfl)) rfl ?_
      refine Dpn rfl rfl rfl rfl rfl (.inl (by rw [e5]; rfl)) rfl ?_
      refine Drn rfl rfl rfl rfl rfl (.inl (by rw [e5]; rfl)) rfl ?_
      refine Dgn rfl rfl rfl rfl rfl (.inl (by rw [e5]; rfl)) rfl ?_
      refine Dpn rfl rfl rfl rfl rfl (.inl (by rw [e5]; rfl)) rfl ?_
      refine Dp rfl rfl rfl rfl (V_pickT rfl (evb e5) rfl) ?_
      refine ⟨_, FrEq.refl _, fun hdj => ?_⟩
      replace h := h hdj
      refine thenN ?_
      exact ⟨_, (FrLe.cons rfl (FrLe.cons rfl (FrLe.nil _))), h⟩
    intro h e5
    refine Dpy rfl rfl rfl rfl rfl e5 rfl (V_move rfl rfl) ?_
    obtain ⟨p13_23, hc, h⟩ := h
    refine Dpy rfl rfl rfl rfl rfl e5 rfl (V_nil rfl (by rw [← hc]; rfl)) ?_
    refine Dpy rfl rfl rfl rfl rfl e5 rfl (V_fld rfl Tryz.underlying114 rfl ty112 (by decide) rfl) ?_
    refine Dpy rfl rfl rfl rfl rfl e5 rfl (V_move rfl rfl) ?_
    obtain ⟨p18_24, hc, h⟩ := h
    refine Dpy rfl rfl rfl rfl rfl e5 rfl (V_nil rfl (by rw [← hc]; rfl)) ?_
    refine Dpy rfl rfl rfl rfl rfl e5 rfl (V_fld rfl Tryz.underlying114 rfl ty3 (by decide) rfl) ?_
    obtain ⟨x20_25, hc, h⟩ := h
    refine Dpy rfl rfl rfl rfl rfl e5 rfl (V_ld rfl Tryz.underlying3 rfl rfl hc) ?_
    obtain ⟨x15_26, hc, h⟩ := h
    refine Dry rfl rfl rfl rfl rfl e5 rfl (R_ld rfl Tryz.underlying112 rfl rfl hc) ?_
    refine Dgy rfl rfl rfl rfl rfl e5 rfl (X_bi (s := Builtin.len_ #[112] 3 #[.map x15_26]) rfl rfl (fun _ => rfl) (awp_mono _ h ?_))
    rintro v σ ⟨x16_27, rfl, h⟩
    refine Dpy rfl rfl rfl rfl rfl e5 rfl (V_lss rfl rfl rfl) ?_
    refine Dp rfl rfl rfl rfl (V_pickF rfl (evb e5) rfl) ?_
    refine ⟨_, FrEq.refl _, fun hdj => ?_⟩
    replace h := h hdj
    refine thenN ?_
    exact ⟨_, (FrLe.cons rfl (FrLe.cons rfl (FrLe.nil _))), h⟩
  rintro fr σ ⟨x22_2, hl, h⟩
  refine AW.weaken ?_ hl (HLe.refl _)
  unfold j1_snap_Asm_Done at h
  refine AW.iff rfl Iff.rfl h (fun h => ?_) (fun h => ?_)
  · refine AW.seq ?_
    refine AW.reg ?_
    refine Lp (V_asg rfl rfl) rfl rfl ?_
    refine Lp (V_asg rfl rfl) rfl rfl ?_
    refine Lp (V_asg rfl rfl) rfl rfl ?_
    refine Lnil ?_
    refine thenN ?_
    refine AW.ret ?_
    refine thenR ?_
    exact bR3 Tryz.results23 rfl rfl rfl ⟨_, _, _, rfl, h⟩
  refine AW.skip ?_
  refine thenN ?_
  refine AW.seq ?_
  refine AW.reg ?_
  refine Ls rfl rfl (X_new (A_bsl (vs := []) (cs := #[]) rfl Tryz.underlying22 ty5 (by decide) rfl rfl) fun x23_3 g1 g2 => ?_)
  replace h := h x23_3 g1 g2
  refine Lp (V_asg rfl rfl) rfl rfl ?_
  refine Lnil ?_
  refine thenN ?_
  refine AW.seqJ (fun fr σ => ∃ (x3_5 : Sl), FrLe [(0, .pointer a0), (3, Sl.v x3_5)] fr ∧ j4_snap_Asm_Done B ro a0 Q x3_5 σ) ?_ ?_
  · rintro fr σ ⟨x3_5, hl, h⟩
    refine AW.weaken ?_ hl (HLe.refl _)
    unfold j4_snap_Asm_Done at h
    refine AW.seq ?_
    refine AW.seq ?_
    refine AW.drawnL (fun i => ([0, 2, 0, 0, 0, 0, 0, 2] : List Nat).getD i 2) [] [0, 2, 3, 4, 5, 6, 1, 7] Tryz.mixed h (by decide +kernel) ?_
    clear h
    intro ψ σ h
    refine Dp rfl rfl rfl rfl (V_move rfl rfl) ?_
    refine Dp rfl rfl rfl rfl (V_move rfl rfl) ?_
    obtain ⟨p43_6, hc, h⟩ := h
    refine Dp rfl rfl rfl rfl (V_nil rfl (by rw [← hc]; rfl)) ?_
    refine Dp rfl rfl rfl rfl (V_fld rfl Tryz.underlying114 rfl ty90 (by decide) rfl) ?_
    refine Dp rfl rfl rfl rfl (V_fld rfl Tryz.underlying90 rfl ty87 (by decide) rfl) ?_
    obtain ⟨x46_7a, x46_7b, hc, h⟩ := h
    refine Dp rfl rfl rfl rfl (V_lda rfl Tryz.underlying87 rfl ty87 rfl hc) ?_
    refine Dg rfl rfl rfl rfl (X_call rfl Tryz.func41 rfl rfl rfl (ACalls.mono h ?_))
    rintro v σ ⟨x41_8a, x41_8b, rfl, h⟩
    refine Dg rfl rfl rfl rfl (X_eq rfl rfl rfl (awp_mono _ h ?_))
    rintro v σ ⟨x47_9, rfl, h⟩
    refine ⟨_, FrEq.refl _, fun hdj => ?_⟩
    replace h := h hdj
    refine thenN ?_
    refine AW.iff rfl Iff.rfl h (fun h => ?_) (fun h => ?_)
    · refine AW.seq ?_
      refine AW.reg ?_
      refine Lp (V_asg rfl rfl) rfl rfl ?_
      refine Lp (V_asg rfl rfl) rfl rfl ?_
      refine Lp (V_asg rfl rfl) rfl rfl ?_
      refine Lnil ?_
      refine thenN ?_
      refine AW.ret ?_
      refine thenR ?_
      exact bR3 Tryz.results23 rfl rfl rfl ⟨_, _, _, rfl, h⟩
    refine AW.skip ?_
    refine thenN ?_
    refine AW.seq ?_
    refine AW.reg ?_
    refine Lp (V_move rfl rfl) rfl rfl ?_
    obtain ⟨p49_10, hc, h⟩ := h
    refine Lp (V_nil rfl (by rw [← hc]; rfl)) rfl rfl ?_
    refine Lp (V_fld rfl Tryz.underlying114 rfl ty90 (by decide) rfl) rfl rfl ?_
    refine Lp (V_fld rfl Tryz.underlying90 rfl ty3 (by decide) rfl) rfl rfl ?_
    obtain ⟨x52_11, hc, h⟩ := h
    refine Ls rfl rfl (X_ld rfl Tryz.underlying3 rfl rfl hc ?_)
    refine Lp (V_move rfl rfl) rfl rfl ?_
    refine Lp (V_asg rfl rfl) rfl rfl ?_
    refine Lp (V_asg rfl rfl) rfl rfl ?_
    refine Lp (V_asg rfl rfl) rfl rfl ?_
    refine Lnil ?_
    refine thenN ?_
    refine AW.ret ?_
    exact bR3 Tryz.results23 rfl rfl rfl ⟨_, _, _, rfl, h⟩
  refine AW.seq ?_
  refine AW.reg ?_
  refine Lp (V_move rfl rfl) rfl rfl ?_
  obtain ⟨p25_12, hc, h⟩ := h
  refine Lp (V_nil rfl (by rw [← hc]; rfl)) rfl rfl ?_
  refine Lp (V_fld rfl Tryz.underlying114 rfl ty3 (by decide) rfl) rfl rfl ?_
  obtain ⟨x27_13, hc, h⟩ := h
  refine Ls rfl rfl (X_ld rfl Tryz.underlying3 rfl rfl hc ?_)
  refine Lp (V_move rfl rfl) rfl rfl ?_
  refine Lnil ?_
  refine thenN ?_
  refine AW.block ?_
  refine ARound.loop (fr' := [(0, .pointer a0), (27, .int .i64 x27_13), (3, Sl.v (⟨some ⟨x23_3, 0, none⟩, 0, 0⟩ : Sl)), (28, .int .i64 0)]) ?_ (FrLe.cons rfl (FrLe.cons rfl (FrLe.cons rfl (FrLe.cons rfl (FrLe.nil _)))))
  refine h (fun ⟨x3_15, x28_16⟩ σ => ARound _ _ _ _ _ _ [(0, .pointer a0), (27, .int .i64 x27_13), (3, Sl.v x3_15), (28, .int .i64 x28_16)] σ) ?_
  rintro ⟨x3_15, x28_16⟩ σ Y14 hY14 h
  show AW _ _ _ _ _ _ _ _
  unfold l14_snap_Asm_Done at h
  dsimp only at h
  refine AW.seq ?_
  refine AW.reg ?_
  refine Lp (V_lss rfl rfl rfl) rfl rfl ?_
  refine Lnil ?_
  refine thenN ?_
  refine AW.seq ?_
  refine AW.iff rfl decide_eq_true_iff h (fun h => ?_) (fun h => ?_)
  rotate_left
  · refine AW.exit ?_
    refine thenE ?_
    refine thenE ?_
    refine blockE ?_
    refine thenN ?_
    exact ⟨_, (FrLe.cons rfl (FrLe.cons rfl (FrLe.nil _))), h⟩
  refine AW.skip ?_
  refine thenN ?_
  refine AW.seq ?_
  refine AW.block ?_
  refine AW.seq ?_
  refine AW.reg ?_
  refine Lp (V_move rfl rfl) rfl rfl ?_
  refine Lp (V_asg rfl rfl) rfl rfl ?_
  refine Lnil ?_
  refine thenN ?_
  refine AW.reg ?_
  refine Lp (V_move rfl rfl) rfl rfl ?_
  refine Lp (V_move rfl rfl) rfl rfl ?_
  obtain ⟨p33_17, hc, h⟩ := h
  refine Lp (V_nil rfl (by rw [← hc]; rfl)) rfl rfl ?_
  refine Lp (V_fld rfl Tryz.underlying114 rfl ty112 (by decide) rfl) rfl rfl ?_
  obtain ⟨x35_18, hc, h⟩ := h
  refine Ls rfl rfl (X_ld rfl Tryz.underlying112 rfl rfl hc ?_)
  refine Lp (V_move rfl rfl) rfl rfl ?_
  refine Ls rfl rfl (X_lkp rfl rfl rfl (awp_mono _ h ?_))
  rintro v σ ⟨x37_19, rfl, h⟩
  refine Ls rfl rfl (X_bi (s := Builtin.append_ #[22, 22] 22 #[Sl.v x3_15, Sl.v x37_19]) rfl rfl (fun _ => rfl) (awp_mono _ h ?_))
  rintro v σ ⟨x38_20, rfl, h⟩
  refine Lp (V_asg rfl rfl) rfl rfl ?_
  refine Lnil ?_
  refine blockN ?_
  refine thenN ?_
  refine AW.reg ?_
  refine Lp (V_add rfl rfl rfl) rfl rfl ?_
  refine Lp (V_move rfl rfl) rfl rfl ?_
  refine Lnil ?_
  refine thenN ?_
  refine ARound.head (fr' := [(0, .pointer a0), (27, .int .i64 x27_13), (3, Sl.v x38_20), (28, .int .i64 (IntKind.i64.wrap (x28_16 + 1)))]) ?_ (FrLe.cons rfl (FrLe.cons rfl (FrLe.cons rfl (FrLe.cons rfl (FrLe.nil _)))))
  exact hY14 _ _ h

def j1_snap_Asm_Missing (B : World) (ro : AH) (Q : Sl → AH → Prop) (x3_2 : Sl) (σ : AH) : Prop :=
 Q x3_2 σ

def j8_snap_Asm_Missing (B : World) (ro : AH) (a0 : Option Addr) (x10_4 : Int) (x11_7 : Int) (Q : Sl → AH → Prop) (Y5 : (Sl × Int) → AH → Prop) (x3_9 : Sl) (σ : AH) : Prop :=
 Y5 (x3_9, IntKind.i64.wrap (x11_7 + 1)) σ

def l5_snap_Asm_Missing (B : World) (ro : AH) (a0 : Option Addr) (x10_4 : Int) (Q : Sl → AH → Prop) : (Sl × Int) → AH → ((Sl × Int) → AH → Prop) → Prop := fun ⟨x3_6, x11_7⟩ σ Y5 =>
 if x11_7 < x10_4 then
  ∃ p16_10 : Addr, a0 = some p16_10 ∧
  ∃ (x18_11 : Option Nat), acell ro σ (p16_10.add 4) = some (.map x18_11) ∧
  awp Tryz.prog ro (Instr.lookup 112 (.map x18_11) (.int .i64 x11_7) true) (fun v σ =>
   (∃ (x20_12 : Sl) (x20_13 : Bool), v = .tuple #[Sl.v x20_12, .bool x20_13] ∧
    if ¬ (x20_13 = true) then
     nw ro σ (.cells #[.int .i64 x11_7] 3) fun x27_14 σ =>
     awp Tryz.prog ro (Builtin.append_ #[23, 23] 23 #[Sl.v x3_6, Sl.v (⟨some ⟨x27_14, 0, none⟩, 1, 1⟩ : Sl)]) (fun v σ => ∃ (x28_15 : Sl), v = Sl.v x28_15 ∧
      j8_snap_Asm_Missing B ro a0 x10_4 x11_7 Q Y5 x28_15 σ) σ
    else
    j8_snap_Asm_Missing B ro a0 x10_4 x11_7 Q Y5 x3_6 σ)) σ
 else
 j1_snap_Asm_Missing B ro Q x3_6 σ

def f_snap_Asm_Missing (B : World) (ro : AH) (a0 : Option Addr) (σ : AH) (Q : Sl → AH → Prop) : Prop :=
 ∃ p8_3 : Addr, a0 = some p8_3 ∧
 ∃ (x10_4 : Int), acell ro σ (p8_3.add 3) = some (.int .i64 x10_4) ∧
 lfpD (l5_snap_Asm_Missing B ro a0 x10_4 Q ) ((⟨none, 0, 0⟩ : Sl), 0) σ

set_option maxRecDepth 100000 in
set_option maxHeartbeats 4000000 in
theorem snap_Asm_Missing_ok {B : World} {ro : AH} {a0 : Option Addr} {σ : AH} {Q : Sl → AH → Prop} (h : Sep ro σ → f_snap_Asm_Missing B ro a0 σ Q) : c_snap_Asm_Missing B ro a0 σ Q := by
  refine ACalls.of_sep fun hsep => ?_
  replace h := h hsep
  refine ACalls.of_body (args := [.pointer a0]) Tryz.func26 rfl (by rw [Tryz.ntmps26]; simp) ?_
  rw [Tryz.ntmps26]
  unfold f_snap_Asm_Missing at h
  refine AW.seq ?_
  refine AW.reg ?_
  refine Lp (V_asg rfl rfl) rfl rfl ?_
  refine Lnil ?_
  refine thenN ?_
  refine AW.seq ?_
  refine AW.reg ?_
  refine Lp (V_asg rfl rfl) rfl rfl ?_
  refine Lnil ?_
  refine thenN ?_
  refine AW.seqJ (fun fr σ => ∃ (x3_2 : Sl), FrLe [(3, Sl.v x3_2)] fr ∧ j1_snap_Asm_Missing B ro Q x3_2 σ) ?_ ?_
  · rintro fr σ ⟨x3_2, hl, h⟩
    refine AW.weaken ?_ hl (HLe.refl _)
    unfold j1_snap_Asm_Missing at h
    refine AW.seq ?_
    refine AW.reg ?_
    refine Lp (V_move rfl rfl) rfl rfl ?_
    refine Lp (V_asg rfl rfl) rfl rfl ?_
    refine Lnil ?_
    refine thenN ?_
    refine AW.ret ?_
    exact bR1 Tryz.results26 rfl ⟨_, rfl, h⟩
  refine AW.seq ?_
  refine AW.reg ?_
  refine Lp (V_move rfl rfl) rfl rfl ?_
  obtain ⟨p8_3, hc, h⟩ := h
  refine Lp (V_nil rfl (by rw [← hc]; rfl)) rfl rfl ?_
  refine Lp (V_fld rfl Tryz.underlying114 rfl ty3 (by decide) rfl) rfl rfl ?_
  obtain ⟨x10_4, hc, h⟩ := h
  refine Ls rfl rfl (X_ld rfl Tryz.underlying3 rfl rfl hc ?_)
  refine Lp (V_move rfl rfl) rfl rfl ?_
  refine Lnil ?_
  refine thenN ?_
  refine AW.block ?_
  refine ARound.loop (fr' := [(0, .pointer a0), (10, .int .i64 x10_4), (3, Sl.v (⟨none, 0, 0⟩ : Sl)), (11, .int .i64 0)]) ?_ (FrLe.cons rfl (FrLe.cons rfl (FrLe.cons rfl (FrLe.cons rfl (FrLe.nil _)))))
  refine h (fun ⟨x3_6, x11_7⟩ σ => ARound _ _ _ _ _ _ [(0, .pointer a0), (10, .int .i64 x10_4), (3, Sl.v x3_6), (11, .int .i64 x11_7)] σ) ?_
  rintro ⟨x3_6, x11_7⟩ σ Y5 hY5 h
  show AW _ _ _ _ _ _ _ _
  unfold l5_snap_Asm_Missing at h
  dsimp only at h
  refine AW.seq ?_
  refine AW.reg ?_
  refine Lp (V_lss rfl rfl rfl) rfl rfl ?_
  refine Lnil ?_
  refine thenN ?_
  refine AW.seq ?_
  refine AW.iff rfl decide_eq_true_iff h (fun h => ?_) (fun h => ?_)
  rotate_left
  · refine AW.exit ?_
    refine thenE ?_
    refine thenE ?_
    refine blockE ?_
    refine thenN ?_
    exact ⟨_, (FrLe.cons rfl (FrLe.nil _)), h⟩
  refine AW.skip ?_
  refine thenN ?_
  refine AW.seqJ (fun fr σ => ∃ (x3_9 : Sl), FrLe [(0, .pointer a0), (10, .int .i64 x10_4), (11, .int .i64 x11_7), (3, Sl.v x3_9)] fr ∧ j8_snap_Asm_Missing B ro a0 x10_4 x11_7 Q Y5 x3_9 σ) ?_ ?_
  · rintro fr σ ⟨x3_9, hl, h⟩
    refine AW.weaken ?_ hl (HLe.refl _)
    unfold j8_snap_Asm_Missing at h
    refine AW.reg ?_
    refine Lp (V_add rfl rfl rfl) rfl rfl ?_
    refine Lp (V_move rfl rfl) rfl rfl ?_
    refine Lnil ?_
    refine thenN ?_
    refine ARound.head (fr' := [(0, .pointer a0), (10, .int .i64 x10_4), (3, Sl.v x3_9), (11, .int .i64 (IntKind.i64.wrap (x11_7 + 1)))]) ?_ (FrLe.cons rfl (FrLe.cons rfl (FrLe.cons rfl (FrLe.cons rfl (FrLe.nil _)))))
    exact hY5 _ _ h
  refine AW.block ?_
  refine AW.seq ?_
  refine AW.reg ?_
  refine Lp (V_move rfl rfl) rfl rfl ?_
  refine Lp (V_asg rfl rfl) rfl rfl ?_
  refine Lnil ?_
  refine thenN ?_
  refine AW.seq ?_
  refine AW.reg ?_
  refine Lp (V_move rfl rfl) rfl rfl ?_
  obtain ⟨p16_10, hc, h⟩ := h
  refine Lp (V_nil rfl (by rw [← hc]; rfl)) rfl rfl ?_
  refine Lp (V_fld rfl Tryz.underlying114 rfl ty112 (by decide) rfl) rfl rfl ?_
  obtain ⟨x18_11, hc, h⟩ := h
  refine Ls rfl rfl (X_ld rfl Tryz.underlying112 rfl rfl hc ?_)
  refine Lp (V_move rfl rfl) rfl rfl ?_
  refine Ls rfl rfl (X_lkp rfl rfl rfl (awp_mono _ h ?_))
  rintro v σ ⟨x20_12, x20_13, rfl, h⟩
  refine Lp (V_move rfl rfl) rfl rfl ?_
  refine Lp (V_ext rfl rfl rfl) rfl rfl ?_
  refine Lp (V_ext rfl rfl rfl) rfl rfl ?_
  refine Lp (V_asg rfl rfl) rfl rfl ?_
  refine Lp (V_asg rfl rfl) rfl rfl ?_
  refine Lnil ?_
  refine thenN ?_
  refine AW.seq ?_
  refine AW.reg ?_
  refine Lp (V_move rfl rfl) rfl rfl ?_
  refine Lp (V_not rfl rfl) rfl rfl ?_
  refine Lnil ?_
  refine thenN ?_
  refine AW.iff rfl (bnot_iff Iff.rfl) h (fun h => ?_) (fun h => ?_)
  rotate_left
  · refine AW.skip ?_
    refine blockN ?_
    refine thenN ?_
    exact ⟨_, (FrLe.cons rfl (FrLe.cons rfl (FrLe.cons rfl (FrLe.cons rfl (FrLe.nil _))))), h⟩
  refine AW.reg ?_
  refine Lp (V_move rfl rfl) rfl rfl ?_
  refine Lp (V_move rfl rfl) rfl rfl ?_
  refine Ls rfl rfl (X_new (A_bsl (vs := [(0, .int .i64 x11_7)]) (cs := #[.int .i64 x11_7]) rfl Tryz.underlying23 ty3 (by decide) rfl rfl) fun x27_14 g1 g2 => ?_)
  replace h := h x27_14 g1 g2
  refine Ls rfl rfl (X_bi (s := Builtin.append_ #[23, 23] 23 #[Sl.v x3_6, Sl.v (⟨some ⟨x27_14, 0, none⟩, 1, 1⟩ : Sl)]) rfl rfl (fun _ => rfl) (awp_mono _ h ?_))
  rintro v σ ⟨x28_15, rfl, h⟩
  refine Lp (V_asg rfl rfl) rfl rfl ?_
  refine Lnil ?_
  refine blockN ?_
  refine thenN ?_
  exact ⟨_, (FrLe.cons rfl (FrLe.cons rfl (FrLe.cons rfl (FrLe.cons rfl (FrLe.nil _))))), h⟩

def f_snap_dataFile (B : World) (ro : AH) (a0 : ByteArray) (a1 : Int) (σ : AH) (Q : ByteArray → AH → Prop) : Prop :=
 a0.size + (⟨#[46, 115]⟩ : ByteArray).size ≤ 9223372036854775807 ∧
 c_strconv_Itoa B ro a1 σ fun x8_1 σ =>
 (a0 ++ (⟨#[46, 115]⟩ : ByteArray)).size + x8_1.size ≤ 9223372036854775807 ∧
 Q ((a0 ++ (⟨#[46, 115]⟩ : ByteArray)) ++ x8_1) σ

set_option maxRecDepth 100000 in
set_option maxHeartbeats 4000000 in
theorem snap_dataFile_ok {B : World} {ro : AH} {a0 : ByteArray} {a1 : Int} {σ : AH} {Q : ByteArray → AH → Prop} (h : Sep ro σ → f_snap_dataFile B ro a0 a1 σ Q) : c_snap_dataFile B ro a0 a1 σ Q := by
  refine ACalls.of_sep fun hsep => ?_
  replace h := h hsep
  refine ACalls.of_body (args := [.string a0, .int .i64 a1]) Tryz.func38 rfl (by rw [Tryz.ntmps38]; simp) ?_
  rw [Tryz.ntmps38]
  unfold f_snap_dataFile at h
  refine AW.seq ?_
  refine AW.reg ?_
  refine Lp (V_asg rfl rfl) rfl rfl ?_
  refine Lnil ?_
  refine thenN ?_
  refine AW.seq ?_
  refine AW.reg ?_
  refine Lp (V_move rfl rfl) rfl rfl ?_
  obtain ⟨hc, h⟩ := h
  refine Lp (V_cat rfl rfl rfl hc) rfl rfl ?_
  refine Lp (V_move rfl rfl) rfl rfl ?_
  refine Ls rfl rfl (X_call rfl Tryz.func75 rfl rfl rfl (ACalls.mono h ?_))
  rintro v σ ⟨x8_1, rfl, h⟩
  obtain ⟨hc, h⟩ := h
  refine Lp (V_cat rfl rfl rfl hc) rfl rfl ?_
  refine Lp (V_asg rfl rfl) rfl rfl ?_
  refine Lnil ?_
  refine thenN ?_
  refine AW.ret ?_
  exact bR1 Tryz.results38 rfl ⟨_, rfl, h⟩

def l4_snap_Save_c1 (B : World) (ro : AH) (a2 : Addr) (x7_3 : Nat) (Q : AH → Prop) : (Int) → AH → ((Int) → AH → Prop) → Prop := fun x9_5 σ Y4 =>
 if x9_5 < ((⟨some ⟨x7_3, 0, none⟩, 2, 2⟩ : Sl).len : Int) then
  ∃ p11_6 : Addr, (⟨some ⟨x7_3, 0, none⟩, 2, 2⟩ : Sl).a = some p11_6 ∧ (0 : Int) ≤ x9_5 ∧ x9_5 < ((⟨some ⟨x7_3, 0, none⟩, 2, 2⟩ : Sl).len : Int) ∧
  ∃ (x12_7 : ByteArray), acell ro σ (p11_6.add (Int.toNat x9_5 * 1)) = some (.string x12_7) ∧
  ∃ (x13_8 : Option Addr), acell ro σ a2 = some (.pointer x13_8) ∧
  nw ro σ (.cells #[.string x12_7] 9) fun x15_9 σ =>
  c_disk_Disk_Remove B ro x13_8 (⟨some ⟨x15_9, 0, none⟩, 1, 1⟩ : Sl) σ fun x16_10 σ =>
  Y4 (IntKind.i64.wrap (x9_5 + 1)) σ
 else
 Q σ

def f_snap_Save_c1 (B : World) (ro : AH) (a0 : Addr) (a1 : Addr) (a2 : Addr) (σ : AH) (Q : AH → Prop) : Prop :=
 ∃ (x5_1 : ByteArray), acell ro σ a0 = some (.string x5_1) ∧
 ∃ (x6_2 : ByteArray), acell ro σ a1 = some (.string x6_2) ∧
 nw ro σ (.cells #[.string x5_1, .string x6_2] 9) fun x7_3 σ =>
 lfpD (l4_snap_Save_c1 B ro a2 x7_3 Q ) (0) σ

set_option maxRecDepth 100000 in
set_option maxHeartbeats 4000000 in
theorem snap_Save_c1_ok {B : World} {ro : AH} {a0 : Addr} {a1 : Addr} {a2 : Addr} {σ : AH} {Q : AH → Prop} (h : Sep ro σ → f_snap_Save_c1 B ro a0 a1 a2 σ Q) : c_snap_Save_c1 B ro a0 a1 a2 σ Q := by
  refine ACalls.of_sep fun hsep => ?_
  replace h := h hsep
  refine ACalls.of_body (args := [.pointer (some a0), .pointer (some a1), .pointer (some a2)]) Tryz.func39 rfl (by rw [Tryz.ntmps39]; simp) ?_
  rw [Tryz.ntmps39]
  unfold f_snap_Save_c1 at h
  refine AW.seq ?_
  refine AW.reg ?_
  obtain ⟨x5_1, hc, h⟩ := h
  refine Ls rfl rfl (X_ld rfl Tryz.underlying9 rfl rfl hc ?_)
  obtain ⟨x6_2, hc, h⟩ := h
  refine Ls rfl rfl (X_ld rfl Tryz.underlying9 rfl rfl hc ?_)
  refine Ls rfl rfl (X_new (A_bsl (vs := [(0, .string x5_1), (1, .string x6_2)]) (cs := #[.string x5_1, .string x6_2]) rfl Tryz.underlying83 ty9 (by decide) rfl rfl) fun x7_3 g1 g2 => ?_)
  replace h := h x7_3 g1 g2
  refine Lp (V_lenL rfl rfl Tryz.underlying83 rfl rfl) rfl rfl ?_
  refine Lp (V_move rfl rfl) rfl rfl ?_
  refine Lnil ?_
  refine thenN ?_
  refine AW.block ?_
  refine ARound.loop (fr' := [(2, .pointer (some a2)), (7, Sl.v (⟨some ⟨x7_3, 0, none⟩, 2, 2⟩ : Sl)), (8, .int .i64 ((⟨some ⟨x7_3, 0, none⟩, 2, 2⟩ : Sl).len : Int)), (9, .int .i64 0)]) ?_ (FrLe.cons rfl (FrLe.cons rfl (FrLe.cons rfl (FrLe.cons rfl (FrLe.nil _)))))
  refine h (fun x9_5 σ => ARound _ _ _ _ _ _ [(2, .pointer (some a2)), (7, Sl.v (⟨some ⟨x7_3, 0, none⟩, 2, 2⟩ : Sl)), (8, .int .i64 ((⟨some ⟨x7_3, 0, none⟩, 2, 2⟩ : Sl).len : Int)), (9, .int .i64 x9_5)] σ) ?_
  rintro x9_5 σ Y4 hY4 h
  show AW _ _ _ _ _ _ _ _
  unfold l4_snap_Save_c1 at h
  refine AW.seq ?_
  refine AW.reg ?_
  refine Lp (V_lss rfl rfl rfl) rfl rfl ?_
  refine Lnil ?_
  refine thenN ?_
  refine AW.seq ?_
  refine AW.iff rfl decide_eq_true_iff h (fun h => ?_) (fun h => ?_)
  rotate_left
  · refine AW.exit ?_
    refine thenE ?_
    refine thenE ?_
    refine blockE ?_
    exact bN0 Tryz.results39 ⟨rfl, h⟩
  refine AW.skip ?_
  refine thenN ?_
  refine AW.seq ?_
  refine AW.block ?_
  refine AW.seq ?_
  refine AW.reg ?_
  obtain ⟨p11_6, ha, h0, h1, h⟩ := h
  refine Lp (V_ixA rfl Tryz.underlying83 ty9 (ixL rfl ha) rfl h0 h1) rfl rfl ?_
  obtain ⟨x12_7, hc, h⟩ := h
  refine Ls rfl rfl (X_ld rfl Tryz.underlying9 rfl rfl hc ?_)
  refine Lp (V_asg rfl rfl) rfl rfl ?_
  refine Lnil ?_
  refine thenN ?_
  refine AW.reg ?_
  obtain ⟨x13_8, hc, h⟩ := h
  refine Ls rfl rfl (X_ld rfl Tryz.underlying26 rfl rfl hc ?_)
  refine Lp (V_move rfl rfl) rfl rfl ?_
  refine Ls rfl rfl (X_new (A_bsl (vs := [(0, .string x12_7)]) (cs := #[.string x12_7]) rfl Tryz.underlying83 ty9 (by decide) rfl rfl) fun x15_9 g1 g2 => ?_)
  replace h := h x15_9 g1 g2
  refine Ls rfl rfl (X_call rfl Tryz.func40 rfl rfl rfl (ACalls.mono h ?_))
  rintro v σ ⟨x16_10, rfl, h⟩
  refine Lnil ?_
  refine blockN ?_
  refine thenN ?_
  refine AW.reg ?_
  refine Lp (V_add rfl rfl rfl) rfl rfl ?_
  refine Lp (V_move rfl rfl) rfl rfl ?_
  refine Lnil ?_
  refine thenN ?_
  refine ARound.head (fr' := [(2, .pointer (some a2)), (7, Sl.v (⟨some ⟨x7_3, 0, none⟩, 2, 2⟩ : Sl)), (8, .int .i64 ((⟨some ⟨x7_3, 0, none⟩, 2, 2⟩ : Sl).len : Int)), (9, .int .i64 (IntKind.i64.wrap (x9_5 + 1)))]) ?_ (FrLe.cons rfl (FrLe.cons rfl (FrLe.cons rfl (FrLe.cons rfl (FrLe.nil _)))))
  exact hY4 _ _ h

def f_snap_digestOf (B : World) (ro : AH) (a0 : Sl) (σ : AH) (Q : Int → Int → AH → Prop) : Prop :=
 nw ro σ (.cells #[.int .i64 0, .int .i64 0] 87) fun x2_1 σ =>
 c_wire_Sum B ro a0 σ fun x6_2 σ =>
 stN ⟨x2_1, 0, none⟩ (fun σ =>
  ∃ (x2_3a : Int) (x2_3b : Int), cellsAt ro σ ⟨x2_1, 0, none⟩ 0 [.int .i64 x2_3a, .int .i64 x2_3b] ∧
  Q x2_3a x2_3b σ) [.int .i64 (a0.len : Int), .int .i64 x6_2] 0 σ

set_option maxRecDepth 100000 in
set_option maxHeartbeats 4000000 in
theorem snap_digestOf_ok {B : World} {ro : AH} {a0 : Sl} {σ : AH} {Q : Int → Int → AH → Prop} (h : Sep ro σ → f_snap_digestOf B ro a0 σ Q) : c_snap_digestOf B ro a0 σ Q := by
  refine ACalls.of_sep fun hsep => ?_
  replace h := h hsep
  refine ACalls.of_body (args := [Sl.v a0]) Tryz.func41 rfl (by rw [Tryz.ntmps41]; simp) ?_
  rw [Tryz.ntmps41]
  unfold f_snap_digestOf at h
  refine AW.seq ?_
  refine AW.reg ?_
  refine Ls rfl rfl (X_new (A_alloc rfl ty87) fun x2_1 g1 g2 => ?_)
  replace h := h x2_1 g1 g2
  refine Lnil ?_
  refine thenN ?_
  refine AW.seq ?_
  refine AW.reg ?_
  refine Lp (V_move rfl rfl) rfl rfl ?_
  refine Lp (V_lenL rfl rfl Tryz.underlying22 rfl rfl) rfl rfl ?_
  refine Lp (V_move rfl rfl) rfl rfl ?_
  refine Ls rfl rfl (X_call rfl Tryz.func77 rfl rfl rfl (ACalls.mono h ?_))
  rintro v σ ⟨x6_2, rfl, h⟩
  refine Lp (V_bld (vs := [(0, .int .i64 (a0.len : Int)), (1, .int .i64 x6_2)]) (cs := #[.int .i64 (a0.len : Int), .int .i64 x6_2]) rfl Tryz.underlying87 ty87 pl87 rfl rfl) rfl rfl ?_
  refine Ls rfl rfl (X_st rfl ty87 rfl rfl rfl rfl (stN_mono h fun σ h => ?_))
  refine Lnil ?_
  refine thenN ?_
  refine AW.ret ?_
  obtain ⟨x2_3a, x2_3b, hc0, h⟩ := h
  exact bRM1 Tryz.results41 (rCons (rAgg rfl Tryz.underlying87 rfl ty87 hc0) rNil) ⟨_, _, rfl, h⟩

def f_snap_manifest_bytes (B : World) (ro : AH) (a0_0 : Int) (a0_1 : Int) (a0_2 : Int) (σ : AH) (Q : Sl → AH → Prop) : Prop :=
 nw ro σ (.cells #[.int .i64 a0_0, .int .i64 a0_1, .int .i64 a0_2] 90) fun x1_1 σ =>
 ∃ (x9_2 : Int), acell ro σ ((⟨x1_1, 0, none⟩ : Addr).add 2) = some (.int .i64 x9_2) ∧
 ∃ (x12_3 : Int), acell ro σ ⟨x1_1, 0, none⟩ = some (.int .i64 x12_3) ∧
 ∃ (x15_4 : Int), acell ro σ ((⟨x1_1, 0, none⟩ : Addr).add 1) = some (.int .i64 x15_4) ∧
 nw ro σ (.cells #[.int .i64 x9_2, .int .i64 x12_3, .int .i64 x15_4] 3) fun x16_5 σ =>
 c_wire_Numbers B ro (⟨some ⟨x16_5, 0, none⟩, 3, 3⟩ : Sl) σ fun x17_6 x17_7 σ =>
 c_wire_Frame B ro x17_6 σ fun x22_8 x22_9 σ =>
 Q x22_8 σ

set_option maxRecDepth 100000 in
set_option maxHeartbeats 4000000 in
theorem snap_manifest_bytes_ok {B : World} {ro : AH} {a0_0 : Int} {a0_1 : Int} {a0_2 : Int} {σ : AH} {Q : Sl → AH → Prop} (h : Sep ro σ → f_snap_manifest_bytes B ro a0_0 a0_1 a0_2 σ Q) : c_snap_manifest_bytes B ro a0_0 a0_1 a0_2 σ Q := by
  refine ACalls.of_sep fun hsep => ?_
  replace h := h hsep
  refine ACalls.of_body (args := [.agg #[.int .i64 a0_0, .int .i64 a0_1, .int .i64 a0_2]]) Tryz.func42 rfl (by rw [Tryz.ntmps42]; simp) ?_
  rw [Tryz.ntmps42]
  unfold f_snap_manifest_bytes at h
  refine AW.seq ?_
  refine AW.reg ?_
  refine Ls rfl rfl (X_new (A_box rfl rfl) fun x1_1 g1 g2 => ?_)
  replace h := h x1_1 g1 g2
  refine Lp (V_asg rfl rfl) rfl rfl ?_
  refine Lnil ?_
  refine thenN ?_
  refine AW.seq ?_
  refine AW.reg ?_
  refine Lp (V_fld rfl Tryz.underlying90 rfl ty3 (by decide) rfl) rfl rfl ?_
  obtain ⟨x9_2, hc, h⟩ := h
  refine Ls rfl rfl (X_ld rfl Tryz.underlying3 rfl rfl hc ?_)
  refine Lp (V_fld rfl Tryz.underlying90 rfl ty87 (by decide) rfl) rfl rfl ?_
  refine Lp (V_fld rfl Tryz.underlying87 rfl ty3 (by decide) rfl) rfl rfl ?_
  obtain ⟨x12_3, hc, h⟩ := h
  refine Ls rfl rfl (X_ld rfl Tryz.underlying3 rfl rfl hc ?_)
  refine Lp (V_fld rfl Tryz.underlying90 rfl ty87 (by decide) rfl) rfl rfl ?_
  refine Lp (V_fld rfl Tryz.underlying87 rfl ty3 (by decide) rfl) rfl rfl ?_
  obtain ⟨x15_4, hc, h⟩ := h
  refine Ls rfl rfl (X_ld rfl Tryz.underlying3 rfl rfl hc ?_)
  refine Ls rfl rfl (X_new (A_bsl (vs := [(0, .int .i64 x9_2), (1, .int .i64 x12_3), (2, .int .i64 x15_4)]) (cs := #[.int .i64 x9_2, .int .i64 x12_3, .int .i64 x15_4]) rfl Tryz.underlying23 ty3 (by decide) rfl rfl) fun x16_5 g1 g2 => ?_)
  replace h := h x16_5 g1 g2
  refine Ls rfl rfl (X_call rfl Tryz.func78 rfl rfl rfl (ACalls.mono h ?_))
  rintro v σ ⟨x17_6, x17_7, rfl, h⟩
  refine Lp (V_move rfl rfl) rfl rfl ?_
  refine Lp (V_ext rfl rfl rfl) rfl rfl ?_
  refine Lp (V_ext rfl rfl rfl) rfl rfl ?_
  refine Lp (V_asg rfl rfl) rfl rfl ?_
  refine Lp (V_asg rfl rfl) rfl rfl ?_
  refine Lnil ?_
  refine thenN ?_
  refine AW.seq ?_
  refine AW.reg ?_
  refine Lp (V_move rfl rfl) rfl rfl ?_
  refine Ls rfl rfl (X_call rfl Tryz.func79 rfl rfl rfl (ACalls.mono h ?_))
  rintro v σ ⟨x22_8, x22_9, rfl, h⟩
  refine Lp (V_move rfl rfl) rfl rfl ?_
  refine Lp (V_ext rfl rfl rfl) rfl rfl ?_
  refine Lp (V_ext rfl rfl rfl) rfl rfl ?_
  refine Lp (V_asg rfl rfl) rfl rfl ?_
  refine Lp (V_asg rfl rfl) rfl rfl ?_
  refine Lnil ?_
  refine thenN ?_
  refine AW.seq ?_
  refine AW.reg ?_
  refine Lp (V_move rfl rfl) rfl rfl ?_
  refine Lp (V_asg rfl rfl) rfl rfl ?_
  refine Lnil ?_
  refine thenN ?_
  refine AW.ret ?_
  exact bR1 Tryz.results42 rfl ⟨_, rfl, h⟩

def j6_snap_isData (B : World) (ro : AH) (Q : Bool → AH → Prop) (x38_7 : Bool) (σ : AH) : Prop :=
 Q x38_7 σ

def f_snap_isData (B : World) (ro : AH) (a0 : ByteArray) (a1 : ByteArray) (σ : AH) (Q : Bool → AH → Prop) : Prop :=
 a0.size + (⟨#[46, 115]⟩ : ByteArray).size ≤ 9223372036854775807 ∧
 c_strings_CutPrefix B ro a1 (a0 ++ (⟨#[46, 115]⟩ : ByteArray)) σ fun x13_1 x13_2 σ =>
 if ¬ (x13_2 = true) then
  Q false σ
 else
 c_strconv_Atoi B ro x13_1 σ fun x20_3 x20_4 σ =>
 awp Tryz.prog ro (do eqGuard .eql 152 (.tmp 23) (.const .nilIface) x20_4 .nilIface; Go.binOp .eql 152 x20_4 .nilIface) (fun v σ => ∃ x24_5 : Bool, v = .bool x24_5 ∧
  if ((x24_5 = true) ∧ (0 ≤ x20_3)) ∧ (x20_3 ≤ 4611686018427387903) then
   c_strconv_Itoa B ro x20_3 σ fun x35_8 σ =>
   j6_snap_isData B ro Q (decide (x35_8 = x13_1)) σ
  else
  j6_snap_isData B ro Q false σ) σ

set_option maxRecDepth 100000 in
set_option maxHeartbeats 4000000 in
theorem snap_isData_ok {B : World} {ro : AH} {a0 : ByteArray} {a1 : ByteArray} {σ : AH} {Q : Bool → AH → Prop} (h : Sep ro σ → f_snap_isData B ro a0 a1 σ Q) : c_snap_isData B ro a0 a1 σ Q := by
  refine ACalls.of_sep fun hsep => ?_
  replace h := h hsep
  refine ACalls.of_body (args := [.string a0, .string a1]) Tryz.func47 rfl (by rw [Tryz.ntmps47]; simp) ?_
  rw [Tryz.ntmps47]
  unfold f_snap_isData at h
  refine AW.seq ?_
  refine AW.reg ?_
  refine Lp (V_asg rfl rfl) rfl rfl ?_
  refine Lnil ?_
  refine thenN ?_
  refine AW.seq ?_
  refine AW.reg ?_
  refine Lp (V_move rfl rfl) rfl rfl ?_
  refine Lp (V_move rfl rfl) rfl rfl ?_
  obtain ⟨hc, h⟩ := h
  refine Lp (V_cat rfl rfl rfl hc) rfl rfl ?_
  refine Ls rfl rfl (X_call rfl Tryz.func83 rfl rfl rfl (ACalls.mono h ?_))
  rintro v σ ⟨x13_1, x13_2, rfl, h⟩
  refine Lp (V_move rfl rfl) rfl rfl ?_
  refine Lp (V_ext rfl rfl rfl) rfl rfl ?_
  refine Lp (V_ext rfl rfl rfl) rfl rfl ?_
  refine Lp (V_asg rfl rfl) rfl rfl ?_
  refine Lp (V_asg rfl rfl) rfl rfl ?_
  refine Lnil ?_
  refine thenN ?_
  refine AW.seq ?_
  refine AW.seq ?_
  refine AW.reg ?_
  refine Lp (V_move rfl rfl) rfl rfl ?_
  refine Lp (V_not rfl rfl) rfl rfl ?_
  refine Lnil ?_
  refine thenN ?_
  refine AW.iff rfl (bnot_iff Iff.rfl) h (fun h => ?_) (fun h => ?_)
  · refine AW.seq ?_
    refine AW.reg ?_
    refine Lp (V_asg rfl rfl) rfl rfl ?_
    refine Lnil ?_
    refine thenN ?_
    refine AW.ret ?_
    refine thenR ?_
    exact bR1 Tryz.results47 rfl ⟨_, rfl, h⟩
  refine AW.skip ?_
  refine thenN ?_
  refine AW.seq ?_
  refine AW.reg ?_
  refine Lp (V_move rfl rfl) rfl rfl ?_
  refine Ls rfl rfl (X_call rfl Tryz.func84 rfl rfl rfl (ACalls.mono h ?_))
  rintro v σ ⟨x20_3, x20_4, rfl, h⟩
  refine Lp (V_move rfl rfl) rfl rfl ?_
  refine Lp (V_ext rfl rfl rfl) rfl rfl ?_
  refine Lp (V_ext rfl rfl rfl) rfl rfl ?_
  refine Lp (V_asg rfl rfl) rfl rfl ?_
  refine Lp (V_asg rfl rfl) rfl rfl ?_
  refine Lnil ?_
  refine thenN ?_
  refine AW.seq ?_
  refine AW.reg ?_
  refine Lp (V_move rfl rfl) rfl rfl ?_
  refine Ls rfl rfl (X_eq rfl rfl rfl (awp_mono _ h ?_))
  rintro v σ ⟨x24_5, rfl, h⟩
  refine Lp (V_move rfl rfl) rfl rfl ?_
  refine Lsplit 3 x24_5 [(5, .string x13_1), (7, .int .i64 x20_3), (28, .bool (x24_5 && (decide (0 ≤ x20_3))))] ?_ ?_ ?_
  · intro e2 hk2
    refine Lypb (V_move rfl rfl) rfl rfl rfl rfl e2 ?_
    refine Lypb (V_geq rfl rfl rfl) rfl rfl rfl rfl e2 ?_
    refine Lp (V_pickT rfl (evb e2) rfl) rfl rfl ?_
    exact hk2 _ (FrLe.cons rfl (FrLe.cons rfl (FrLe.cons (by rw [e2]; rfl) (FrLe.nil _))))
  · intro e2 hk2
    refine Ln rfl rfl rfl rfl (.inl (by rw [e2]; rfl)) ?_
    refine Ln rfl rfl rfl rfl (.inl (by rw [e2]; rfl)) ?_
    refine Lp (V_pickF rfl (evb e2) rfl) rfl rfl ?_
    exact hk2 _ (FrLe.cons rfl (FrLe.cons rfl (FrLe.cons (by rw [e2]; rfl) (FrLe.nil _))))
  intro fr hl
  refine Lfr hl ?_
  refine Lp (V_move rfl rfl) rfl rfl ?_
  refine Lsplit 3 (x24_5 && (decide (0 ≤ x20_3))) [(5, .string x13_1), (7, .int .i64 x20_3), (32, .bool ((x24_5 && (decide (0 ≤ x20_3))) && (decide (x20_3 ≤ 4611686018427387903))))] ?_ ?_ ?_
  · intro e6 hk6
    refine Lypb (V_move rfl rfl) rfl rfl rfl rfl e6 ?_
    refine Lypb (V_leq rfl rfl rfl) rfl rfl rfl rfl e6 ?_
    refine Lp (V_pickT rfl (evb e6) rfl) rfl rfl ?_
    exact hk6 _ (FrLe.cons rfl (FrLe.cons rfl (FrLe.cons (by rw [e6]; rfl) (FrLe.nil _))))
  · intro e6 hk6
    refine Ln rfl rfl rfl rfl (.inl (by rw [e6]; rfl)) ?_
    refine Ln rfl rfl rfl rfl (.inl (by rw [e6]; rfl)) ?_
    refine Lp (V_pickF rfl (evb e6) rfl) rfl rfl ?_
    exact hk6 _ (FrLe.cons rfl (FrLe.cons rfl (FrLe.cons (by rw [e6]; rfl) (FrLe.nil _))))
  intro fr hl
  refine Lfr hl ?_
  refine Lp (V_move rfl rfl) rfl rfl ?_
  refine LsplitJ 5 ((x24_5 && (decide (0 ≤ x20_3))) && (decide (x20_3 ≤ 4611686018427387903))) (band_iff (band_iff Iff.rfl decide_eq_true_iff) decide_eq_true_iff) h (fun fr σ => ∃ (x38_7 : Bool), FrLe [(38, .bool x38_7)] fr ∧ j6_snap_isData B ro Q x38_7 σ) ?_ ?_ ?_
  · intro h e10 hk10
    refine Lypb (V_move rfl rfl) rfl rfl rfl rfl e10 ?_
    refine Lyb rfl rfl rfl rfl e10 (X_call rfl Tryz.func75 rfl rfl rfl (ACalls.mono h ?_))
    rintro v σ ⟨x35_8, rfl, h⟩
    refine Lypb (V_move rfl rfl) rfl rfl rfl rfl e10 ?_
    refine Lypb (V_eqlS rfl rfl rfl) rfl rfl rfl rfl e10 ?_
    refine Lp (V_pickT rfl (evb e10) rfl) rfl rfl ?_
    exact hk10 _ _ ⟨_, (FrLe.cons rfl (FrLe.nil _)), h⟩
  · intro h e10 hk10
    refine Ln rfl rfl rfl rfl (.inl (by rw [e10]; rfl)) ?_
    refine Ln rfl rfl rfl rfl (.inl (by rw [e10]; rfl)) ?_
    refine Ln rfl rfl rfl rfl (.inl (by rw [e10]; rfl)) ?_
    refine Ln rfl rfl rfl rfl (.inl (by rw [e10]; rfl)) ?_
    refine Lp (V_pickF rfl (evb e10) rfl) rfl rfl ?_
    exact hk10 _ _ ⟨_, (FrLe.cons rfl (FrLe.nil _)), h⟩
  rintro fr σ ⟨x38_7, hl, h⟩
  unfold j6_snap_isData at h
  refine Lfr hl ?_
  refine Lp (V_asg rfl rfl) rfl rfl ?_
  refine Lnil ?_
  refine thenN ?_
  refine AW.ret ?_
  exact bR1 Tryz.results47 rfl ⟨_, rfl, h⟩

def j1_snap_rightName (B : World) (ro : AH) (Q : Bool → AH → Prop) (x14_2 : Bool) (σ : AH) : Prop :=
 Q x14_2 σ

def f_snap_rightName (B : World) (ro : AH) (a0 : ByteArray) (σ : AH) (Q : Bool → AH → Prop) : Prop :=
 if (¬ (a0 = (⟨#[]⟩ : ByteArray))) ∧ ((a0.size : Int) ≤ 12) then
  c_strings_Trim B ro a0 (⟨#[97, 98, 99, 100, 101, 102, 103, 104, 105, 106, 107, 108, 109, 110, 111, 112, 113, 114, 115, 116, 117, 118, 119, 120, 121, 122, 48, 49, 50, 51, 52, 53, 54, 55, 56, 57, 45]⟩ : ByteArray) σ fun x12_3 σ =>
  j1_snap_rightName B ro Q (decide (x12_3 = (⟨#[]⟩ : ByteArray))) σ
 else
 j1_snap_rightName B ro Q false σ

set_option maxRecDepth 100000 in
set_option maxHeartbeats 4000000 in
theorem snap_rightName_ok {B : World} {ro : AH} {a0 : ByteArray} {σ : AH} {Q : Bool → AH → Prop} (h : Sep ro σ → f_snap_rightName B ro a0 σ Q) : c_snap_rightName B ro a0 σ Q := by
  refine ACalls.of_sep fun hsep => ?_
  replace h := h hsep
  refine ACalls.of_body (args := [.string a0]) Tryz.func49 rfl (by rw [Tryz.ntmps49]; simp) ?_
  rw [Tryz.ntmps49]
  unfold f_snap_rightName at h
  refine AW.seq ?_
  refine AW.reg ?_
  refine Lp (V_asg rfl rfl) rfl rfl ?_
  refine Lnil ?_
  refine thenN ?_
  refine AW.seq ?_
  refine AW.reg ?_
  refine Lp (V_move rfl rfl) rfl rfl ?_
  refine Lp (V_neqS rfl rfl rfl) rfl rfl ?_
  refine Lp (V_move rfl rfl) rfl rfl ?_
  refine Lsplit 4 (!(decide (a0 = (⟨#[]⟩ : ByteArray)))) [(0, .string a0), (9, .bool ((!(decide (a0 = (⟨#[]⟩ : ByteArray)))) && (decide ((a0.size : Int) ≤ 12))))] ?_ ?_ ?_
  · intro e2 hk2
    refine Lypb (V_move rfl rfl) rfl rfl rfl rfl e2 ?_
    refine Lypb (V_lenS rfl rfl Tryz.underlying9 rfl rfl) rfl rfl rfl rfl e2 ?_
    refine Lypb (V_leq rfl rfl rfl) rfl rfl rfl rfl e2 ?_
    refine Lp (V_pickT rfl (evb e2) rfl) rfl rfl ?_
    exact hk2 _ (FrLe.cons rfl (FrLe.cons (by rw [e2]; rfl) (FrLe.nil _)))
  · intro e2 hk2
    refine Ln rfl rfl rfl rfl (.inl (by rw [e2]; rfl)) ?_
    refine Ln rfl rfl rfl rfl (.inl (by rw [e2]; rfl)) ?_
    refine Ln rfl rfl rfl rfl (.inl (by rw [e2]; rfl)) ?_
    refine Lp (V_pickF rfl (evb e2) rfl) rfl rfl ?_
    exact hk2 _ (FrLe.cons rfl (FrLe.cons (by rw [e2]; rfl) (FrLe.nil _)))
  intro fr hl
  refine Lfr hl ?_
  refine Lp (V_move rfl rfl) rfl rfl ?_
  refine LsplitJ 4 ((!(decide (a0 = (⟨#[]⟩ : ByteArray)))) && (decide ((a0.size : Int) ≤ 12))) (band_iff (bnot_iff decide_eq_true_iff) decide_eq_true_iff) h (fun fr σ => ∃ (x14_2 : Bool), FrLe [(14, .bool x14_2)] fr ∧ j1_snap_rightName B ro Q x14_2 σ) ?_ ?_ ?_
  · intro h e7 hk7
    refine Lypb (V_move rfl rfl) rfl rfl rfl rfl e7 ?_
    refine Lyb rfl rfl rfl rfl e7 (X_call rfl Tryz.func85 rfl rfl rfl (ACalls.mono h ?_))
    rintro v σ ⟨x12_3, rfl, h⟩
    refine Lypb (V_eqlS rfl rfl rfl) rfl rfl rfl rfl e7 ?_
    refine Lp (V_pickT rfl (evb e7) rfl) rfl rfl ?_
    exact hk7 _ _ ⟨_, (FrLe.cons rfl (FrLe.nil _)), h⟩
  · intro h e7 hk7
    refine Ln rfl rfl rfl rfl (.inl (by rw [e7]; rfl)) ?_
    refine Ln rfl rfl rfl rfl (.inl (by rw [e7]; rfl)) ?_
    refine Ln rfl rfl rfl rfl (.inl (by rw [e7]; rfl)) ?_
    refine Lp (V_pickF rfl (evb e7) rfl) rfl rfl ?_
    exact hk7 _ _ ⟨_, (FrLe.cons rfl (FrLe.nil _)), h⟩
  rintro fr σ ⟨x14_2, hl, h⟩
  unfold j1_snap_rightName at h
  refine Lfr hl ?_
  refine Lp (V_asg rfl rfl) rfl rfl ?_
  refine Lnil ?_
  refine thenN ?_
  refine AW.ret ?_
  exact bR1 Tryz.results49 rfl ⟨_, rfl, h⟩

def j14_snap_readManifest (B : World) (ro : AH) (x4_1 : Nat) (Q : Int → Int → Int → Bool → AH → Prop) (x5_15 : Bool) (σ : AH) : Prop :=
 ∃ (x4_16a : Int) (x4_16b : Int) (x4_16c : Int), cellsAt ro σ ⟨x4_1, 0, none⟩ 0 [.int .i64 x4_16a, .int .i64 x4_16b, .int .i64 x4_16c] ∧
 Q x4_16a x4_16b x4_16c x5_15 σ

def f_snap_readManifest (B : World) (ro : AH) (a0 : Option Addr) (a1 : ByteArray) (σ : AH) (Q : Int → Int → Int → Bool → AH → Prop) : Prop :=
 nw ro σ (.cells #[.int .i64 0, .int .i64 0, .int .i64 0] 90) fun x4_1 σ =>
 a1.size + (⟨#[46, 109, 97, 110]⟩ : ByteArray).size ≤ 9223372036854775807 ∧
 c_disk_Disk_Read B ro a0 (a1 ++ (⟨#[46, 109, 97, 110]⟩ : ByteArray)) σ fun x16_2 x16_3 σ =>
 if ¬ (x16_3 = 0) then
  stN ⟨x4_1, 0, none⟩ (fun σ =>
   ∃ (x4_4a : Int) (x4_4b : Int) (x4_4c : Int), cellsAt ro σ ⟨x4_1, 0, none⟩ 0 [.int .i64 x4_4a, .int .i64 x4_4b, .int .i64 x4_4c] ∧
   Q x4_4a x4_4b x4_4c false σ) [.int .i64 0, .int .i64 0, .int .i64 0] 0 σ
 else
 c_wire_Unframe B ro x16_2 0 σ fun x24_5 x24_6 x24_7 σ =>
 if (¬ (x24_7 = 0)) ∨ (¬ (x24_6 = (x16_2.len : Int))) then
  stN ⟨x4_1, 0, none⟩ (fun σ =>
   ∃ (x4_8a : Int) (x4_8b : Int) (x4_8c : Int), cellsAt ro σ ⟨x4_1, 0, none⟩ 0 [.int .i64 x4_8a, .int .i64 x4_8b, .int .i64 x4_8c] ∧
   Q x4_8a x4_8b x4_8c false σ) [.int .i64 0, .int .i64 0, .int .i64 0] 0 σ
 else
 c_wire_NewReader B ro x24_5 σ fun x38_9 σ =>
 c_wire_Reader_Num B ro x38_9 σ fun x40_10 σ =>
 nw ro σ (.cells #[.int .i64 0, .int .i64 0, .int .i64 0] 90) fun x11_11 σ =>
 stN ⟨x11_11, 0, none⟩ (fun σ =>
  c_wire_Reader_Num B ro x38_9 σ fun x43_12 σ =>
  c_wire_Reader_Num B ro x38_9 σ fun x45_13 σ =>
  stN ⟨x11_11, 0, none⟩ (fun σ =>
   stN ((⟨x11_11, 0, none⟩ : Addr).add 1) (fun σ =>
    lent σ fun ψ σ =>
     ∃ (x50_17a : Int) (x50_17b : Int) (x50_17c : Int), cellsAt (join ro ψ) (fun _ => none) ⟨x11_11, 0, none⟩ 0 [.int .i64 x50_17a, .int .i64 x50_17b, .int .i64 x50_17c] ∧
     c_wire_Reader_Err B (join ro ψ) x38_9 σ fun x52_18 σ =>
     if x52_18 = 0 then
      c_wire_Reader_Left B (join ro ψ) x38_9 σ fun x56_19 σ =>
      stN ⟨x4_1, 0, none⟩ (fun σ =>
       (Disj ψ σ → (fun σ => 
        j14_snap_readManifest B ro x4_1 Q (decide (x56_19 = 0)) σ) (join ψ σ))) [.int .i64 x50_17a, .int .i64 x50_17b, .int .i64 x50_17c] 0 σ
     else
     stN ⟨x4_1, 0, none⟩ (fun σ =>
      (Disj ψ σ → (fun σ => 
       j14_snap_readManifest B ro x4_1 Q false σ) (join ψ σ))) [.int .i64 x50_17a, .int .i64 x50_17b, .int .i64 x50_17c] 0 σ) [.int .i64 x45_13] 0 σ) [.int .i64 x43_12] 0 σ) [.int .i64 0, .int .i64 0, .int .i64 x40_10] 0 σ

set_option maxRecDepth 100000 in
set_option maxHeartbeats 4000000 in
theorem snap_readManifest_ok {B : World} {ro : AH} {a0 : Option Addr} {a1 : ByteArray} {σ : AH} {Q : Int → Int → Int → Bool → AH → Prop} (h : Sep ro σ → f_snap_readManifest B ro a0 a1 σ Q) : c_snap_readManifest B ro a0 a1 σ Q := by
  refine ACalls.of_sep fun hsep => ?_
  replace h := h hsep
  refine ACalls.of_body (args := [.pointer a0, .string a1]) Tryz.func50 rfl (by rw [Tryz.ntmps50]; simp) ?_
  rw [Tryz.ntmps50]
  unfold f_snap_readManifest at h
  refine AW.seq ?_
  refine AW.reg ?_
  refine Ls rfl rfl (X_new (A_alloc rfl ty90) fun x4_1 g1 g2 => ?_)
  replace h := h x4_1 g1 g2
  refine Lp (V_asg rfl rfl) rfl rfl ?_
  refine Lnil ?_
  refine thenN ?_
  refine AW.seq ?_
  refine AW.reg ?_
  refine Lp (V_move rfl rfl) rfl rfl ?_
  refine Lp (V_move rfl rfl) rfl rfl ?_
  obtain ⟨hc, h⟩ := h
  refine Lp (V_cat rfl rfl rfl hc) rfl rfl ?_
  refine Ls rfl rfl (X_call rfl Tryz.func51 rfl rfl rfl (ACalls.mono h ?_))
  rintro v σ ⟨x16_2, x16_3, rfl, h⟩
  refine Lp (V_move rfl rfl) rfl rfl ?_
  refine Lp (V_ext rfl rfl rfl) rfl rfl ?_
  refine Lp (V_ext rfl rfl rfl) rfl rfl ?_
  refine Lp (V_asg rfl rfl) rfl rfl ?_
  refine Lp (V_asg rfl rfl) rfl rfl ?_
  refine Lnil ?_
  refine thenN ?_
  refine AW.seq ?_
  refine AW.seq ?_
  refine AW.reg ?_
  refine Lp (V_move rfl rfl) rfl rfl ?_
  refine Lp (V_neq rfl rfl rfl) rfl rfl ?_
  refine Lnil ?_
  refine thenN ?_
  refine AW.iff rfl (bnot_iff decide_eq_true_iff) h (fun h => ?_) (fun h => ?_)
  · refine AW.seq ?_
    refine AW.reg ?_
    refine Lp (V_bld (vs := []) (cs := #[.int .i64 0, .int .i64 0, .int .i64 0]) rfl Tryz.underlying90 ty90 pl90 rfl rfl) rfl rfl ?_
    refine Ls rfl rfl (X_st rfl ty90 rfl rfl rfl rfl (stN_mono h fun σ h => ?_))
    refine Lp (V_asg rfl rfl) rfl rfl ?_
    refine Lnil ?_
    refine thenN ?_
    refine AW.ret ?_
    refine thenR ?_
    obtain ⟨x4_4a, x4_4b, x4_4c, hc0, h⟩ := h
    exact bRM Tryz.results50 (rCons (rAgg rfl Tryz.underlying90 rfl ty90 hc0) (rCons (rTmp rfl) rNil)) ⟨_, _, _, _, rfl, h⟩
  refine AW.skip ?_
  refine thenN ?_
  refine AW.seq ?_
  refine AW.reg ?_
  refine Lp (V_move rfl rfl) rfl rfl ?_
  refine Ls rfl rfl (X_call rfl Tryz.func86 rfl rfl rfl (ACalls.mono h ?_))
  rintro v σ ⟨x24_5, x24_6, x24_7, rfl, h⟩
  refine Lp (V_move rfl rfl) rfl rfl ?_
  refine Lp (V_ext rfl rfl rfl) rfl rfl ?_
  refine Lp (V_ext rfl rfl rfl) rfl rfl ?_
  refine Lp (V_ext rfl rfl rfl) rfl rfl ?_
  refine Lp (V_asg rfl rfl) rfl rfl ?_
  refine Lp (V_asg rfl rfl) rfl rfl ?_
  refine Lp (V_asg rfl rfl) rfl rfl ?_
  refine Lnil ?_
  refine thenN ?_
  refine AW.seq ?_
  refine AW.seq ?_
  refine AW.reg ?_
  refine Lp (V_move rfl rfl) rfl rfl ?_
  refine Lp (V_neq rfl rfl rfl) rfl rfl ?_
  refine Lp (V_move rfl rfl) rfl rfl ?_
  refine Lsplit 5 (!(decide (x24_7 = 0))) [(4, .pointer (some ⟨x4_1, 0, none⟩)), (8, Sl.v x24_5), (35, .bool ((!(decide (x24_7 = 0))) || (!(decide (x24_6 = (x16_2.len : Int))))))] ?_ ?_ ?_
  · intro e2 hk2
    refine Ln rfl rfl rfl rfl (.inl (by rw [e2]; rfl)) ?_
    refine Ln rfl rfl rfl rfl (.inl (by rw [e2]; rfl)) ?_
    refine Ln rfl rfl rfl rfl (.inl (by rw [e2]; rfl)) ?_
    refine Ln rfl rfl rfl rfl (.inl (by rw [e2]; rfl)) ?_
    refine Lp (V_pickT rfl (evb e2) rfl) rfl rfl ?_
    exact hk2 _ (FrLe.cons rfl (FrLe.cons rfl (FrLe.cons (by rw [e2]; rfl) (FrLe.nil _))))
  · intro e2 hk2
    refine Lypb (V_move rfl rfl) rfl rfl rfl rfl e2 ?_
    refine Lypb (V_move rfl rfl) rfl rfl rfl rfl e2 ?_
    refine Lypb (V_lenL rfl rfl Tryz.underlying22 rfl rfl) rfl rfl rfl rfl e2 ?_
    refine Lypb (V_neq rfl rfl rfl) rfl rfl rfl rfl e2 ?_
    refine Lp (V_pickF rfl (evb e2) rfl) rfl rfl ?_
    exact hk2 _ (FrLe.cons rfl (FrLe.cons rfl (FrLe.cons (by rw [e2]; rfl) (FrLe.nil _))))
  intro fr hl
  refine Lfr hl ?_
  refine Lnil ?_
  refine thenN ?_
  refine AW.iff rfl (bor_iff (bnot_iff decide_eq_true_iff) (bnot_iff decide_eq_true_iff)) h (fun h => ?_) (fun h => ?_)
  · refine AW.seq ?_
    refine AW.reg ?_
    refine Lp (V_bld (vs := []) (cs := #[.int .i64 0, .int .i64 0, .int .i64 0]) rfl Tryz.underlying90 ty90 pl90 rfl rfl) rfl rfl ?_
    refine Ls rfl rfl (X_st rfl ty90 rfl rfl rfl rfl (stN_mono h fun σ h => ?_))
    refine Lp (V_asg rfl rfl) rfl rfl ?_
    refine Lnil ?_
    refine thenN ?_
    refine AW.ret ?_
    refine thenR ?_
    obtain ⟨x4_8a, x4_8b, x4_8c, hc0, h⟩ := h
    exact bRM Tryz.results50 (rCons (rAgg rfl Tryz.underlying90 rfl ty90 hc0) (rCons (rTmp rfl) rNil)) ⟨_, _, _, _, rfl, h⟩
  refine AW.skip ?_
  refine thenN ?_
  refine AW.seq ?_
  refine AW.reg ?_
  refine Lp (V_move rfl rfl) rfl rfl ?_
  refine Ls rfl rfl (X_call rfl Tryz.func87 rfl rfl rfl (ACalls.mono h ?_))
  rintro v σ ⟨x38_9, rfl, h⟩
  refine Lp (V_asg rfl rfl) rfl rfl ?_
  refine Lnil ?_
  refine thenN ?_
  refine AW.seq ?_
  refine AW.reg ?_
  refine Lp (V_move rfl rfl) rfl rfl ?_
  refine Ls rfl rfl (X_call rfl Tryz.func88 rfl rfl rfl (ACalls.mono h ?_))
  rintro v σ ⟨x40_10, rfl, h⟩
  refine Lp (V_bld (vs := [(1, .int .i64 x40_10)]) (cs := #[.int .i64 0, .int .i64 0, .int .i64 x40_10]) rfl Tryz.underlying90 ty90 pl90 rfl rfl) rfl rfl ?_
  refine Ls rfl rfl (X_new (A_alloc rfl ty90) fun x11_11 g1 g2 => ?_)
  replace h := h x11_11 g1 g2
  refine Ls rfl rfl (X_st rfl ty90 rfl rfl rfl rfl (stN_mono h fun σ h => ?_))
  refine Lnil ?_
  refine thenN ?_
  refine AW.seq ?_
  refine AW.reg ?_
  refine Lp (V_move rfl rfl) rfl rfl ?_
  refine Ls rfl rfl (X_call rfl Tryz.func88 rfl rfl rfl (ACalls.mono h ?_))
  rintro v σ ⟨x43_12, rfl, h⟩
  refine Lp (V_move rfl rfl) rfl rfl ?_
  refine Ls rfl rfl (X_call rfl Tryz.func88 rfl rfl rfl (ACalls.mono h ?_))
  rintro v σ ⟨x45_13, rfl, h⟩
  refine Lp (V_fld rfl Tryz.underlying90 rfl ty87 (by decide) rfl) rfl rfl ?_
  refine Lp (V_fld rfl Tryz.underlying87 rfl ty3 (by decide) rfl) rfl rfl ?_
  refine Ls rfl rfl (X_st rfl ty3 rfl rfl rfl rfl (stN_mono h fun σ h => ?_))
  refine Lp (V_fld rfl Tryz.underlying90 rfl ty87 (by decide) rfl) rfl rfl ?_
  refine Lp (V_fld rfl Tryz.underlying87 rfl ty3 (by decide) rfl) rfl rfl ?_
  refine Ls rfl rfl (X_st rfl ty3 rfl rfl rfl rfl (stN_mono h fun σ h => ?_))
  refine Lnil ?_
  refine thenN ?_
  refine AW.seqJ (fun fr σ => ∃ (x5_15 : Bool), FrLe [(4, .pointer (some ⟨x4_1, 0, none⟩)), (5, .bool x5_15)] fr ∧ j14_snap_readManifest B ro x4_1 Q x5_15 σ) ?_ ?_
  · rintro fr σ ⟨x5_15, hl, h⟩
    refine AW.weaken ?_ hl (HLe.refl _)
    unfold j14_snap_readManifest at h
    refine AW.ret ?_
    obtain ⟨x4_16a, x4_16b, x4_16c, hc0, h⟩ := h
    exact bRM Tryz.results50 (rCons (rAgg rfl Tryz.underlying90 rfl ty90 hc0) (rCons (rTmp rfl) rNil)) ⟨_, _, _, _, rfl, h⟩
  refine AW.drawnL (fun i => ([0, 0, 2, 0, 0, 0, 2, 0, 0, 2, 0] : List Nat).getD i 2) [(2, 4), (2, 5), (2, 6), (2, 9)] [0, 1, 2, 3, 4, 5, 6, 7, 8, 9, 10] Tryz.mixed h (by decide +kernel) ?_
  clear h
  intro ψ σ h
  obtain ⟨x50_17a, x50_17b, x50_17c, hc, h⟩ := h
  refine Dp rfl rfl rfl rfl (V_lda rfl Tryz.underlying90 rfl ty90 rfl hc) ?_
  refine Dp rfl rfl rfl rfl (V_move rfl rfl) ?_
  refine Dg rfl rfl rfl rfl (X_call rfl Tryz.func89 rfl rfl rfl (ACalls.mono h ?_))
  rintro v σ ⟨x52_18, rfl, h⟩
  refine Dp rfl rfl rfl rfl (V_eql rfl rfl rfl) ?_
  refine Dp rfl rfl rfl rfl (V_move rfl rfl) ?_
  refine splitP (decide (x52_18 = 0)) decide_eq_true_iff h ?_ ?_
  rotate_left
  · intro h e4
    refine Dpn rfl rfl rfl rfl rfl (.inl (by rw [e4]; rfl)) rfl ?_
    refine Dgn rfl rfl rfl rfl rfl (.inl (by rw [e4]; rfl)) rfl ?_
    refine Dpn rfl rfl rfl rfl rfl (.inl (by rw [e4]; rfl)) rfl ?_
    refine Dp rfl rfl rfl rfl (V_pickF rfl (evb e4) rfl) ?_
    refine Dg rfl rfl rfl rfl (X_st rfl ty90 rfl rfl rfl rfl (stN_mono h fun σ h => ?_))
    refine Dp rfl rfl rfl rfl (V_asg rfl rfl) ?_
    refine ⟨_, FrEq.refl _, fun hdj => ?_⟩
    replace h := h hdj
    refine thenN ?_
    exact ⟨_, (FrLe.cons rfl (FrLe.cons rfl (FrLe.nil _))), h⟩
  intro h e4
  refine Dpy rfl rfl rfl rfl rfl e4 rfl (V_move rfl rfl) ?_
  refine Dgy rfl rfl rfl rfl rfl e4 rfl (X_call rfl Tryz.func90 rfl rfl rfl (ACalls.mono h ?_))
  rintro v σ ⟨x56_19, rfl, h⟩
  refine Dpy rfl rfl rfl rfl rfl e4 rfl (V_eql rfl rfl rfl) ?_
  refine Dp rfl rfl rfl rfl (V_pickT rfl (evb e4) rfl) ?_
  refine Dg rfl rfl rfl rfl (X_st rfl ty90 rfl rfl rfl rfl (stN_mono h fun σ h => ?_))
  refine Dp rfl rfl rfl rfl (V_asg rfl rfl) ?_
  refine ⟨_, FrEq.refl _, fun hdj => ?_⟩
  replace h := h hdj
  refine thenN ?_
  exact ⟨_, (FrLe.cons rfl (FrLe.cons rfl (FrLe.nil _))), h⟩

def j10_snap_readChunk (B : World) (ro : AH) (x2_1 : Nat) (Q : Int → Int → Int → Int → Int → Sl → Bool → AH → Prop) (x3_11 : Bool) (σ : AH) : Prop :=
 ∃ (x2_12a : Int) (x2_12b : Int) (x2_12c : Int) (x2_12d : Int) (x2_12e : Int) (x2_12f : Sl), cellsAt ro σ ⟨x2_1, 0, none⟩ 0 [.int .i64 x2_12a, .int .i64 x2_12b, .int .i64 x2_12c, .int .i64 x2_12d, .int .i64 x2_12e, Sl.v x2_12f] ∧
 Q x2_12a x2_12b x2_12c x2_12d x2_12e x2_12f x3_11 σ

def f_snap_readChunk (B : World) (ro : AH) (a0 : Sl) (σ : AH) (Q : Int → Int → Int → Int → Int → Sl → Bool → AH → Prop) : Prop :=
 nw ro σ (.cells #[.int .i64 0, .int .i64 0, .int .i64 0, .int .i64 0, .int .i64 0, Sl.v (⟨none, 0, 0⟩ : Sl)] 116) fun x2_1 σ =>
 c_wire_NewReader B ro a0 σ fun x7_2 σ =>
 c_wire_Reader_Num B ro x7_2 σ fun x9_3 σ =>
 nw ro σ (.cells #[.int .i64 0, .int .i64 0, .int .i64 0, .int .i64 0, .int .i64 0, Sl.v (⟨none, 0, 0⟩ : Sl)] 116) fun x5_4 σ =>
 stN ⟨x5_4, 0, none⟩ (fun σ =>
  c_wire_Reader_Num B ro x7_2 σ fun x13_5 σ =>
  c_wire_Reader_Num B ro x7_2 σ fun x15_6 σ =>
  c_wire_Reader_Num B ro x7_2 σ fun x17_7 σ =>
  c_wire_Reader_Num B ro x7_2 σ fun x19_8 σ =>
  c_wire_Reader_Blob B ro x7_2 σ fun x21_9 σ =>
  stN ((⟨x5_4, 0, none⟩ : Addr).add 3) (fun σ =>
   stN ((⟨x5_4, 0, none⟩ : Addr).add 4) (fun σ =>
    stN ⟨x5_4, 0, none⟩ (fun σ =>
     stN ((⟨x5_4, 0, none⟩ : Addr).add 1) (fun σ =>
      stN ((⟨x5_4, 0, none⟩ : Addr).add 5) (fun σ =>
       lent σ fun ψ σ =>
        ∃ (x31_13a : Int) (x31_13b : Int) (x31_13c : Int) (x31_13d : Int) (x31_13e : Int) (x31_13f : Sl), cellsAt (join ro ψ) (fun _ => none) ⟨x5_4, 0, none⟩ 0 [.int .i64 x31_13a, .int .i64 x31_13b, .int .i64 x31_13c, .int .i64 x31_13d, .int .i64 x31_13e, Sl.v x31_13f] ∧
        c_wire_Reader_Err B (join ro ψ) x7_2 σ fun x33_14 σ =>
        if x33_14 = 0 then
         c_wire_Reader_Left B (join ro ψ) x7_2 σ fun x37_15 σ =>
         if x37_15 = 0 then
          ∃ (x42_16 : Int), acell (join ro ψ) σ ((⟨x5_4, 0, none⟩ : Addr).add 3) = some (.int .i64 x42_16) ∧
          if 1 ≤ x42_16 then
           ∃ (x47_17 : Int), acell (join ro ψ) σ ((⟨x5_4, 0, none⟩ : Addr).add 3) = some (.int .i64 x47_17) ∧
           if x47_17 ≤ 1048576 then
            ∃ (x52_18 : Int), acell (join ro ψ) σ ((⟨x5_4, 0, none⟩ : Addr).add 4) = some (.int .i64 x52_18) ∧
            ∃ (x54_19 : Int), acell (join ro ψ) σ ((⟨x5_4, 0, none⟩ : Addr).add 3) = some (.int .i64 x54_19) ∧
            if x52_18 < x54_19 then
             ∃ (x61_20 : Int), acell (join ro ψ) σ ⟨x5_4, 0, none⟩ = some (.int .i64 x61_20) ∧
             if x61_20 ≤ 1048576 then
              ∃ (x66_21 : Sl), acell (join ro ψ) (fun _ => none) ((⟨x5_4, 0, none⟩ : Addr).add 5) = some (Sl.v x66_21) ∧
              ∃ (x71_22 : Int), acell (join ro ψ) (fun _ => none) ⟨x5_4, 0, none⟩ = some (.int .i64 x71_22) ∧
              stN ⟨x2_1, 0, none⟩ (fun σ =>
               (Disj ψ σ → (fun σ => 
                j10_snap_readChunk B ro x2_1 Q (decide ((x66_21.len : Int) ≤ x71_22)) σ) (join ψ σ))) [.int .i64 x31_13a, .int .i64 x31_13b, .int .i64 x31_13c, .int .i64 x31_13d, .int .i64 x31_13e, Sl.v x31_13f] 0 σ
             else
             stN ⟨x2_1, 0, none⟩ (fun σ =>
              (Disj ψ σ → (fun σ => 
               j10_snap_readChunk B ro x2_1 Q false σ) (join ψ σ))) [.int .i64 x31_13a, .int .i64 x31_13b, .int .i64 x31_13c, .int .i64 x31_13d, .int .i64 x31_13e, Sl.v x31_13f] 0 σ
            else
            stN ⟨x2_1, 0, none⟩ (fun σ =>
             (Disj ψ σ → (fun σ => 
              j10_snap_readChunk B ro x2_1 Q false σ) (join ψ σ))) [.int .i64 x31_13a, .int .i64 x31_13b, .int .i64 x31_13c, .int .i64 x31_13d, .int .i64 x31_13e, Sl.v x31_13f] 0 σ
           else
           stN ⟨x2_1, 0, none⟩ (fun σ =>
            (Disj ψ σ → (fun σ => 
             j10_snap_readChunk B ro x2_1 Q false σ) (join ψ σ))) [.int .i64 x31_13a, .int .i64 x31_13b, .int .i64 x31_13c, .int .i64 x31_13d, .int .i64 x31_13e, Sl.v x31_13f] 0 σ
          else
          stN ⟨x2_1, 0, none⟩ (fun σ =>
           (Disj ψ σ → (fun σ => 
            j10_snap_readChunk B ro x2_1 Q false σ) (join ψ σ))) [.int .i64 x31_13a, .int .i64 x31_13b, .int .i64 x31_13c, .int .i64 x31_13d, .int .i64 x31_13e, Sl.v x31_13f] 0 σ
         else
         stN ⟨x2_1, 0, none⟩ (fun σ =>
          (Disj ψ σ → (fun σ => 
           j10_snap_readChunk B ro x2_1 Q false σ) (join ψ σ))) [.int .i64 x31_13a, .int .i64 x31_13b, .int .i64 x31_13c, .int .i64 x31_13d, .int .i64 x31_13e, Sl.v x31_13f] 0 σ
        else
        stN ⟨x2_1, 0, none⟩ (fun σ =>
         (Disj ψ σ → (fun σ => 
          j10_snap_readChunk B ro x2_1 Q false σ) (join ψ σ))) [.int .i64 x31_13a, .int .i64 x31_13b, .int .i64 x31_13c, .int .i64 x31_13d, .int .i64 x31_13e, Sl.v x31_13f] 0 σ) [Sl.v x21_9] 0 σ) [.int .i64 x19_8] 0 σ) [.int .i64 x17_7] 0 σ) [.int .i64 x15_6] 0 σ) [.int .i64 x13_5] 0 σ) [.int .i64 0, .int .i64 0, .int .i64 x9_3, .int .i64 0, .int .i64 0, Sl.v (⟨none, 0, 0⟩ : Sl)] 0 σ

set_option maxRecDepth 100000 in
set_option maxHeartbeats 4000000 in
theorem snap_readChunk_ok {B : World} {ro : AH} {a0 : Sl} {σ : AH} {Q : Int → Int → Int → Int → Int → Sl → Bool → AH → Prop} (h : Sep ro σ → f_snap_readChunk B ro a0 σ Q) : c_snap_readChunk B ro a0 σ Q := by
  refine ACalls.of_sep fun hsep => ?_
  replace h := h hsep
  refine ACalls.of_body (args := [Sl.v a0]) Tryz.func60 rfl (by rw [Tryz.ntmps60]; simp) ?_
  rw [Tryz.ntmps60]
  unfold f_snap_readChunk at h
  refine AW.seq ?_
  refine AW.reg ?_
  refine Ls rfl rfl (X_new (A_alloc rfl ty116) fun x2_1 g1 g2 => ?_)
  replace h := h x2_1 g1 g2
  refine Lp (V_asg rfl rfl) rfl rfl ?_
  refine Lnil ?_
  refine thenN ?_
  refine AW.seq ?_
  refine AW.reg ?_
  refine Lp (V_move rfl rfl) rfl rfl ?_
  refine Ls rfl rfl (X_call rfl Tryz.func87 rfl rfl rfl (ACalls.mono h ?_))
  rintro v σ ⟨x7_2, rfl, h⟩
  refine Lp (V_asg rfl rfl) rfl rfl ?_
  refine Lnil ?_
  refine thenN ?_
  refine AW.seq ?_
  refine AW.reg ?_
  refine Lp (V_move rfl rfl) rfl rfl ?_
  refine Ls rfl rfl (X_call rfl Tryz.func88 rfl rfl rfl (ACalls.mono h ?_))
  rintro v σ ⟨x9_3, rfl, h⟩
  refine Lp (V_bld (vs := [(1, .int .i64 x9_3)]) (cs := #[.int .i64 0, .int .i64 0, .int .i64 x9_3]) rfl Tryz.underlying90 ty90 pl90 rfl rfl) rfl rfl ?_
  refine Lp (V_bld (vs := [(0, .agg #[.int .i64 0, .int .i64 0, .int .i64 x9_3])]) (cs := #[.int .i64 0, .int .i64 0, .int .i64 x9_3, .int .i64 0, .int .i64 0, Sl.v (⟨none, 0, 0⟩ : Sl)]) rfl Tryz.underlying116 ty116 pl116 rfl rfl) rfl rfl ?_
  refine Ls rfl rfl (X_new (A_alloc rfl ty116) fun x5_4 g1 g2 => ?_)
  replace h := h x5_4 g1 g2
  refine Ls rfl rfl (X_st rfl ty116 rfl rfl rfl rfl (stN_mono h fun σ h => ?_))
  refine Lnil ?_
  refine thenN ?_
  refine AW.seq ?_
  refine AW.reg ?_
  refine Lp (V_move rfl rfl) rfl rfl ?_
  refine Ls rfl rfl (X_call rfl Tryz.func88 rfl rfl rfl (ACalls.mono h ?_))
  rintro v σ ⟨x13_5, rfl, h⟩
  refine Lp (V_move rfl rfl) rfl rfl ?_
  refine Ls rfl rfl (X_call rfl Tryz.func88 rfl rfl rfl (ACalls.mono h ?_))
  rintro v σ ⟨x15_6, rfl, h⟩
  refine Lp (V_move rfl rfl) rfl rfl ?_
  refine Ls rfl rfl (X_call rfl Tryz.func88 rfl rfl rfl (ACalls.mono h ?_))
  rintro v σ ⟨x17_7, rfl, h⟩
  refine Lp (V_move rfl rfl) rfl rfl ?_
  refine Ls rfl rfl (X_call rfl Tryz.func88 rfl rfl rfl (ACalls.mono h ?_))
  rintro v σ ⟨x19_8, rfl, h⟩
  refine Lp (V_move rfl rfl) rfl rfl ?_
  refine Ls rfl rfl (X_call rfl Tryz.func94 rfl rfl rfl (ACalls.mono h ?_))
  rintro v σ ⟨x21_9, rfl, h⟩
  refine Lp (V_fld rfl Tryz.underlying116 rfl ty3 (by decide) rfl) rfl rfl ?_
  refine Ls rfl rfl (X_st rfl ty3 rfl rfl rfl rfl (stN_mono h fun σ h => ?_))
  refine Lp (V_fld rfl Tryz.underlying116 rfl ty3 (by decide) rfl) rfl rfl ?_
  refine Ls rfl rfl (X_st rfl ty3 rfl rfl rfl rfl (stN_mono h fun σ h => ?_))
  refine Lp (V_fld rfl Tryz.underlying116 rfl ty90 (by decide) rfl) rfl rfl ?_
  refine Lp (V_fld rfl Tryz.underlying90 rfl ty87 (by decide) rfl) rfl rfl ?_
  refine Lp (V_fld rfl Tryz.underlying87 rfl ty3 (by decide) rfl) rfl rfl ?_
  refine Ls rfl rfl (X_st rfl ty3 rfl rfl rfl rfl (stN_mono h fun σ h => ?_))
  refine Lp (V_fld rfl Tryz.underlying116 rfl ty90 (by decide) rfl) rfl rfl ?_
  refine Lp (V_fld rfl Tryz.underlying90 rfl ty87 (by decide) rfl) rfl rfl ?_
  refine Lp (V_fld rfl Tryz.underlying87 rfl ty3 (by decide) rfl) rfl rfl ?_
  refine Ls rfl rfl (X_st rfl ty3 rfl rfl rfl rfl (stN_mono h fun σ h => ?_))
  refine Lp (V_fld rfl Tryz.underlying116 rfl ty22 (by decide) rfl) rfl rfl ?_
  refine Ls rfl rfl (X_st rfl ty22 rfl rfl rfl rfl (stN_mono h fun σ h => ?_))
  refine Lnil ?_
  refine thenN ?_
  refine AW.seqJ (fun fr σ => ∃ (x3_11 : Bool), FrLe [(2, .pointer (some ⟨x2_1, 0, none⟩)), (3, .bool x3_11)] fr ∧ j10_snap_readChunk B ro x2_1 Q x3_11 σ) ?_ ?_
  · rintro fr σ ⟨x3_11, hl, h⟩
    refine AW.weaken ?_ hl (HLe.refl _)
    unfold j10_snap_readChunk at h
    refine AW.ret ?_
    obtain ⟨x2_12a, x2_12b, x2_12c, x2_12d, x2_12e, x2_12f, hc0, h⟩ := h
    exact bRM Tryz.results60 (rCons (rAgg rfl Tryz.underlying116 rfl ty116 hc0) (rCons (rTmp rfl) rNil)) ⟨_, _, _, _, _, _, _, rfl, h⟩
  refine AW.drawnL (fun i => ([0, 0, 2, 0, 0, 0, 2, 0, 0, 0, 0, 3, 0, 0, 0, 0, 3, 0, 0, 0, 0, 3, 0, 3, 0, 0, 0, 0, 0, 0, 3, 0, 0, 0, 0, 0, 0, 0, 0, 0, 0, 0, 0, 2, 0] : List Nat).getD i 2) [(2, 4), (2, 5), (2, 6), (2, 8), (2, 9), (2, 10), (2, 11), (2, 13), (2, 14), (2, 15), (2, 16), (2, 18), (2, 19), (2, 20), (2, 21), (2, 22), (2, 23), (2, 25), (2, 26), (2, 27), (2, 28), (2, 29), (2, 30), (2, 32), (2, 33), (2, 43), (6, 9), (6, 10), (6, 11), (6, 13), (6, 14), (6, 15), (6, 16), (6, 18), (6, 19), (6, 20), (6, 21), (6, 22), (6, 23), (6, 25), (6, 26), (6, 27), (6, 28), (6, 29), (6, 30), (6, 32), (6, 33), (6, 43), (11, 12), (11, 13), (11, 14), (11, 18), (11, 19), (11, 25), (11, 26), (11, 32), (11, 33), (11, 43), (16, 17), (16, 18), (16, 19), (16, 25), (16, 26), (16, 32), (16, 33), (16, 43), (21, 24), (21, 25), (21, 26), (21, 32), (21, 33), (21, 43), (23, 24), (23, 25), (23, 26), (23, 32), (23, 33), (23, 43), (30, 31), (30, 32), (30, 33), (30, 43)] [0, 1, 2, 3, 4, 5, 6, 7, 8, 9, 10, 11, 12, 13, 14, 15, 16, 17, 18, 19, 20, 22, 21, 23, 24, 25, 26, 27, 28, 29, 30, 31, 32, 33, 34, 35, 36, 37, 38, 39, 40, 41, 42, 43, 44] Tryz.mixed h (by decide +kernel) ?_
  clear h
  intro ψ σ h
  obtain ⟨x31_13a, x31_13b, x31_13c, x31_13d, x31_13e, x31_13f, hc, h⟩ := h
  refine Dp rfl rfl rfl rfl (V_lda rfl Tryz.underlying116 rfl ty116 rfl hc) ?_
  refine Dp rfl rfl rfl rfl (V_move rfl rfl) ?_
  refine Dg rfl rfl rfl rfl (X_call rfl Tryz.func89 rfl rfl rfl (ACalls.mono h ?_))
  rintro v σ ⟨x33_14, rfl, h⟩
  refine Dp rfl rfl rfl rfl (V_eql rfl rfl rfl) ?_
  refine Dp rfl rfl rfl rfl (V_move rfl rfl) ?_
  refine splitP (decide (x33_14 = 0)) decide_eq_true_iff h ?_ ?_
  rotate_left
  · intro h e4
    refine Dpn rfl rfl rfl rfl rfl (.inl (by rw [e4]; rfl)) rfl ?_
    refine Dgn rfl rfl rfl rfl rfl (.inl (by rw [e4]; rfl)) rfl ?_
    refine Dpn rfl rfl rfl rfl rfl (.inl (by rw [e4]; rfl)) rfl ?_
    refine Dp rfl rfl rfl rfl (V_pickF rfl (evb e4) rfl) ?_
    refine Dp rfl rfl rfl rfl (V_move rfl rfl) ?_
    refine Dpn rfl rfl rfl rfl rfl (.inl rfl) rfl ?_
    refine Drn rfl rfl rfl rfl rfl (.inl rfl) rfl ?_
    refine Dpn rfl rfl rfl rfl rfl (.inl rfl) rfl ?_
    refine Dp rfl rfl rfl rfl (V_pickF rfl (evb rfl) rfl) ?_
    refine Dp rfl rfl rfl rfl (V_move rfl rfl) ?_
    refine Dpn rfl rfl rfl rfl rfl (.inl rfl) rfl ?_
    refine Drn rfl rfl rfl rfl rfl (.inl rfl) rfl ?_
    refine Dpn rfl rfl rfl rfl rfl (.inl rfl) rfl ?_
    refine Dp rfl rfl rfl rfl (V_pickF rfl (evb rfl) rfl) ?_
    refine Dp rfl rfl rfl rfl (V_move rfl rfl) ?_
    refine Dpn rfl rfl rfl rfl rfl (.inl rfl) rfl ?_
    refine Dpn rfl rfl rfl rfl rfl (.inl rfl) rfl ?_
    refine Drn rfl rfl rfl rfl rfl (.inl rfl) rfl ?_
    refine Drn rfl rfl rfl rfl rfl (.inl rfl) rfl ?_
    refine Dpn rfl rfl rfl rfl rfl (.inl rfl) rfl ?_
    refine Dp rfl rfl rfl rfl (V_pickF rfl (evb rfl) rfl) ?_
    refine Dp rfl rfl rfl rfl (V_move rfl rfl) ?_
    refine Dpn rfl rfl rfl rfl rfl (.inl rfl) rfl ?_
    refine Dpn rfl rfl rfl rfl rfl (.inl rfl) rfl ?_
    refine Dpn rfl rfl rfl rfl rfl (.inl rfl) rfl ?_
    refine Drn rfl rfl rfl rfl rfl (.inl rfl) rfl ?_
    refine Dpn rfl rfl rfl rfl rfl (.inl rfl) rfl ?_
    refine Dp rfl rfl rfl rfl (V_pickF rfl (evb rfl) rfl) ?_
    refine Dp rfl rfl rfl rfl (V_move rfl rfl) ?_
    refine Dpn rfl rfl rfl rfl rfl (.inl rfl) rfl ?_
    refine Dpn rfl rfl rfl rfl rfl (.inl rfl) rfl ?_
    refine Dpn rfl rfl rfl rfl rfl (.inl rfl) rfl ?_
    refine Dpn rfl rfl rfl rfl rfl (.inl rfl) rfl ?_
    refine Dpn rfl rfl rfl rfl rfl (.inl rfl) rfl ?_
    refine Dpn rfl rfl rfl rfl rfl (.inl rfl) rfl ?_
    refine Dpn rfl rfl rfl rfl rfl (.inl rfl) rfl ?_
    refine Dpn rfl rfl rfl rfl rfl (.inl rfl) rfl ?_
    refine Dp rfl rfl rfl rfl (V_pickF rfl (evb rfl) rfl) ?_
    refine Dg rfl rfl rfl rfl (X_st rfl ty116 rfl rfl rfl rfl (stN_mono h fun σ h => ?_))
    refine Dp rfl rfl rfl rfl (V_asg rfl rfl) ?_
    refine ⟨_, FrEq.refl _, fun hdj => ?_⟩
    replace h := h hdj
    refine thenN ?_
    exact ⟨_, (FrLe.cons rfl (FrLe.cons rfl (FrLe.nil _))), h⟩
  intro h e4
  refine Dpy rfl rfl rfl rfl rfl e4 rfl (V_move rfl rfl) ?_
  refine Dgy rfl rfl rfl rfl rfl e4 rfl (X_call rfl Tryz.func90 rfl rfl rfl (ACalls.mono h ?_))
  rintro v σ ⟨x37_15, rfl, h⟩
  refine Dpy rfl rfl rfl rfl rfl e4 rfl (V_eql rfl rfl rfl) ?_
  refine Dp rfl rfl rfl rfl (V_pickT rfl (evb e4) rfl) ?_
  refine Dp rfl rfl rfl rfl (V_move rfl rfl) ?_
  refine splitP (decide (x37_15 = 0)) decide_eq_true_iff h ?_ ?_
  rotate_left
  · intro h e9
    refine Dpn rfl rfl rfl rfl rfl (.inl (by rw [e9]; rfl)) rfl ?_
    refine Drn rfl rfl rfl rfl rfl (.inl (by rw [e9]; rfl)) rfl ?_
    refine Dpn rfl rfl rfl rfl rfl (.inl (by rw [e9]; rfl)) rfl ?_
    refine Dp rfl rfl rfl rfl (V_pickF rfl (evb e9) rfl) ?_
    refine Dp rfl rfl rfl rfl (V_move rfl rfl) ?_
    refine Dpn rfl rfl rfl rfl rfl (.inl rfl) rfl ?_
    refine Drn rfl rfl rfl rfl rfl (.inl rfl) rfl ?_
    refine Dpn rfl rfl rfl rfl rfl (.inl rfl) rfl ?_
    refine Dp rfl rfl rfl rfl (V_pickF rfl (evb rfl) rfl) ?_
    refine Dp rfl rfl rfl rfl (V_move rfl rfl) ?_
    refine Dpn rfl rfl rfl rfl rfl (.inl rfl) rfl ?_
    refine Dpn rfl rfl rfl rfl rfl (.inl rfl) rfl ?_
    refine Drn rfl rfl rfl rfl rfl (.inl rfl) rfl ?_
    refine Drn rfl rfl rfl rfl rfl (.inl rfl) rfl ?_
    refine Dpn rfl rfl rfl rfl rfl (.inl rfl) rfl ?_
    refine Dp rfl rfl rfl rfl (V_pickF rfl (evb rfl) rfl) ?_
    refine Dp rfl rfl rfl rfl (V_move rfl rfl) ?_
    refine Dpn rfl rfl rfl rfl rfl (.inl rfl) rfl ?_
    refine Dpn rfl rfl rfl rfl rfl (.inl rfl) rfl ?_
    refine Dpn rfl rfl rfl rfl rfl (.inl rfl) rfl ?_
    refine Drn rfl rfl rfl rfl rfl (.inl rfl) rfl ?_
    refine Dpn rfl rfl rfl rfl rfl (.inl rfl) rfl ?_
    refine Dp rfl rfl rfl rfl (V_pickF rfl (evb rfl) rfl) ?_
    refine Dp rfl rfl rfl rfl (V_move rfl rfl) ?_
    refine Dpn rfl rfl rfl rfl rfl (.inl rfl) rfl ?_
    refine Dpn rfl rfl rfl rfl rfl (.inl rfl) rfl ?_
    refine Dpn rfl rfl rfl rfl rfl (.inl rfl) rfl ?_
    refine Dpn rfl rfl rfl rfl rfl (.inl rfl) rfl ?_
    refine Dpn rfl rfl rfl rfl rfl (.inl rfl) rfl ?_
    refine Dpn rfl rfl rfl rfl rfl (.inl rfl) rfl ?_
    refine Dpn rfl rfl rfl rfl rfl (.inl rfl) rfl ?_
    refine Dpn rfl rfl rfl rfl rfl (.inl rfl) rfl ?_
    refine Dp rfl rfl rfl rfl (V_pickF rfl (evb rfl) rfl) ?_
    refine Dg rfl rfl rfl rfl (X_st rfl ty116 rfl rfl rfl rfl (stN_mono h fun σ h => ?_))
    refine Dp rfl rfl rfl rfl (V_asg rfl rfl) ?_
    refine ⟨_, FrEq.refl _, fun hdj => ?_⟩
    replace h := h hdj
    refine thenN ?_
    exact ⟨_, (FrLe.cons rfl (FrLe.cons rfl (FrLe.nil _))), h⟩
  intro h e9
  refine Dpy rfl rfl rfl rfl rfl e9 rfl (V_fld rfl Tryz.underlying116 rfl ty3 (by decide) rfl) ?_
  obtain ⟨x42_16, hc, h⟩ := h
  refine Dry rfl rfl rfl rfl rfl e9 rfl (R_ld rfl Tryz.underlying3 rfl rfl hc) ?_
  refine Dpy rfl rfl rfl rfl rfl e9 rfl (V_geq rfl rfl rfl) ?_
  refine Dp rfl rfl rfl rfl (V_pickT rfl (evb e9) rfl) ?_
  refine Dp rfl rfl rfl rfl (V_move rfl rfl) ?_
  refine splitP (decide (1 ≤ x42_16)) decide_eq_true_iff h ?_ ?_
  rotate_left
  · intro h e14
    refine Dpn rfl rfl rfl rfl rfl (.inl (by rw [e14]; rfl)) rfl ?_
    refine Drn rfl rfl rfl rfl rfl (.inl (by rw [e14]; rfl)) rfl ?_
    refine Dpn rfl rfl rfl rfl rfl (.inl (by rw [e14]; rfl)) rfl ?_
    refine Dp rfl rfl rfl rfl (V_pickF rfl (evb e14) rfl) ?_
    refine Dp rfl rfl rfl rfl (V_move rfl rfl) ?_
    refine Dpn rfl rfl rfl rfl rfl (.inl rfl) rfl ?_
    refine Dpn rfl rfl rfl rfl rfl (.inl rfl) rfl ?_
    refine Drn rfl rfl rfl rfl rfl (.inl rfl) rfl ?_
    refine Drn rfl rfl rfl rfl rfl (.inl rfl) rfl ?_
    refine Dpn rfl rfl rfl rfl rfl (.inl rfl) rfl ?_
    refine Dp rfl rfl rfl rfl (V_pickF rfl (evb rfl) rfl) ?_
    refine Dp rfl rfl rfl rfl (V_move rfl rfl) ?_
    refine Dpn rfl rfl rfl rfl rfl (.inl rfl) rfl ?_
    refine Dpn rfl rfl rfl rfl rfl (.inl rfl) rfl ?_
    refine Dpn rfl rfl rfl rfl rfl (.inl rfl) rfl ?_
    refine Drn rfl rfl rfl rfl rfl (.inl rfl) rfl ?_
    refine Dpn rfl rfl rfl rfl rfl (.inl rfl) rfl ?_
    refine Dp rfl rfl rfl rfl (V_pickF rfl (evb rfl) rfl) ?_
    refine Dp rfl rfl rfl rfl (V_move rfl rfl) ?_
    refine Dpn rfl rfl rfl rfl rfl (.inl rfl) rfl ?_
    refine Dpn rfl rfl rfl rfl rfl (.inl rfl) rfl ?_
    refine Dpn rfl rfl rfl rfl rfl (.inl rfl) rfl ?_
    refine Dpn rfl rfl rfl rfl rfl (.inl rfl) rfl ?_
    refine Dpn rfl rfl rfl rfl rfl (.inl rfl) rfl ?_
    refine Dpn rfl rfl rfl rfl rfl (.inl rfl) rfl ?_
    refine Dpn rfl rfl rfl rfl rfl (.inl rfl) rfl ?_
    refine Dpn rfl rfl rfl rfl rfl (.inl rfl) rfl ?_
    refine Dp rfl rfl rfl rfl (V_pickF rfl (evb rfl) rfl) ?_
    refine Dg rfl rfl rfl rfl (X_st rfl ty116 rfl rfl rfl rfl (stN_mono h fun σ h => ?_))
    refine Dp rfl rfl rfl rfl (V_asg rfl rfl) ?_
    refine ⟨_, FrEq.refl _, fun hdj => ?_⟩
    replace h := h hdj
    refine thenN ?_
    exact ⟨_, (FrLe.cons rfl (FrLe.cons rfl (FrLe.nil _))), h⟩
  intro h e14
  refine Dpy rfl rfl rfl rfl rfl e14 rfl (V_fld rfl Tryz.underlying116 rfl ty3 (by decide) rfl) ?_
  obtain ⟨x47_17, hc, h⟩ := h
  refine Dry rfl rfl rfl rfl rfl e14 rfl (R_ld rfl Tryz.underlying3 rfl rfl hc) ?_
  refine Dpy rfl rfl rfl rfl rfl e14 rfl (V_leq rfl rfl rfl) ?_
  refine Dp rfl rfl rfl rfl (V_pickT rfl (evb e14) rfl) ?_
  refine Dp rfl rfl rfl rfl (V_move rfl rfl) ?_
  refine splitP (decide (x47_17 ≤ 1048576)) decide_eq_true_iff h ?_ ?_
  rotate_left
  · intro h e19
    refine Dpn rfl rfl rfl rfl rfl (.inl (by rw [e19]; rfl)) rfl ?_
    refine Dpn rfl rfl rfl rfl rfl (.inl (by rw [e19]; rfl)) rfl ?_
    refine Drn rfl rfl rfl rfl rfl (.inl (by rw [e19]; rfl)) rfl ?_
    refine Drn rfl rfl rfl rfl rfl (.inl (by rw [e19]; rfl)) rfl ?_
    refine Dpn rfl rfl rfl rfl rfl (.inl (by rw [e19]; rfl)) rfl ?_
    refine Dp rfl rfl rfl rfl (V_pickF rfl (evb e19) rfl) ?_
    refine Dp rfl rfl rfl rfl (V_move rfl rfl) ?_
    refine Dpn rfl rfl rfl rfl rfl (.inl rfl) rfl ?_
    refine Dpn rfl rfl rfl rfl rfl (.inl rfl) rfl ?_
    refine Dpn rfl rfl rfl rfl rfl (.inl rfl) rfl ?_
    refine Drn rfl rfl rfl rfl rfl (.inl rfl) rfl ?_
    refine Dpn rfl rfl rfl rfl rfl (.inl rfl) rfl ?_
    refine Dp rfl rfl rfl rfl (V_pickF rfl (evb rfl) rfl) ?_
    refine Dp rfl rfl rfl rfl (V_move rfl rfl) ?_
    refine Dpn rfl rfl rfl rfl rfl (.inl rfl) rfl ?_
    refine Dpn rfl rfl rfl rfl rfl (.inl rfl) rfl ?_
    refine Dpn rfl rfl rfl rfl rfl (.inl rfl) rfl ?_
    refine Dpn rfl rfl rfl rfl rfl (.inl rfl) rfl ?_
    refine Dpn rfl rfl rfl rfl rfl (.inl rfl) rfl ?_
    refine Dpn rfl rfl rfl rfl rfl (.inl rfl) rfl ?_
    refine Dpn rfl rfl rfl rfl rfl (.inl rfl) rfl ?_
    refine Dpn rfl rfl rfl rfl rfl (.inl rfl) rfl ?_
    refine Dp rfl rfl rfl rfl (V_pickF rfl (evb rfl) rfl) ?_
    refine Dg rfl rfl rfl rfl (X_st rfl ty116 rfl rfl rfl rfl (stN_mono h fun σ h => ?_))
    refine Dp rfl rfl rfl rfl (V_asg rfl rfl) ?_
    refine ⟨_, FrEq.refl _, fun hdj => ?_⟩
    replace h := h hdj
    refine thenN ?_
    exact ⟨_, (FrLe.cons rfl (FrLe.cons rfl (FrLe.nil _))), h⟩
  intro h e19
  refine Dpy rfl rfl rfl rfl rfl e19 rfl (V_fld rfl Tryz.underlying116 rfl ty3 (by decide) rfl) ?_
  refine Dpy rfl rfl rfl rfl rfl e19 rfl (V_fld rfl Tryz.underlying116 rfl ty3 (by decide) rfl) ?_
  obtain ⟨x52_18, hc, h⟩ := h
  refine Dry rfl rfl rfl rfl rfl e19 rfl (R_ld rfl Tryz.underlying3 rfl rfl hc) ?_
  obtain ⟨x54_19, hc, h⟩ := h
  refine Dry rfl rfl rfl rfl rfl e19 rfl (R_ld rfl Tryz.underlying3 rfl rfl hc) ?_
  refine Dpy rfl rfl rfl rfl rfl e19 rfl (V_lss rfl rfl rfl) ?_
  refine Dp rfl rfl rfl rfl (V_pickT rfl (evb e19) rfl) ?_
  refine Dp rfl rfl rfl rfl (V_move rfl rfl) ?_
  refine splitP (decide (x52_18 < x54_19)) decide_eq_true_iff h ?_ ?_
  rotate_left
  · intro h e26
    refine Dpn rfl rfl rfl rfl rfl (.inl (by rw [e26]; rfl)) rfl ?_
    refine Dpn rfl rfl rfl rfl rfl (.inl (by rw [e26]; rfl)) rfl ?_
    refine Dpn rfl rfl rfl rfl rfl (.inl (by rw [e26]; rfl)) rfl ?_
    refine Drn rfl rfl rfl rfl rfl (.inl (by rw [e26]; rfl)) rfl ?_
    refine Dpn rfl rfl rfl rfl rfl (.inl (by rw [e26]; rfl)) rfl ?_
    refine Dp rfl rfl rfl rfl (V_pickF rfl (evb e26) rfl) ?_
    refine Dp rfl rfl rfl rfl (V_move rfl rfl) ?_
    refine Dpn rfl rfl rfl rfl rfl (.inl rfl) rfl ?_
    refine Dpn rfl rfl rfl rfl rfl (.inl rfl) rfl ?_
    refine Dpn rfl rfl rfl rfl rfl (.inl rfl) rfl ?_
    refine Dpn rfl rfl rfl rfl rfl (.inl rfl) rfl ?_
    refine Dpn rfl rfl rfl rfl rfl (.inl rfl) rfl ?_
    refine Dpn rfl rfl rfl rfl rfl (.inl rfl) rfl ?_
    refine Dpn rfl rfl rfl rfl rfl (.inl rfl) rfl ?_
    refine Dpn rfl rfl rfl rfl rfl (.inl rfl) rfl ?_
    refine Dp rfl rfl rfl rfl (V_pickF rfl (evb rfl) rfl) ?_
    refine Dg rfl rfl rfl rfl (X_st rfl ty116 rfl rfl rfl rfl (stN_mono h fun σ h => ?_))
    refine Dp rfl rfl rfl rfl (V_asg rfl rfl) ?_
    refine ⟨_, FrEq.refl _, fun hdj => ?_⟩
    replace h := h hdj
    refine thenN ?_
    exact ⟨_, (FrLe.cons rfl (FrLe.cons rfl (FrLe.nil _))), h⟩
  intro h e26
  refine Dpy rfl rfl rfl rfl rfl e26 rfl (V_fld rfl Tryz.underlying116 rfl ty90 (by decide) rfl) ?_
  refine Dpy rfl rfl rfl rfl rfl e26 rfl (V_fld rfl Tryz.underlying90 rfl ty87 (by decide) rfl) ?_
  refine Dpy rfl rfl rfl rfl rfl e26 rfl (V_fld rfl Tryz.underlying87 rfl ty3 (by decide) rfl) ?_
  obtain ⟨x61_20, hc, h⟩ := h
  refine Dry rfl rfl rfl rfl rfl e26 rfl (R_ld rfl Tryz.underlying3 rfl rfl hc) ?_
  refine Dpy rfl rfl rfl rfl rfl e26 rfl (V_leq rfl rfl rfl) ?_
  refine Dp rfl rfl rfl rfl (V_pickT rfl (evb e26) rfl) ?_
  refine Dp rfl rfl rfl rfl (V_move rfl rfl) ?_
  refine splitP (decide (x61_20 ≤ 1048576)) decide_eq_true_iff h ?_ ?_
  rotate_left
  · intro h e33
    refine Dpn rfl rfl rfl rfl rfl (.inl (by rw [e33]; rfl)) rfl ?_
    refine Dpn rfl rfl rfl rfl rfl (.inl (by rw [e33]; rfl)) rfl ?_
    refine Dpn rfl rfl rfl rfl rfl (.inl (by rw [e33]; rfl)) rfl ?_
    refine Dpn rfl rfl rfl rfl rfl (.inl (by rw [e33]; rfl)) rfl ?_
    refine Dpn rfl rfl rfl rfl rfl (.inl (by rw [e33]; rfl)) rfl ?_
    refine Dpn rfl rfl rfl rfl rfl (.inl (by rw [e33]; rfl)) rfl ?_
    refine Dpn rfl rfl rfl rfl rfl (.inl (by rw [e33]; rfl)) rfl ?_
    refine Dpn rfl rfl rfl rfl rfl (.inl (by rw [e33]; rfl)) rfl ?_
    refine Dp rfl rfl rfl rfl (V_pickF rfl (evb e33) rfl) ?_
    refine Dg rfl rfl rfl rfl (X_st rfl ty116 rfl rfl rfl rfl (stN_mono h fun σ h => ?_))
    refine Dp rfl rfl rfl rfl (V_asg rfl rfl) ?_
    refine ⟨_, FrEq.refl _, fun hdj => ?_⟩
    replace h := h hdj
    refine thenN ?_
    exact ⟨_, (FrLe.cons rfl (FrLe.cons rfl (FrLe.nil _))), h⟩
  intro h e33
  refine Dpy rfl rfl rfl rfl rfl e33 rfl (V_fld rfl Tryz.underlying116 rfl ty22 (by decide) rfl) ?_
  obtain ⟨x66_21, hc, h⟩ := h
  refine Dpy rfl rfl rfl rfl rfl e33 rfl (V_ld rfl Tryz.underlying22 rfl rfl hc) ?_
  refine Dpy rfl rfl rfl rfl rfl e33 rfl (V_lenL rfl rfl Tryz.underlying22 rfl rfl) ?_
  refine Dpy rfl rfl rfl rfl rfl e33 rfl (V_fld rfl Tryz.underlying116 rfl ty90 (by decide) rfl) ?_
  refine Dpy rfl rfl rfl rfl rfl e33 rfl (V_fld rfl Tryz.underlying90 rfl ty87 (by decide) rfl) ?_
  refine Dpy rfl rfl rfl rfl rfl e33 rfl (V_fld rfl Tryz.underlying87 rfl ty3 (by decide) rfl) ?_
  obtain ⟨x71_22, hc, h⟩ := h
  refine Dpy rfl rfl rfl rfl rfl e33 rfl (V_ld rfl Tryz.underlying3 rfl rfl hc) ?_
  refine Dpy rfl rfl rfl rfl rfl e33 rfl (V_leq rfl rfl rfl) ?_
  refine Dp rfl rfl rfl rfl (V_pickT rfl (evb e33) rfl) ?_
  refine Dg rfl rfl rfl rfl (X_st rfl ty116 rfl rfl rfl rfl (stN_mono h fun σ h => ?_))
  refine Dp rfl rfl rfl rfl (V_asg rfl rfl) ?_
  refine ⟨_, FrEq.refl _, fun hdj => ?_⟩
  replace h := h hdj
  refine thenN ?_
  exact ⟨_, (FrLe.cons rfl (FrLe.cons rfl (FrLe.nil _))), h⟩

end Go.Proofs.YtfobjidchipdaaaGreatDoor.G
