/- GSn, DgA, CkA, MapN, CkB, StP, CkC, CkD, CkE -/
import Derived.Test.YtfobjidchipdaaaGreatDoorXF
/- Functions as predicate transformers, and the proofs that the code does what they tell: printed by wip/tools/gen.py. -/
namespace Go.Proofs.YtfobjidchipdaaaGreatDoor.G
open Go Go.Proofs.YtfobjidchipdaaaGreatDoor.SL
set_option linter.unusedVariables false
set_option linter.unusedSimpArgs false

def j19_snap_Save (B : World) (ro : AH) (Q : Int → AH → Prop) (σ : AH) : Prop :=
 Q 0 σ

def j26_snap_Save (B : World) (ro : AH) (a1 : ByteArray) (x4_1 : Nat) (x13_8 : Nat) (x101_23 : Sl) (x103_25 : Int) (Q : Int → AH → Prop) (Y24 : (Int) → AH → Prop) (σ : AH) : Prop :=
 Y24 (IntKind.i64.wrap (x103_25 + 1)) σ

def j30_snap_Save (B : World) (ro : AH) (a1 : ByteArray) (x4_1 : Nat) (x13_8 : Nat) (x101_23 : Sl) (x103_25 : Int) (x106_28 : ByteArray) (Q : Int → AH → Prop) (Y24 : (Int) → AH → Prop) (x114_31 : Bool) (σ : AH) : Prop :=
 if x114_31 = true then
  ∃ (x115_32 : Option Addr), acell ro σ ⟨x4_1, 0, none⟩ = some (.pointer x115_32) ∧
  nw ro σ (.cells #[.string x106_28] 9) fun x117_33 σ =>
  c_disk_Disk_Remove B ro x115_32 (⟨some ⟨x117_33, 0, none⟩, 1, 1⟩ : Sl) σ fun x118_34 σ =>
  j26_snap_Save B ro a1 x4_1 x13_8 x101_23 x103_25 Q Y24 σ
 else
 j26_snap_Save B ro a1 x4_1 x13_8 x101_23 x103_25 Q Y24 σ

def l24_snap_Save (B : World) (ro : AH) (a1 : ByteArray) (x4_1 : Nat) (x13_8 : Nat) (x101_23 : Sl) (Q : Int → AH → Prop) : (Int) → AH → ((Int) → AH → Prop) → Prop := fun x103_25 σ Y24 =>
 if x103_25 < (x101_23.len : Int) then
  ∃ p105_27 : Addr, x101_23.a = some p105_27 ∧ (0 : Int) ≤ x103_25 ∧ x103_25 < (x101_23.len : Int) ∧
  ∃ (x106_28 : ByteArray), acell ro σ (p105_27.add (Int.toNat x103_25 * 1)) = some (.string x106_28) ∧
  ∃ (x108_29 : ByteArray), acell ro σ ⟨x13_8, 0, none⟩ = some (.string x108_29) ∧
  if ¬ (x106_28 = x108_29) then
   c_snap_isData B ro a1 x106_28 σ fun x113_35 σ =>
   j30_snap_Save B ro a1 x4_1 x13_8 x101_23 x103_25 x106_28 Q Y24 x113_35 σ
  else
  j30_snap_Save B ro a1 x4_1 x13_8 x101_23 x103_25 x106_28 Q Y24 false σ
 else
 j19_snap_Save B ro Q σ

def j10_snap_Save (B : World) (ro : AH) (a1 : ByteArray) (x4_1 : Nat) (x13_8 : Nat) (x14_9 : Nat) (Q : Int → AH → Prop) (σ : AH) : Prop :=
 ∃ (x87_11 : Option Addr), acell ro σ ⟨x4_1, 0, none⟩ = some (.pointer x87_11) ∧
 ∃ (x88_12 : ByteArray), acell ro σ ⟨x13_8, 0, none⟩ = some (.string x88_12) ∧
 ∃ (x89_13 : ByteArray), acell ro σ ⟨x14_9, 0, none⟩ = some (.string x89_13) ∧
 nw ro σ (.cells #[.string x88_12, .string x89_13] 9) fun x90_14 σ =>
 c_disk_Disk_Sync B ro x87_11 (⟨some ⟨x90_14, 0, none⟩, 2, 2⟩ : Sl) σ fun x91_15 σ =>
 ∃ (x92_16 : Option Addr), acell ro σ ⟨x4_1, 0, none⟩ = some (.pointer x92_16) ∧
 ∃ (x93_17 : ByteArray), acell ro σ ⟨x14_9, 0, none⟩ = some (.string x93_17) ∧
 a1.size + (⟨#[46, 109, 97, 110]⟩ : ByteArray).size ≤ 9223372036854775807 ∧
 c_disk_Disk_Rename B ro x92_16 x93_17 (a1 ++ (⟨#[46, 109, 97, 110]⟩ : ByteArray)) σ fun x96_18 σ =>
 ∃ (x97_20 : Option Addr), acell ro σ ⟨x4_1, 0, none⟩ = some (.pointer x97_20) ∧
 ∃ p98_21 : Addr, x97_20 = some p98_21 ∧
 ∃ (x100_22 : Option Nat), acell ro σ p98_21 = some (.map x100_22) ∧
 c_disk_table_Files B ro x100_22 σ fun x101_23 σ =>
 lfpD (l24_snap_Save B ro a1 x4_1 x13_8 x101_23 Q ) (0) σ

def l41_snap_Save (B : World) (ro : AH) (a1 : ByteArray) (x4_1 : Nat) (x13_8 : Nat) (x14_9 : Nat) (x69_40 : Nat) (Q : Int → AH → Prop) : (Int) → AH → ((Int) → AH → Prop) → Prop := fun x71_42 σ Y41 =>
 if x71_42 < ((⟨some ⟨x69_40, 0, none⟩, 2, 2⟩ : Sl).len : Int) then
  ∃ p73_43 : Addr, (⟨some ⟨x69_40, 0, none⟩, 2, 2⟩ : Sl).a = some p73_43 ∧ (0 : Int) ≤ x71_42 ∧ x71_42 < ((⟨some ⟨x69_40, 0, none⟩, 2, 2⟩ : Sl).len : Int) ∧
  ∃ (x74_44a : ByteArray) (x74_44b : Sl), cellsAt ro σ (p73_43.add (Int.toNat x71_42 * 2)) 0 [.string x74_44a, Sl.v x74_44b] ∧
  nw ro σ (.cells #[.string ByteArray.empty, Sl.v (⟨none, 0, 0⟩ : Sl)] 85) fun x17_45 σ =>
  stN ⟨x17_45, 0, none⟩ (fun σ =>
   ∃ (x75_46 : Option Addr), acell ro σ ⟨x4_1, 0, none⟩ = some (.pointer x75_46) ∧
   ∃ (x77_47 : ByteArray), acell ro σ ⟨x17_45, 0, none⟩ = some (.string x77_47) ∧
   ∃ (x79_48 : Sl), acell ro σ ((⟨x17_45, 0, none⟩ : Addr).add 1) = some (Sl.v x79_48) ∧
   c_disk_Disk_Append B ro x75_46 x77_47 x79_48 σ fun x80_49 σ =>
   if ¬ (x80_49 = 0) then
    c_snap_Save_c1 B ro ⟨x13_8, 0, none⟩ ⟨x14_9, 0, none⟩ ⟨x4_1, 0, none⟩ σ fun σ =>
    Q x80_49 σ
   else
   Y41 (IntKind.i64.wrap (x71_42 + 1)) σ) [.string x74_44a, Sl.v x74_44b] 0 σ
 else
 j10_snap_Save B ro a1 x4_1 x13_8 x14_9 Q σ

def f_snap_Save (B : World) (ro : AH) (a0 : Option Addr) (a1 : ByteArray) (a2 : Int) (a3 : Sl) (σ : AH) (Q : Int → AH → Prop) : Prop :=
 nw ro σ (.cells #[.pointer a0] 26) fun x4_1 σ =>
 ∃ (x22_2 : Option Addr), acell ro σ ⟨x4_1, 0, none⟩ = some (.pointer x22_2) ∧
 c_snap_Load B ro x22_2 a1 σ fun x24_3 x24_4 x24_5 x24_6 σ =>
 if ¬ (x24_6 = 0) then
  Q x24_6 σ
 else
 if (a2 < 0) ∨ (4611686018427387903 < a2) then
  Q 10 σ
 else
 if 1048576 < (a3.len : Int) then
  Q 14 σ
 else
 if (x24_5 = true) ∧ (a2 ≤ x24_3) then
  Q 41 σ
 else
 c_snap_dataFile B ro a1 a2 σ fun x53_7 σ =>
 a1.size + (⟨#[46, 116, 109, 112]⟩ : ByteArray).size ≤ 9223372036854775807 ∧
 nw ro σ (.cells #[.string ByteArray.empty] 9) fun x13_8 σ =>
 nw ro σ (.cells #[.string ByteArray.empty] 9) fun x14_9 σ =>
 stN ⟨x13_8, 0, none⟩ (fun σ =>
  stN ⟨x14_9, 0, none⟩ (fun σ =>
   c_snap_Save_c1 B ro ⟨x13_8, 0, none⟩ ⟨x14_9, 0, none⟩ ⟨x4_1, 0, none⟩ σ fun σ =>
   lent σ fun ψ σ =>
    ∃ (x59_36 : ByteArray), acell (join ro ψ) (fun _ => none) ⟨x13_8, 0, none⟩ = some (.string x59_36) ∧
    ∃ (x62_37 : ByteArray), acell (join ro ψ) (fun _ => none) ⟨x14_9, 0, none⟩ = some (.string x62_37) ∧
    c_snap_digestOf B (join ro ψ) a3 σ fun x64_38a x64_38b σ =>
    c_snap_manifest_bytes B (join ro ψ) x64_38a x64_38b a2 σ fun x67_39 σ =>
    nw (join ro ψ) σ (.cells #[.string x59_36, Sl.v a3, .string x62_37, Sl.v x67_39] 85) fun x69_40 σ =>
    (Disj ψ σ → (fun σ => 
     lfpD (l41_snap_Save B ro a1 x4_1 x13_8 x14_9 x69_40 Q ) (0) σ) (join ψ σ))) [.string (a1 ++ (⟨#[46, 116, 109, 112]⟩ : ByteArray))] 0 σ) [.string x53_7] 0 σ

set_option maxRecDepth 100000 in
set_option maxHeartbeats 4000000 in
theorem snap_Save_ok {B : World} {ro : AH} {a0 : Option Addr} {a1 : ByteArray} {a2 : Int} {a3 : Sl} {σ : AH} {Q : Int → AH → Prop} (h : Sep ro σ → f_snap_Save B ro a0 a1 a2 a3 σ Q) : c_snap_Save B ro a0 a1 a2 a3 σ Q := by
  refine ACalls.of_sep fun hsep => ?_
  replace h := h hsep
  refine ACalls.of_body (args := [.pointer a0, .string a1, .int .i64 a2, Sl.v a3]) Tryz.func11 rfl (by rw [Tryz.ntmps11]; simp) ?_
  rw [Tryz.ntmps11]
  unfold f_snap_Save at h
  refine AW.seq ?_
  refine AW.reg ?_
  refine Ls rfl rfl (X_new (A_box rfl rfl) fun x4_1 g1 g2 => ?_)
  replace h := h x4_1 g1 g2
  refine Lp (V_asg rfl rfl) rfl rfl ?_
  refine Lnil ?_
  refine thenN ?_
  refine AW.seq ?_
  refine AW.reg ?_
  obtain ⟨x22_2, hc, h⟩ := h
  refine Ls rfl rfl (X_ld rfl Tryz.underlying26 rfl rfl hc ?_)
  refine Lp (V_move rfl rfl) rfl rfl ?_
  refine Ls rfl rfl (X_call rfl Tryz.func13 rfl rfl rfl (ACalls.mono h ?_))
  rintro v σ ⟨x24_3, x24_4, x24_5, x24_6, rfl, h⟩
  refine Lp (V_move rfl rfl) rfl rfl ?_
  refine Lp (V_ext rfl rfl rfl) rfl rfl ?_
  refine Lp (V_ext rfl rfl rfl) rfl rfl ?_
  refine Lp (V_ext rfl rfl rfl) rfl rfl ?_
  refine Lp (V_ext rfl rfl rfl) rfl rfl ?_
  refine Lp (V_asg rfl rfl) rfl rfl ?_
  refine Lp (V_asg rfl rfl) rfl rfl ?_
  refine Lp (V_asg rfl rfl) rfl rfl ?_
  refine Lp (V_asg rfl rfl) rfl rfl ?_
  refine Lnil ?_
  refine thenN ?_
  refine AW.seq ?_
  refine AW.block ?_
  refine AW.seq ?_
  refine AW.reg ?_
  refine Lp (V_move rfl rfl) rfl rfl ?_
  refine Lp (V_neq rfl rfl rfl) rfl rfl ?_
  refine Lp (V_asg rfl rfl) rfl rfl ?_
  refine Lnil ?_
  refine thenN ?_
  refine AW.iff rfl (bnot_iff decide_eq_true_iff) h (fun h => ?_) (fun h => ?_)
  · refine AW.seq ?_
    refine AW.reg ?_
    refine Lp (V_move rfl rfl) rfl rfl ?_
    refine Lp (V_asg rfl rfl) rfl rfl ?_
    refine Lnil ?_
    refine thenN ?_
    refine AW.ret ?_
    refine blockR ?_
    refine thenR ?_
    exact bR1 Tryz.results11 rfl ⟨_, rfl, h⟩
  refine AW.seq ?_
  refine AW.reg ?_
  refine Lp (V_move rfl rfl) rfl rfl ?_
  refine Lp (V_lss rfl rfl rfl) rfl rfl ?_
  refine Lp (V_move rfl rfl) rfl rfl ?_
  refine Lsplit 3 (decide (a2 < 0)) [(1, .string a1), (2, .int .i64 a2), (3, Sl.v a3), (4, .pointer (some ⟨x4_1, 0, none⟩)), (9, .int .i64 x24_3), (11, .bool x24_5), (39, .bool ((decide (a2 < 0)) || (decide (4611686018427387903 < a2))))] ?_ ?_ ?_
  · intro e2 hk2
    refine Ln rfl rfl rfl rfl (.inl (by rw [e2]; rfl)) ?_
    refine Ln rfl rfl rfl rfl (.inl (by rw [e2]; rfl)) ?_
    refine Lp (V_pickT rfl (evb e2) rfl) rfl rfl ?_
    exact hk2 _ (FrLe.cons rfl (FrLe.cons rfl (FrLe.cons rfl (FrLe.cons rfl (FrLe.cons rfl (FrLe.cons rfl (FrLe.cons (by rw [e2]; rfl) (FrLe.nil _))))))))
  · intro e2 hk2
    refine Lypb (V_move rfl rfl) rfl rfl rfl rfl e2 ?_
    refine Lypb (V_gtr rfl rfl rfl) rfl rfl rfl rfl e2 ?_
    refine Lp (V_pickF rfl (evb e2) rfl) rfl rfl ?_
    exact hk2 _ (FrLe.cons rfl (FrLe.cons rfl (FrLe.cons rfl (FrLe.cons rfl (FrLe.cons rfl (FrLe.cons rfl (FrLe.cons (by rw [e2]; rfl) (FrLe.nil _))))))))
  intro fr hl
  refine Lfr hl ?_
  refine Lp (V_asg rfl rfl) rfl rfl ?_
  refine Lnil ?_
  refine thenN ?_
  refine AW.iff rfl (bor_iff decide_eq_true_iff decide_eq_true_iff) h (fun h => ?_) (fun h => ?_)
  · refine AW.seq ?_
    refine AW.reg ?_
    refine Lp (V_asg rfl rfl) rfl rfl ?_
    refine Lnil ?_
    refine thenN ?_
    refine AW.ret ?_
    refine blockR ?_
    refine thenR ?_
    exact bR1 Tryz.results11 rfl ⟨_, rfl, h⟩
  refine AW.seq ?_
  refine AW.reg ?_
  refine Lp (V_move rfl rfl) rfl rfl ?_
  refine Lp (V_lenL rfl rfl Tryz.underlying22 rfl rfl) rfl rfl ?_
  refine Lp (V_gtr rfl rfl rfl) rfl rfl ?_
  refine Lp (V_asg rfl rfl) rfl rfl ?_
  refine Lnil ?_
  refine thenN ?_
  refine AW.iff rfl decide_eq_true_iff h (fun h => ?_) (fun h => ?_)
  · refine AW.seq ?_
    refine AW.reg ?_
    refine Lp (V_asg rfl rfl) rfl rfl ?_
    refine Lnil ?_
    refine thenN ?_
    refine AW.ret ?_
    refine blockR ?_
    refine thenR ?_
    exact bR1 Tryz.results11 rfl ⟨_, rfl, h⟩
  refine AW.seq ?_
  refine AW.reg ?_
  refine Lp (V_move rfl rfl) rfl rfl ?_
  refine Lp (V_move rfl rfl) rfl rfl ?_
  refine Lsplit 4 x24_5 [(1, .string a1), (2, .int .i64 a2), (3, Sl.v a3), (4, .pointer (some ⟨x4_1, 0, none⟩)), (50, .bool (x24_5 && (decide (a2 ≤ x24_3))))] ?_ ?_ ?_
  · intro e1 hk1
    refine Lypb (V_move rfl rfl) rfl rfl rfl rfl e1 ?_
    refine Lypb (V_move rfl rfl) rfl rfl rfl rfl e1 ?_
    refine Lypb (V_geq rfl rfl rfl) rfl rfl rfl rfl e1 ?_
    refine Lp (V_pickT rfl (evb e1) rfl) rfl rfl ?_
    exact hk1 _ (FrLe.cons rfl (FrLe.cons rfl (FrLe.cons rfl (FrLe.cons rfl (FrLe.cons (by rw [e1]; rfl) (FrLe.nil _))))))
  · intro e1 hk1
    refine Ln rfl rfl rfl rfl (.inl (by rw [e1]; rfl)) ?_
    refine Ln rfl rfl rfl rfl (.inl (by rw [e1]; rfl)) ?_
    refine Ln rfl rfl rfl rfl (.inl (by rw [e1]; rfl)) ?_
    refine Lp (V_pickF rfl (evb e1) rfl) rfl rfl ?_
    exact hk1 _ (FrLe.cons rfl (FrLe.cons rfl (FrLe.cons rfl (FrLe.cons rfl (FrLe.cons (by rw [e1]; rfl) (FrLe.nil _))))))
  intro fr hl
  refine Lfr hl ?_
  refine Lp (V_asg rfl rfl) rfl rfl ?_
  refine Lnil ?_
  refine thenN ?_
  refine AW.iff rfl (band_iff Iff.rfl decide_eq_true_iff) h (fun h => ?_) (fun h => ?_)
  · refine AW.seq ?_
    refine AW.reg ?_
    refine Lp (V_asg rfl rfl) rfl rfl ?_
    refine Lnil ?_
    refine thenN ?_
    refine AW.ret ?_
    refine blockR ?_
    refine thenR ?_
    exact bR1 Tryz.results11 rfl ⟨_, rfl, h⟩
  refine AW.skip ?_
  refine blockN ?_
  refine thenN ?_
  refine AW.seq ?_
  refine AW.reg ?_
  refine Lp (V_move rfl rfl) rfl rfl ?_
  refine Lp (V_move rfl rfl) rfl rfl ?_
  refine Ls rfl rfl (X_call rfl Tryz.func38 rfl rfl rfl (ACalls.mono h ?_))
  rintro v σ ⟨x53_7, rfl, h⟩
  refine Lp (V_move rfl rfl) rfl rfl ?_
  obtain ⟨hc, h⟩ := h
  refine Lp (V_cat rfl rfl rfl hc) rfl rfl ?_
  refine Ls rfl rfl (X_new (A_alloc rfl ty9) fun x13_8 g1 g2 => ?_)
  replace h := h x13_8 g1 g2
  refine Ls rfl rfl (X_new (A_alloc rfl ty9) fun x14_9 g1 g2 => ?_)
  replace h := h x14_9 g1 g2
  refine Ls rfl rfl (X_st rfl ty9 rfl rfl rfl rfl (stN_mono h fun σ h => ?_))
  refine Ls rfl rfl (X_st rfl ty9 rfl rfl rfl rfl (stN_mono h fun σ h => ?_))
  refine Lnil ?_
  refine thenN ?_
  refine AW.seq ?_
  refine AW.reg ?_
  refine Lp (V_mkf rfl rfl rfl) rfl rfl ?_
  refine Lp (V_asg rfl rfl) rfl rfl ?_
  refine Lnil ?_
  refine thenN ?_
  refine AW.seq ?_
  refine AW.reg ?_
  refine Lp (V_move rfl rfl) rfl rfl ?_
  refine Ls rfl rfl (X_callv rfl rfl Tryz.func39 rfl rfl rfl (ACalls.mono h ?_))
  rintro v σ ⟨rfl, h⟩
  refine Lnil ?_
  refine thenN ?_
  refine AW.seqJ (fun fr σ => FrLe [(1, .string a1), (4, .pointer (some ⟨x4_1, 0, none⟩)), (13, .pointer (some ⟨x13_8, 0, none⟩)), (14, .pointer (some ⟨x14_9, 0, none⟩))] fr ∧ j10_snap_Save B ro a1 x4_1 x13_8 x14_9 Q σ) ?_ ?_
  rotate_left
  · refine AW.seq ?_
    refine AW.drawnL (fun i => ([0, 0, 0, 0, 0, 2, 0, 0, 2, 0, 1, 0, 0] : List Nat).getD i 2) [] [0, 1, 2, 3, 4, 6, 12, 5, 7, 8, 9, 10, 11] Tryz.mixed h (by decide +kernel) ?_
    clear h
    intro ψ σ h
    obtain ⟨x59_36, hc, h⟩ := h
    refine Dp rfl rfl rfl rfl (V_ld rfl Tryz.underlying9 rfl rfl hc) ?_
    refine Dp rfl rfl rfl rfl (V_move rfl rfl) ?_
    refine Dp rfl rfl rfl rfl (V_bld (vs := [(0, .string x59_36), (1, Sl.v a3)]) (cs := #[.string x59_36, Sl.v a3]) rfl Tryz.underlying85 ty85 pl85 rfl rfl) ?_
    obtain ⟨x62_37, hc, h⟩ := h
    refine Dp rfl rfl rfl rfl (V_ld rfl Tryz.underlying9 rfl rfl hc) ?_
    refine Dp rfl rfl rfl rfl (V_move rfl rfl) ?_
    refine Dp rfl rfl rfl rfl (V_move rfl rfl) ?_
    refine Dp rfl rfl rfl rfl (V_move rfl rfl) ?_
    refine Dg rfl rfl rfl rfl (X_call rfl Tryz.func41 rfl rfl rfl (ACalls.mono h ?_))
    rintro v σ ⟨x64_38a, x64_38b, rfl, h⟩
    refine Dp rfl rfl rfl rfl (V_bld (vs := [(0, .agg #[.int .i64 x64_38a, .int .i64 x64_38b]), (1, .int .i64 a2)]) (cs := #[.int .i64 x64_38a, .int .i64 x64_38b, .int .i64 a2]) rfl Tryz.underlying90 ty90 pl90 rfl rfl) ?_
    refine Dg rfl rfl rfl rfl (X_call rfl Tryz.func42 rfl rfl rfl (ACalls.mono h ?_))
    rintro v σ ⟨x67_39, rfl, h⟩
    refine Dp rfl rfl rfl rfl (V_bld (vs := [(0, .string x62_37), (1, Sl.v x67_39)]) (cs := #[.string x62_37, Sl.v x67_39]) rfl Tryz.underlying85 ty85 pl85 rfl rfl) ?_
    refine Da rfl rfl rfl rfl (A_bsl (vs := [(0, .agg #[.string x59_36, Sl.v a3]), (1, .agg #[.string x62_37, Sl.v x67_39])]) (cs := #[.string x59_36, Sl.v a3, .string x62_37, Sl.v x67_39]) rfl Tryz.underlying92 ty85 (by decide) rfl rfl) fun x69_40 g1 g2 => ?_
    replace h := h x69_40 g1 g2
    refine Dp rfl rfl rfl rfl (V_lenL rfl rfl Tryz.underlying92 rfl rfl) ?_
    refine ⟨_, FrEq.refl _, fun hdj => ?_⟩
    replace h := h hdj
    refine thenN ?_
    refine AW.block ?_
    refine ARound.loop (fr' := [(1, .string a1), (4, .pointer (some ⟨x4_1, 0, none⟩)), (13, .pointer (some ⟨x13_8, 0, none⟩)), (14, .pointer (some ⟨x14_9, 0, none⟩)), (15, (.func (.func 39) #[] #[.pointer (some ⟨x13_8, 0, none⟩), .pointer (some ⟨x14_9, 0, none⟩), .pointer (some ⟨x4_1, 0, none⟩)])), (69, Sl.v (⟨some ⟨x69_40, 0, none⟩, 2, 2⟩ : Sl)), (70, .int .i64 ((⟨some ⟨x69_40, 0, none⟩, 2, 2⟩ : Sl).len : Int)), (71, .int .i64 0)]) ?_ (FrLe.cons rfl (FrLe.cons rfl (FrLe.cons rfl (FrLe.cons rfl (FrLe.cons rfl (FrLe.cons rfl (FrLe.cons rfl (FrLe.cons rfl (FrLe.nil _)))))))))
    refine h (fun x71_42 σ => ARound _ _ _ _ _ _ [(1, .string a1), (4, .pointer (some ⟨x4_1, 0, none⟩)), (13, .pointer (some ⟨x13_8, 0, none⟩)), (14, .pointer (some ⟨x14_9, 0, none⟩)), (15, (.func (.func 39) #[] #[.pointer (some ⟨x13_8, 0, none⟩), .pointer (some ⟨x14_9, 0, none⟩), .pointer (some ⟨x4_1, 0, none⟩)])), (69, Sl.v (⟨some ⟨x69_40, 0, none⟩, 2, 2⟩ : Sl)), (70, .int .i64 ((⟨some ⟨x69_40, 0, none⟩, 2, 2⟩ : Sl).len : Int)), (71, .int .i64 x71_42)] σ) ?_
    rintro x71_42 σ Y41 hY41 h
    show AW _ _ _ _ _ _ _ _
    unfold l41_snap_Save at h
    refine AW.seq ?_
    refine AW.reg ?_
    refine Lp (V_lss rfl rfl rfl) rfl rfl ?_
    refine Lnil ?_
    refine thenN ?_
    refine AW.seq ?_
    refine AW.iff rfl decide_eq_true_iff h (fun h => ?_) (fun h => ?_)
    rotate_left
    · refine AW.exit ?_
      refine thenE ?_
      refine thenE ?_
      refine blockE ?_
      refine thenN ?_
      exact ⟨(FrLe.cons rfl (FrLe.cons rfl (FrLe.cons rfl (FrLe.cons rfl (FrLe.nil _))))), h⟩
    refine AW.skip ?_
    refine thenN ?_
    refine AW.seq ?_
    refine AW.block ?_
    refine AW.seq ?_
    refine AW.reg ?_
    obtain ⟨p73_43, ha, h0, h1, h⟩ := h
    refine Lp (V_ixA rfl Tryz.underlying92 ty85 (ixL rfl ha) rfl h0 h1) rfl rfl ?_
    obtain ⟨x74_44a, x74_44b, hc, h⟩ := h
    refine Ls rfl rfl (X_lda rfl Tryz.underlying85 rfl ty85 rfl hc ?_)
    refine Ls rfl rfl (X_new (A_alloc rfl ty85) fun x17_45 g1 g2 => ?_)
    replace h := h x17_45 g1 g2
    refine Ls rfl rfl (X_st rfl ty85 rfl rfl rfl rfl (stN_mono h fun σ h => ?_))
    refine Lnil ?_
    refine thenN ?_
    refine AW.seq ?_
    refine AW.reg ?_
    obtain ⟨x75_46, hc, h⟩ := h
    refine Ls rfl rfl (X_ld rfl Tryz.underlying26 rfl rfl hc ?_)
    refine Lp (V_fld rfl Tryz.underlying85 rfl ty9 (by decide) rfl) rfl rfl ?_
    obtain ⟨x77_47, hc, h⟩ := h
    refine Ls rfl rfl (X_ld rfl Tryz.underlying9 rfl rfl hc ?_)
    refine Lp (V_fld rfl Tryz.underlying85 rfl ty22 (by decide) rfl) rfl rfl ?_
    obtain ⟨x79_48, hc, h⟩ := h
    refine Ls rfl rfl (X_ld rfl Tryz.underlying22 rfl rfl hc ?_)
    refine Ls rfl rfl (X_call rfl Tryz.func43 rfl rfl rfl (ACalls.mono h ?_))
    rintro v σ ⟨x80_49, rfl, h⟩
    refine Lp (V_asg rfl rfl) rfl rfl ?_
    refine Lnil ?_
    refine thenN ?_
    refine AW.seq ?_
    refine AW.reg ?_
    refine Lp (V_move rfl rfl) rfl rfl ?_
    refine Lp (V_neq rfl rfl rfl) rfl rfl ?_
    refine Lnil ?_
    refine thenN ?_
    refine AW.iff rfl (bnot_iff decide_eq_true_iff) h (fun h => ?_) (fun h => ?_)
    · refine AW.seq ?_
      refine AW.reg ?_
      refine Lp (V_move rfl rfl) rfl rfl ?_
      refine Ls rfl rfl (X_callv rfl rfl Tryz.func39 rfl rfl rfl (ACalls.mono h ?_))
      rintro v σ ⟨rfl, h⟩
      refine Lnil ?_
      refine thenN ?_
      refine AW.seq ?_
      refine AW.reg ?_
      refine Lp (V_move rfl rfl) rfl rfl ?_
      refine Lp (V_asg rfl rfl) rfl rfl ?_
      refine Lnil ?_
      refine thenN ?_
      refine AW.ret ?_
      refine blockR ?_
      refine thenR ?_
      refine thenR ?_
      refine blockR ?_
      refine thenR ?_
      exact bR1 Tryz.results11 rfl ⟨_, rfl, h⟩
    refine AW.skip ?_
    refine blockN ?_
    refine thenN ?_
    refine AW.reg ?_
    refine Lp (V_add rfl rfl rfl) rfl rfl ?_
    refine Lp (V_move rfl rfl) rfl rfl ?_
    refine Lnil ?_
    refine thenN ?_
    refine ARound.head (fr' := [(1, .string a1), (4, .pointer (some ⟨x4_1, 0, none⟩)), (13, .pointer (some ⟨x13_8, 0, none⟩)), (14, .pointer (some ⟨x14_9, 0, none⟩)), (15, (.func (.func 39) #[] #[.pointer (some ⟨x13_8, 0, none⟩), .pointer (some ⟨x14_9, 0, none⟩), .pointer (some ⟨x4_1, 0, none⟩)])), (69, Sl.v (⟨some ⟨x69_40, 0, none⟩, 2, 2⟩ : Sl)), (70, .int .i64 ((⟨some ⟨x69_40, 0, none⟩, 2, 2⟩ : Sl).len : Int)), (71, .int .i64 (IntKind.i64.wrap (x71_42 + 1)))]) ?_ (FrLe.cons rfl (FrLe.cons rfl (FrLe.cons rfl (FrLe.cons rfl (FrLe.cons rfl (FrLe.cons rfl (FrLe.cons rfl (FrLe.cons rfl (FrLe.nil _)))))))))
    exact hY41 _ _ h
  rintro fr σ ⟨hl, h⟩
  refine AW.weaken ?_ hl (HLe.refl _)
  unfold j10_snap_Save at h
  refine AW.seq ?_
  refine AW.reg ?_
  obtain ⟨x87_11, hc, h⟩ := h
  refine Ls rfl rfl (X_ld rfl Tryz.underlying26 rfl rfl hc ?_)
  obtain ⟨x88_12, hc, h⟩ := h
  refine Ls rfl rfl (X_ld rfl Tryz.underlying9 rfl rfl hc ?_)
  obtain ⟨x89_13, hc, h⟩ := h
  refine Ls rfl rfl (X_ld rfl Tryz.underlying9 rfl rfl hc ?_)
  refine Ls rfl rfl (X_new (A_bsl (vs := [(0, .string x88_12), (1, .string x89_13)]) (cs := #[.string x88_12, .string x89_13]) rfl Tryz.underlying83 ty9 (by decide) rfl rfl) fun x90_14 g1 g2 => ?_)
  replace h := h x90_14 g1 g2
  refine Ls rfl rfl (X_call rfl Tryz.func44 rfl rfl rfl (ACalls.mono h ?_))
  rintro v σ ⟨x91_15, rfl, h⟩
  refine Lnil ?_
  refine thenN ?_
  refine AW.seq ?_
  refine AW.reg ?_
  obtain ⟨x92_16, hc, h⟩ := h
  refine Ls rfl rfl (X_ld rfl Tryz.underlying26 rfl rfl hc ?_)
  obtain ⟨x93_17, hc, h⟩ := h
  refine Ls rfl rfl (X_ld rfl Tryz.underlying9 rfl rfl hc ?_)
  refine Lp (V_move rfl rfl) rfl rfl ?_
  obtain ⟨hc, h⟩ := h
  refine Lp (V_cat rfl rfl rfl hc) rfl rfl ?_
  refine Ls rfl rfl (X_call rfl Tryz.func45 rfl rfl rfl (ACalls.mono h ?_))
  rintro v σ ⟨x96_18, rfl, h⟩
  refine Lnil ?_
  refine thenN ?_
  refine AW.seqJ (fun fr σ => FrLe [] fr ∧ j19_snap_Save B ro Q σ) ?_ ?_
  · rintro fr σ ⟨hl, h⟩
    refine AW.weaken ?_ hl (HLe.refl _)
    unfold j19_snap_Save at h
    refine AW.seq ?_
    refine AW.reg ?_
    refine Lp (V_asg rfl rfl) rfl rfl ?_
    refine Lnil ?_
    refine thenN ?_
    refine AW.ret ?_
    exact bR1 Tryz.results11 rfl ⟨_, rfl, h⟩
  refine AW.seq ?_
  refine AW.reg ?_
  obtain ⟨x97_20, hc, h⟩ := h
  refine Ls rfl rfl (X_ld rfl Tryz.underlying26 rfl rfl hc ?_)
  obtain ⟨p98_21, hc, h⟩ := h
  refine Lp (V_nil rfl (by rw [← hc]; rfl)) rfl rfl ?_
  refine Lp (V_fld rfl Tryz.underlying39 rfl ty37 (by decide) rfl) rfl rfl ?_
  obtain ⟨x100_22, hc, h⟩ := h
  refine Ls rfl rfl (X_ld rfl Tryz.underlying37 rfl rfl hc ?_)
  refine Ls rfl rfl (X_call rfl Tryz.func46 rfl rfl rfl (ACalls.mono h ?_))
  rintro v σ ⟨x101_23, rfl, h⟩
  refine Lp (V_lenL rfl rfl Tryz.underlying83 rfl rfl) rfl rfl ?_
  refine Lp (V_move rfl rfl) rfl rfl ?_
  refine Lnil ?_
  refine thenN ?_
  refine AW.block ?_
  refine ARound.loop (fr' := [(1, .string a1), (4, .pointer (some ⟨x4_1, 0, none⟩)), (13, .pointer (some ⟨x13_8, 0, none⟩)), (101, Sl.v x101_23), (102, .int .i64 (x101_23.len : Int)), (103, .int .i64 0)]) ?_ (FrLe.cons rfl (FrLe.cons rfl (FrLe.cons rfl (FrLe.cons rfl (FrLe.cons rfl (FrLe.cons rfl (FrLe.nil _)))))))
  refine h (fun x103_25 σ => ARound _ _ _ _ _ _ [(1, .string a1), (4, .pointer (some ⟨x4_1, 0, none⟩)), (13, .pointer (some ⟨x13_8, 0, none⟩)), (101, Sl.v x101_23), (102, .int .i64 (x101_23.len : Int)), (103, .int .i64 x103_25)] σ) ?_
  rintro x103_25 σ Y24 hY24 h
  show AW _ _ _ _ _ _ _ _
  unfold l24_snap_Save at h
  refine AW.seq ?_
  refine AW.reg ?_
  refine Lp (V_lss rfl rfl rfl) rfl rfl ?_
  refine Lnil ?_
  refine thenN ?_
  refine AW.seq ?_
  refine AW.iff rfl decide_eq_true_iff h (fun h => ?_) (fun h => ?_)
  rotate_left
  · refine AW.exit ?_
    refine thenE ?_
    refine thenE ?_
    refine blockE ?_
    refine thenN ?_
    exact ⟨(FrLe.nil _), h⟩
  refine AW.skip ?_
  refine thenN ?_
  refine AW.seqJ (fun fr σ => FrLe [(1, .string a1), (4, .pointer (some ⟨x4_1, 0, none⟩)), (13, .pointer (some ⟨x13_8, 0, none⟩)), (101, Sl.v x101_23), (102, .int .i64 (x101_23.len : Int)), (103, .int .i64 x103_25)] fr ∧ j26_snap_Save B ro a1 x4_1 x13_8 x101_23 x103_25 Q Y24 σ) ?_ ?_
  · rintro fr σ ⟨hl, h⟩
    refine AW.weaken ?_ hl (HLe.refl _)
    unfold j26_snap_Save at h
    refine AW.reg ?_
    refine Lp (V_add rfl rfl rfl) rfl rfl ?_
    refine Lp (V_move rfl rfl) rfl rfl ?_
    refine Lnil ?_
    refine thenN ?_
    refine ARound.head (fr' := [(1, .string a1), (4, .pointer (some ⟨x4_1, 0, none⟩)), (13, .pointer (some ⟨x13_8, 0, none⟩)), (101, Sl.v x101_23), (102, .int .i64 (x101_23.len : Int)), (103, .int .i64 (IntKind.i64.wrap (x103_25 + 1)))]) ?_ (FrLe.cons rfl (FrLe.cons rfl (FrLe.cons rfl (FrLe.cons rfl (FrLe.cons rfl (FrLe.cons rfl (FrLe.nil _)))))))
    exact hY24 _ _ h
  refine AW.block ?_
  refine AW.seq ?_
  refine AW.reg ?_
  obtain ⟨p105_27, ha, h0, h1, h⟩ := h
  refine Lp (V_ixA rfl Tryz.underlying83 ty9 (ixL rfl ha) rfl h0 h1) rfl rfl ?_
  obtain ⟨x106_28, hc, h⟩ := h
  refine Ls rfl rfl (X_ld rfl Tryz.underlying9 rfl rfl hc ?_)
  refine Lp (V_asg rfl rfl) rfl rfl ?_
  refine Lnil ?_
  refine thenN ?_
  refine AW.seq ?_
  refine AW.reg ?_
  refine Lp (V_move rfl rfl) rfl rfl ?_
  obtain ⟨x108_29, hc, h⟩ := h
  refine Ls rfl rfl (X_ld rfl Tryz.underlying9 rfl rfl hc ?_)
  refine Lp (V_neqS rfl rfl rfl) rfl rfl ?_
  refine Lp (V_move rfl rfl) rfl rfl ?_
  refine LsplitJ 4 (!(decide (x106_28 = x108_29))) (bnot_iff decide_eq_true_iff) h (fun fr σ => ∃ (x114_31 : Bool), FrLe [(1, .string a1), (4, .pointer (some ⟨x4_1, 0, none⟩)), (13, .pointer (some ⟨x13_8, 0, none⟩)), (20, .string x106_28), (101, Sl.v x101_23), (102, .int .i64 (x101_23.len : Int)), (103, .int .i64 x103_25), (114, .bool x114_31)] fr ∧ j30_snap_Save B ro a1 x4_1 x13_8 x101_23 x103_25 x106_28 Q Y24 x114_31 σ) ?_ ?_ ?_
  · intro h e3 hk3
    refine Lypb (V_move rfl rfl) rfl rfl rfl rfl e3 ?_
    refine Lypb (V_move rfl rfl) rfl rfl rfl rfl e3 ?_
    refine Lyb rfl rfl rfl rfl e3 (X_call rfl Tryz.func47 rfl rfl rfl (ACalls.mono h ?_))
    rintro v σ ⟨x113_35, rfl, h⟩
    refine Lp (V_pickT rfl (evb e3) rfl) rfl rfl ?_
    exact hk3 _ _ ⟨_, (FrLe.cons rfl (FrLe.cons rfl (FrLe.cons rfl (FrLe.cons rfl (FrLe.cons rfl (FrLe.cons rfl (FrLe.cons rfl (FrLe.cons rfl (FrLe.nil _))))))))), h⟩
  · intro h e3 hk3
    refine Ln rfl rfl rfl rfl (.inl (by rw [e3]; rfl)) ?_
    refine Ln rfl rfl rfl rfl (.inl (by rw [e3]; rfl)) ?_
    refine Ln rfl rfl rfl rfl (.inl (by rw [e3]; rfl)) ?_
    refine Lp (V_pickF rfl (evb e3) rfl) rfl rfl ?_
    exact hk3 _ _ ⟨_, (FrLe.cons rfl (FrLe.cons rfl (FrLe.cons rfl (FrLe.cons rfl (FrLe.cons rfl (FrLe.cons rfl (FrLe.cons rfl (FrLe.cons rfl (FrLe.nil _))))))))), h⟩
  rintro fr σ ⟨x114_31, hl, h⟩
  unfold j30_snap_Save at h
  refine Lfr hl ?_
  refine Lnil ?_
  refine thenN ?_
  refine AW.iff rfl Iff.rfl h (fun h => ?_) (fun h => ?_)
  rotate_left
  · refine AW.skip ?_
    refine blockN ?_
    refine thenN ?_
    exact ⟨(FrLe.cons rfl (FrLe.cons rfl (FrLe.cons rfl (FrLe.cons rfl (FrLe.cons rfl (FrLe.cons rfl (FrLe.nil _))))))), h⟩
  refine AW.reg ?_
  obtain ⟨x115_32, hc, h⟩ := h
  refine Ls rfl rfl (X_ld rfl Tryz.underlying26 rfl rfl hc ?_)
  refine Lp (V_move rfl rfl) rfl rfl ?_
  refine Ls rfl rfl (X_new (A_bsl (vs := [(0, .string x106_28)]) (cs := #[.string x106_28]) rfl Tryz.underlying83 ty9 (by decide) rfl rfl) fun x117_33 g1 g2 => ?_)
  replace h := h x117_33 g1 g2
  refine Ls rfl rfl (X_call rfl Tryz.func40 rfl rfl rfl (ACalls.mono h ?_))
  rintro v σ ⟨x118_34, rfl, h⟩
  refine Lnil ?_
  refine blockN ?_
  refine thenN ?_
  exact ⟨(FrLe.cons rfl (FrLe.cons rfl (FrLe.cons rfl (FrLe.cons rfl (FrLe.cons rfl (FrLe.cons rfl (FrLe.nil _))))))), h⟩

def j9_snap_Load (B : World) (ro : AH) (x8_4 : Nat) (x27_7 : Sl) (Q : Int → Sl → Bool → Int → AH → Prop) (x38_10 : Bool) (σ : AH) : Prop :=
 if x38_10 = true then
  Q 0 (⟨none, 0, 0⟩ : Sl) false 0 σ
 else
 ∃ (x40_11 : Int), acell ro σ ((⟨x8_4, 0, none⟩ : Addr).add 2) = some (.int .i64 x40_11) ∧
 Q x40_11 x27_7 true 0 σ

def f_snap_Load (B : World) (ro : AH) (a0 : Option Addr) (a1 : ByteArray) (σ : AH) (Q : Int → Sl → Bool → Int → AH → Prop) : Prop :=
 c_snap_rightName B ro a1 σ fun x11_1 σ =>
 if ¬ (x11_1 = true) then
  Q 0 (⟨none, 0, 0⟩ : Sl) false 40 σ
 else
 c_snap_readManifest B ro a0 a1 σ fun x16_2a x16_2b x16_2c x16_3 σ =>
 nw ro σ (.cells #[.int .i64 0, .int .i64 0, .int .i64 0] 90) fun x8_4 σ =>
 stN ⟨x8_4, 0, none⟩ (fun σ =>
  if ¬ (x16_3 = true) then
   Q 0 (⟨none, 0, 0⟩ : Sl) false 0 σ
  else
  ∃ (x25_5 : Int), acell ro σ ((⟨x8_4, 0, none⟩ : Addr).add 2) = some (.int .i64 x25_5) ∧
  c_snap_dataFile B ro a1 x25_5 σ fun x26_6 σ =>
  c_disk_Disk_Read B ro a0 x26_6 σ fun x27_7 x27_8 σ =>
  lent σ fun ψ σ =>
   if ¬ (x27_8 = 0) then
    (Disj ψ σ → (fun σ => 
     j9_snap_Load B ro x8_4 x27_7 Q true σ) (join ψ σ))
   else
   ∃ (x36_12a : Int) (x36_12b : Int), cellsAt (join ro ψ) (fun _ => none) ⟨x8_4, 0, none⟩ 0 [.int .i64 x36_12a, .int .i64 x36_12b] ∧
   c_snap_digestOf B (join ro ψ) x27_7 σ fun x34_13a x34_13b σ =>
   awp Tryz.prog (join ro ψ) (do eqGuard .neq 87 (.tmp 34) (.tmp 36) (.agg #[.int .i64 x34_13a, .int .i64 x34_13b]) (.agg #[.int .i64 x36_12a, .int .i64 x36_12b]); Go.binOp .neq 87 (.agg #[.int .i64 x34_13a, .int .i64 x34_13b]) (.agg #[.int .i64 x36_12a, .int .i64 x36_12b])) (fun v σ => ∃ x37_14 : Bool, v = .bool x37_14 ∧
    (Disj ψ σ → (fun σ => 
     j9_snap_Load B ro x8_4 x27_7 Q x37_14 σ) (join ψ σ))) σ) [.int .i64 x16_2a, .int .i64 x16_2b, .int .i64 x16_2c] 0 σ

set_option maxRecDepth 100000 in
set_option maxHeartbeats 4000000 in
theorem snap_Load_ok {B : World} {ro : AH} {a0 : Option Addr} {a1 : ByteArray} {σ : AH} {Q : Int → Sl → Bool → Int → AH → Prop} (h : Sep ro σ → f_snap_Load B ro a0 a1 σ Q) : c_snap_Load B ro a0 a1 σ Q := by
  refine ACalls.of_sep fun hsep => ?_
  replace h := h hsep
  refine ACalls.of_body (args := [.pointer a0, .string a1]) Tryz.func13 rfl (by rw [Tryz.ntmps13]; simp) ?_
  rw [Tryz.ntmps13]
  unfold f_snap_Load at h
  refine AW.seq ?_
  refine AW.reg ?_
  refine Lp (V_asg rfl rfl) rfl rfl ?_
  refine Lp (V_asg rfl rfl) rfl rfl ?_
  refine Lp (V_asg rfl rfl) rfl rfl ?_
  refine Lp (V_asg rfl rfl) rfl rfl ?_
  refine Lnil ?_
  refine thenN ?_
  refine AW.seq ?_
  refine AW.seq ?_
  refine AW.reg ?_
  refine Lp (V_move rfl rfl) rfl rfl ?_
  refine Ls rfl rfl (X_call rfl Tryz.func49 rfl rfl rfl (ACalls.mono h ?_))
  rintro v σ ⟨x11_1, rfl, h⟩
  refine Lp (V_not rfl rfl) rfl rfl ?_
  refine Lnil ?_
  refine thenN ?_
  refine AW.iff rfl (bnot_iff Iff.rfl) h (fun h => ?_) (fun h => ?_)
  · refine AW.seq ?_
    refine AW.reg ?_
    refine Lp (V_asg rfl rfl) rfl rfl ?_
    refine Lp (V_asg rfl rfl) rfl rfl ?_
    refine Lp (V_asg rfl rfl) rfl rfl ?_
    refine Lp (V_asg rfl rfl) rfl rfl ?_
    refine Lnil ?_
    refine thenN ?_
    refine AW.ret ?_
    refine thenR ?_
    exact bRM Tryz.results13 (rCons (rTmp rfl) (rCons (rTmp rfl) (rCons (rTmp rfl) (rCons (rTmp rfl) rNil)))) ⟨_, _, _, _, rfl, h⟩
  refine AW.skip ?_
  refine thenN ?_
  refine AW.seq ?_
  refine AW.reg ?_
  refine Lp (V_move rfl rfl) rfl rfl ?_
  refine Lp (V_move rfl rfl) rfl rfl ?_
  refine Ls rfl rfl (X_call rfl Tryz.func50 rfl rfl rfl (ACalls.mono h ?_))
  rintro v σ ⟨x16_2a, x16_2b, x16_2c, x16_3, rfl, h⟩
  refine Lp (V_move rfl rfl) rfl rfl ?_
  refine Lp (V_ext rfl rfl rfl) rfl rfl ?_
  refine Lp (V_ext rfl rfl rfl) rfl rfl ?_
  refine Ls rfl rfl (X_new (A_alloc rfl ty90) fun x8_4 g1 g2 => ?_)
  replace h := h x8_4 g1 g2
  refine Ls rfl rfl (X_st rfl ty90 rfl rfl rfl rfl (stN_mono h fun σ h => ?_))
  refine Lp (V_asg rfl rfl) rfl rfl ?_
  refine Lnil ?_
  refine thenN ?_
  refine AW.seq ?_
  refine AW.seq ?_
  refine AW.reg ?_
  refine Lp (V_move rfl rfl) rfl rfl ?_
  refine Lp (V_not rfl rfl) rfl rfl ?_
  refine Lnil ?_
  refine thenN ?_
  refine AW.iff rfl (bnot_iff Iff.rfl) h (fun h => ?_) (fun h => ?_)
  · refine AW.seq ?_
    refine AW.reg ?_
    refine Lp (V_asg rfl rfl) rfl rfl ?_
    refine Lp (V_asg rfl rfl) rfl rfl ?_
    refine Lp (V_asg rfl rfl) rfl rfl ?_
    refine Lp (V_asg rfl rfl) rfl rfl ?_
    refine Lnil ?_
    refine thenN ?_
    refine AW.ret ?_
    refine thenR ?_
    exact bRM Tryz.results13 (rCons (rTmp rfl) (rCons (rTmp rfl) (rCons (rTmp rfl) (rCons (rTmp rfl) rNil)))) ⟨_, _, _, _, rfl, h⟩
  refine AW.skip ?_
  refine thenN ?_
  refine AW.seq ?_
  refine AW.reg ?_
  refine Lp (V_move rfl rfl) rfl rfl ?_
  refine Lp (V_move rfl rfl) rfl rfl ?_
  refine Lp (V_fld rfl Tryz.underlying90 rfl ty3 (by decide) rfl) rfl rfl ?_
  obtain ⟨x25_5, hc, h⟩ := h
  refine Ls rfl rfl (X_ld rfl Tryz.underlying3 rfl rfl hc ?_)
  refine Ls rfl rfl (X_call rfl Tryz.func38 rfl rfl rfl (ACalls.mono h ?_))
  rintro v σ ⟨x26_6, rfl, h⟩
  refine Ls rfl rfl (X_call rfl Tryz.func51 rfl rfl rfl (ACalls.mono h ?_))
  rintro v σ ⟨x27_7, x27_8, rfl, h⟩
  refine Lp (V_move rfl rfl) rfl rfl ?_
  refine Lp (V_ext rfl rfl rfl) rfl rfl ?_
  refine Lp (V_ext rfl rfl rfl) rfl rfl ?_
  refine Lp (V_asg rfl rfl) rfl rfl ?_
  refine Lp (V_asg rfl rfl) rfl rfl ?_
  refine Lnil ?_
  refine thenN ?_
  refine AW.seq ?_
  refine AW.seqJ (fun fr σ => ∃ (x38_10 : Bool), FrLe [(5, Sl.v x27_7), (8, .pointer (some ⟨x8_4, 0, none⟩)), (38, .bool x38_10)] fr ∧ j9_snap_Load B ro x8_4 x27_7 Q x38_10 σ) ?_ ?_
  · rintro fr σ ⟨x38_10, hl, h⟩
    refine AW.weaken ?_ hl (HLe.refl _)
    unfold j9_snap_Load at h
    refine AW.iff rfl Iff.rfl h (fun h => ?_) (fun h => ?_)
    · refine AW.seq ?_
      refine AW.reg ?_
      refine Lp (V_asg rfl rfl) rfl rfl ?_
      refine Lp (V_asg rfl rfl) rfl rfl ?_
      refine Lp (V_asg rfl rfl) rfl rfl ?_
      refine Lp (V_asg rfl rfl) rfl rfl ?_
      refine Lnil ?_
      refine thenN ?_
      refine AW.ret ?_
      refine thenR ?_
      exact bRM Tryz.results13 (rCons (rTmp rfl) (rCons (rTmp rfl) (rCons (rTmp rfl) (rCons (rTmp rfl) rNil)))) ⟨_, _, _, _, rfl, h⟩
    refine AW.skip ?_
    refine thenN ?_
    refine AW.seq ?_
    refine AW.reg ?_
    refine Lp (V_fld rfl Tryz.underlying90 rfl ty3 (by decide) rfl) rfl rfl ?_
    obtain ⟨x40_11, hc, h⟩ := h
    refine Ls rfl rfl (X_ld rfl Tryz.underlying3 rfl rfl hc ?_)
    refine Lp (V_move rfl rfl) rfl rfl ?_
    refine Lp (V_asg rfl rfl) rfl rfl ?_
    refine Lp (V_asg rfl rfl) rfl rfl ?_
    refine Lp (V_asg rfl rfl) rfl rfl ?_
    refine Lp (V_asg rfl rfl) rfl rfl ?_
    refine Lnil ?_
    refine thenN ?_
    refine AW.ret ?_
    exact bRM Tryz.results13 (rCons (rTmp rfl) (rCons (rTmp rfl) (rCons (rTmp rfl) (rCons (rTmp rfl) rNil)))) ⟨_, _, _, _, rfl, h⟩
  refine AW.drawnL (fun i => ([0, 0, 0, 0, 2, 0, 0, 2, 0] : List Nat).getD i 2) [] [0, 1, 2, 3, 5, 6, 4, 7, 8] Tryz.mixed h (by decide +kernel) ?_
  clear h
  intro ψ σ h
  refine Dp rfl rfl rfl rfl (V_move rfl rfl) ?_
  refine Dp rfl rfl rfl rfl (V_neq rfl rfl rfl) ?_
  refine Dp rfl rfl rfl rfl (V_move rfl rfl) ?_
  refine splitP (!(decide (x27_8 = 0))) (bnot_iff decide_eq_true_iff) h ?_ ?_
  · intro h e2
    refine Dpn rfl rfl rfl rfl rfl (.inl (by rw [e2]; rfl)) rfl ?_
    refine Dpn rfl rfl rfl rfl rfl (.inl (by rw [e2]; rfl)) rfl ?_
    refine Dpn rfl rfl rfl rfl rfl (.inl (by rw [e2]; rfl)) rfl ?_
    refine Dgn rfl rfl rfl rfl rfl (.inl (by rw [e2]; rfl)) rfl ?_
    refine Dgn rfl rfl rfl rfl rfl (.inl (by rw [e2]; rfl)) rfl ?_
    refine Dp rfl rfl rfl rfl (V_pickT rfl (evb e2) rfl) ?_
    refine ⟨_, FrEq.refl _, fun hdj => ?_⟩
    replace h := h hdj
    refine thenN ?_
    exact ⟨_, (FrLe.cons rfl (FrLe.cons rfl (FrLe.cons rfl (FrLe.nil _)))), h⟩
  intro h e2
  refine Dpy rfl rfl rfl rfl rfl e2 rfl (V_move rfl rfl) ?_
  refine Dpy rfl rfl rfl rfl rfl e2 rfl (V_fld rfl Tryz.underlying90 rfl ty87 (by decide) rfl) ?_
  obtain ⟨x36_12a, x36_12b, hc, h⟩ := h
  refine Dpy rfl rfl rfl rfl rfl e2 rfl (V_lda rfl Tryz.underlying87 rfl ty87 rfl hc) ?_
  refine Dgy rfl rfl rfl rfl rfl e2 rfl (X_call rfl Tryz.func41 rfl rfl rfl (ACalls.mono h ?_))
  rintro v σ ⟨x34_13a, x34_13b, rfl, h⟩
  refine Dgy rfl rfl rfl rfl rfl e2 rfl (X_eq rfl rfl rfl (awp_mono _ h ?_))
  rintro v σ ⟨x37_14, rfl, h⟩
  refine Dp rfl rfl rfl rfl (V_pickF rfl (evb e2) rfl) ?_
  refine ⟨_, FrEq.refl _, fun hdj => ?_⟩
  replace h := h hdj
  refine thenN ?_
  exact ⟨_, (FrLe.cons rfl (FrLe.cons rfl (FrLe.cons rfl (FrLe.nil _)))), h⟩

def f_snap_dataFile (B : World) (ro : AH) (a0 : ByteArray) (a1 : Int) (σ : AH) (Q : ByteArray → AH → Prop) : Prop :=
 a0.size + (⟨#[46, 115]⟩ : ByteArray).size ≤ 9223372036854775807 ∧
 c_strconv_Itoa B ro a1 σ fun x8_1 σ =>
 (a0 ++ (⟨#[46, 115]⟩ : ByteArray)).size + x8_1.size ≤ 9223372036854775807 ∧
 Q ((a0 ++ (⟨#[46, 115]⟩ : ByteArray)) ++ x8_1) σ

set_option maxRecDepth 100000 in
set_option maxHeartbeats 4000000 in
theorem snap_dataFile_ok {B : World} {ro : AH} {a0 : ByteArray} {a1 : Int} {σ : AH} {Q : ByteArray → AH → Prop} (h : Sep ro σ → f_snap_dataFile B ro a0 a1 σ Q) : c_snap_dataFile B ro a0 a1 σ Q := by
  refine ACalls.of_sep fun hsep => ?_
  replace h := h hsep
  refine ACalls.of_body (args := [.string a0, .int .i64 a1]) Tryz.func38 rfl (by rw [Tryz.ntmps38]; simp) ?_
  rw [Tryz.ntmps38]
  unfold f_snap_dataFile at h
  refine AW.seq ?_
  refine AW.reg ?_
  refine Lp (V_asg rfl rfl) rfl rfl ?_
  refine Lnil ?_
  refine thenN ?_
  refine AW.seq ?_
  refine AW.reg ?_
  refine Lp (V_move rfl rfl) rfl rfl ?_
  obtain ⟨hc, h⟩ := h
  refine Lp (V_cat rfl rfl rfl hc) rfl rfl ?_
  refine Lp (V_move rfl rfl) rfl rfl ?_
  refine Ls rfl rfl (X_call rfl Tryz.func75 rfl rfl rfl (ACalls.mono h ?_))
  rintro v σ ⟨x8_1, rfl, h⟩
  obtain ⟨hc, h⟩ := h
  refine Lp (V_cat rfl rfl rfl hc) rfl rfl ?_
  refine Lp (V_asg rfl rfl) rfl rfl ?_
  refine Lnil ?_
  refine thenN ?_
  refine AW.ret ?_
  exact bR1 Tryz.results38 rfl ⟨_, rfl, h⟩

def l4_snap_Save_c1 (B : World) (ro : AH) (a2 : Addr) (x7_3 : Nat) (Q : AH → Prop) : (Int) → AH → ((Int) → AH → Prop) → Prop := fun x9_5 σ Y4 =>
 if x9_5 < ((⟨some ⟨x7_3, 0, none⟩, 2, 2⟩ : Sl).len : Int) then
  ∃ p11_6 : Addr, (⟨some ⟨x7_3, 0, none⟩, 2, 2⟩ : Sl).a = some p11_6 ∧ (0 : Int) ≤ x9_5 ∧ x9_5 < ((⟨some ⟨x7_3, 0, none⟩, 2, 2⟩ : Sl).len : Int) ∧
  ∃ (x12_7 : ByteArray), acell ro σ (p11_6.add (Int.toNat x9_5 * 1)) = some (.string x12_7) ∧
  ∃ (x13_8 : Option Addr), acell ro σ a2 = some (.pointer x13_8) ∧
  nw ro σ (.cells #[.string x12_7] 9) fun x15_9 σ =>
  c_disk_Disk_Remove B ro x13_8 (⟨some ⟨x15_9, 0, none⟩, 1, 1⟩ : Sl) σ fun x16_10 σ =>
  Y4 (IntKind.i64.wrap (x9_5 + 1)) σ
 else
 Q σ

def f_snap_Save_c1 (B : World) (ro : AH) (a0 : Addr) (a1 : Addr) (a2 : Addr) (σ : AH) (Q : AH → Prop) : Prop :=
 ∃ (x5_1 : ByteArray), acell ro σ a0 = some (.string x5_1) ∧
 ∃ (x6_2 : ByteArray), acell ro σ a1 = some (.string x6_2) ∧
 nw ro σ (.cells #[.string x5_1, .string x6_2] 9) fun x7_3 σ =>
 lfpD (l4_snap_Save_c1 B ro a2 x7_3 Q ) (0) σ

set_option maxRecDepth 100000 in
set_option maxHeartbeats 4000000 in
theorem snap_Save_c1_ok {B : World} {ro : AH} {a0 : Addr} {a1 : Addr} {a2 : Addr} {σ : AH} {Q : AH → Prop} (h : Sep ro σ → f_snap_Save_c1 B ro a0 a1 a2 σ Q) : c_snap_Save_c1 B ro a0 a1 a2 σ Q := by
  refine ACalls.of_sep fun hsep => ?_
  replace h := h hsep
  refine ACalls.of_body (args := [.pointer (some a0), .pointer (some a1), .pointer (some a2)]) Tryz.func39 rfl (by rw [Tryz.ntmps39]; simp) ?_
  rw [Tryz.ntmps39]
  unfold f_snap_Save_c1 at h
  refine AW.seq ?_
  refine AW.reg ?_
  obtain ⟨x5_1, hc, h⟩ := h
  refine Ls rfl rfl (X_ld rfl Tryz.underlying9 rfl rfl hc ?_)
  obtain ⟨x6_2, hc, h⟩ := h
  refine Ls rfl rfl (X_ld rfl Tryz.underlying9 rfl rfl hc ?_)
  refine Ls rfl rfl (X_new (A_bsl (vs := [(0, .string x5_1), (1, .string x6_2)]) (cs := #[.string x5_1, .string x6_2]) rfl Tryz.underlying83 ty9 (by decide) rfl rfl) fun x7_3 g1 g2 => ?_)
  replace h := h x7_3 g1 g2
  refine Lp (V_lenL rfl rfl Tryz.underlying83 rfl rfl) rfl rfl ?_
  refine Lp (V_move rfl rfl) rfl rfl ?_
  refine Lnil ?_
  refine thenN ?_
  refine AW.block ?_
  refine ARound.loop (fr' := [(2, .pointer (some a2)), (7, Sl.v (⟨some ⟨x7_3, 0, none⟩, 2, 2⟩ : Sl)), (8, .int .i64 ((⟨some ⟨x7_3, 0, none⟩, 2, 2⟩ : Sl).len : Int)), (9, .int .i64 0)]) ?_ (FrLe.cons rfl (FrLe.cons rfl (FrLe.cons rfl (FrLe.cons rfl (FrLe.nil _)))))
  refine h (fun x9_5 σ => ARound _ _ _ _ _ _ [(2, .pointer (some a2)), (7, Sl.v (⟨some ⟨x7_3, 0, none⟩, 2, 2⟩ : Sl)), (8, .int .i64 ((⟨some ⟨x7_3, 0, none⟩, 2, 2⟩ : Sl).len : Int)), (9, .int .i64 x9_5)] σ) ?_
  rintro x9_5 σ Y4 hY4 h
  show AW _ _ _ _ _ _ _ _
  unfold l4_snap_Save_c1 at h
  refine AW.seq ?_
  refine AW.reg ?_
  refine Lp (V_lss rfl rfl rfl) rfl rfl ?_
  refine Lnil ?_
  refine thenN ?_
  refine AW.seq ?_
  refine AW.iff rfl decide_eq_true_iff h (fun h => ?_) (fun h => ?_)
  rotate_left
  · refine AW.exit ?_
    refine thenE ?_
    refine thenE ?_
    refine blockE ?_
    exact bN0 Tryz.results39 ⟨rfl, h⟩
  refine AW.skip ?_
  refine thenN ?_
  refine AW.seq ?_
  refine AW.block ?_
  refine AW.seq ?_
  refine AW.reg ?_
  obtain ⟨p11_6, ha, h0, h1, h⟩ := h
  refine Lp (V_ixA rfl Tryz.underlying83 ty9 (ixL rfl ha) rfl h0 h1) rfl rfl ?_
  obtain ⟨x12_7, hc, h⟩ := h
  refine Ls rfl rfl (X_ld rfl Tryz.underlying9 rfl rfl hc ?_)
  refine Lp (V_asg rfl rfl) rfl rfl ?_
  refine Lnil ?_
  refine thenN ?_
  refine AW.reg ?_
  obtain ⟨x13_8, hc, h⟩ := h
  refine Ls rfl rfl (X_ld rfl Tryz.underlying26 rfl rfl hc ?_)
  refine Lp (V_move rfl rfl) rfl rfl ?_
  refine Ls rfl rfl (X_new (A_bsl (vs := [(0, .string x12_7)]) (cs := #[.string x12_7]) rfl Tryz.underlying83 ty9 (by decide) rfl rfl) fun x15_9 g1 g2 => ?_)
  replace h := h x15_9 g1 g2
  refine Ls rfl rfl (X_call rfl Tryz.func40 rfl rfl rfl (ACalls.mono h ?_))
  rintro v σ ⟨x16_10, rfl, h⟩
  refine Lnil ?_
  refine blockN ?_
  refine thenN ?_
  refine AW.reg ?_
  refine Lp (V_add rfl rfl rfl) rfl rfl ?_
  refine Lp (V_move rfl rfl) rfl rfl ?_
  refine Lnil ?_
  refine thenN ?_
  refine ARound.head (fr' := [(2, .pointer (some a2)), (7, Sl.v (⟨some ⟨x7_3, 0, none⟩, 2, 2⟩ : Sl)), (8, .int .i64 ((⟨some ⟨x7_3, 0, none⟩, 2, 2⟩ : Sl).len : Int)), (9, .int .i64 (IntKind.i64.wrap (x9_5 + 1)))]) ?_ (FrLe.cons rfl (FrLe.cons rfl (FrLe.cons rfl (FrLe.cons rfl (FrLe.nil _)))))
  exact hY4 _ _ h

def f_snap_digestOf (B : World) (ro : AH) (a0 : Sl) (σ : AH) (Q : Int → Int → AH → Prop) : Prop :=
 nw ro σ (.cells #[.int .i64 0, .int .i64 0] 87) fun x2_1 σ =>
 c_wire_Sum B ro a0 σ fun x6_2 σ =>
 stN ⟨x2_1, 0, none⟩ (fun σ =>
  ∃ (x2_3a : Int) (x2_3b : Int), cellsAt ro σ ⟨x2_1, 0, none⟩ 0 [.int .i64 x2_3a, .int .i64 x2_3b] ∧
  Q x2_3a x2_3b σ) [.int .i64 (a0.len : Int), .int .i64 x6_2] 0 σ

set_option maxRecDepth 100000 in
set_option maxHeartbeats 4000000 in
theorem snap_digestOf_ok {B : World} {ro : AH} {a0 : Sl} {σ : AH} {Q : Int → Int → AH → Prop} (h : Sep ro σ → f_snap_digestOf B ro a0 σ Q) : c_snap_digestOf B ro a0 σ Q := by
  refine ACalls.of_sep fun hsep => ?_
  replace h := h hsep
  refine ACalls.of_body (args := [Sl.v a0]) Tryz.func41 rfl (by rw [Tryz.ntmps41]; simp) ?_
  rw [Tryz.ntmps41]
  unfold f_snap_digestOf at h
  refine AW.seq ?_
  refine AW.reg ?_
  refine Ls rfl rfl (X_new (A_alloc rfl ty87) fun x2_1 g1 g2 => ?_)
  replace h := h x2_1 g1 g2
  refine Lnil ?_
  refine thenN ?_
  refine AW.seq ?_
  refine AW.reg ?_
  refine Lp (V_move rfl rfl) rfl rfl ?_
  refine Lp (V_lenL rfl rfl Tryz.underlying22 rfl rfl) rfl rfl ?_
  refine Lp (V_move rfl rfl) rfl rfl ?_
  refine Ls rfl rfl (X_call rfl Tryz.func77 rfl rfl rfl (ACalls.mono h ?_))
  rintro v σ ⟨x6_2, rfl, h⟩
  refine Lp (V_bld (vs := [(0, .int .i64 (a0.len : Int)), (1, .int .i64 x6_2)]) (cs := #[.int .i64 (a0.len : Int), .int .i64 x6_2]) rfl Tryz.underlying87 ty87 pl87 rfl rfl) rfl rfl ?_
  refine Ls rfl rfl (X_st rfl ty87 rfl rfl rfl rfl (stN_mono h fun σ h => ?_))
  refine Lnil ?_
  refine thenN ?_
  refine AW.ret ?_
  obtain ⟨x2_3a, x2_3b, hc0, h⟩ := h
  exact bRM1 Tryz.results41 (rCons (rAgg rfl Tryz.underlying87 rfl ty87 hc0) rNil) ⟨_, _, rfl, h⟩

def f_snap_manifest_bytes (B : World) (ro : AH) (a0_0 : Int) (a0_1 : Int) (a0_2 : Int) (σ : AH) (Q : Sl → AH → Prop) : Prop :=
 nw ro σ (.cells #[.int .i64 a0_0, .int .i64 a0_1, .int .i64 a0_2] 90) fun x1_1 σ =>
 ∃ (x9_2 : Int), acell ro σ ((⟨x1_1, 0, none⟩ : Addr).add 2) = some (.int .i64 x9_2) ∧
 ∃ (x12_3 : Int), acell ro σ ⟨x1_1, 0, none⟩ = some (.int .i64 x12_3) ∧
 ∃ (x15_4 : Int), acell ro σ ((⟨x1_1, 0, none⟩ : Addr).add 1) = some (.int .i64 x15_4) ∧
 nw ro σ (.cells #[.int .i64 x9_2, .int .i64 x12_3, .int .i64 x15_4] 3) fun x16_5 σ =>
 c_wire_Numbers B ro (⟨some ⟨x16_5, 0, none⟩, 3, 3⟩ : Sl) σ fun x17_6 x17_7 σ =>
 c_wire_Frame B ro x17_6 σ fun x22_8 x22_9 σ =>
 Q x22_8 σ

set_option maxRecDepth 100000 in
set_option maxHeartbeats 4000000 in
theorem snap_manifest_bytes_ok {B : World} {ro : AH} {a0_0 : Int} {a0_1 : Int} {a0_2 : Int} {σ : AH} {Q : Sl → AH → Prop} (h : Sep ro σ → f_snap_manifest_bytes B ro a0_0 a0_1 a0_2 σ Q) : c_snap_manifest_bytes B ro a0_0 a0_1 a0_2 σ Q := by
  refine ACalls.of_sep fun hsep => ?_
  replace h := h hsep
  refine ACalls.of_body (args := [.agg #[.int .i64 a0_0, .int .i64 a0_1, .int .i64 a0_2]]) Tryz.func42 rfl (by rw [Tryz.ntmps42]; simp) ?_
  rw [Tryz.ntmps42]
  unfold f_snap_manifest_bytes at h
  refine AW.seq ?_
  refine AW.reg ?_
  refine Ls rfl rfl (X_new (A_box rfl rfl) fun x1_1 g1 g2 => ?_)
  replace h := h x1_1 g1 g2
  refine Lp (V_asg rfl rfl) rfl rfl ?_
  refine Lnil ?_
  refine thenN ?_
  refine AW.seq ?_
  refine AW.reg ?_
  refine Lp (V_fld rfl Tryz.underlying90 rfl ty3 (by decide) rfl) rfl rfl ?_
  obtain ⟨x9_2, hc, h⟩ := h
  refine Ls rfl rfl (X_ld rfl Tryz.underlying3 rfl rfl hc ?_)
  refine Lp (V_fld rfl Tryz.underlying90 rfl ty87 (by decide) rfl) rfl rfl ?_
  refine Lp (V_fld rfl Tryz.underlying87 rfl ty3 (by decide) rfl) rfl rfl ?_
  obtain ⟨x12_3, hc, h⟩ := h
  refine Ls rfl rfl (X_ld rfl Tryz.underlying3 rfl rfl hc ?_)
  refine Lp (V_fld rfl Tryz.underlying90 rfl ty87 (by decide) rfl) rfl rfl ?_
  refine Lp (V_fld rfl Tryz.underlying87 rfl ty3 (by decide) rfl) rfl rfl ?_
  obtain ⟨x15_4, hc, h⟩ := h
  refine Ls rfl rfl (X_ld rfl Tryz.underlying3 rfl rfl hc ?_)
  refine Ls rfl rfl (X_new (A_bsl (vs := [(0, .int .i64 x9_2), (1, .int .i64 x12_3), (2, .int .i64 x15_4)]) (cs := #[.int .i64 x9_2, .int .i64 x12_3, .int .i64 x15_4]) rfl Tryz.underlying23 ty3 (by decide) rfl rfl) fun x16_5 g1 g2 => ?_)
  replace h := h x16_5 g1 g2
  refine Ls rfl rfl (X_call rfl Tryz.func78 rfl rfl rfl (ACalls.mono h ?_))
  rintro v σ ⟨x17_6, x17_7, rfl, h⟩
  refine Lp (V_move rfl rfl) rfl rfl ?_
  refine Lp (V_ext rfl rfl rfl) rfl rfl ?_
  refine Lp (V_ext rfl rfl rfl) rfl rfl ?_
  refine Lp (V_asg rfl rfl) rfl rfl ?_
  refine Lp (V_asg rfl rfl) rfl rfl ?_
  refine Lnil ?_
  refine thenN ?_
  refine AW.seq ?_
  refine AW.reg ?_
  refine Lp (V_move rfl rfl) rfl rfl ?_
  refine Ls rfl rfl (X_call rfl Tryz.func79 rfl rfl rfl (ACalls.mono h ?_))
  rintro v σ ⟨x22_8, x22_9, rfl, h⟩
  refine Lp (V_move rfl rfl) rfl rfl ?_
  refine Lp (V_ext rfl rfl rfl) rfl rfl ?_
  refine Lp (V_ext rfl rfl rfl) rfl rfl ?_
  refine Lp (V_asg rfl rfl) rfl rfl ?_
  refine Lp (V_asg rfl rfl) rfl rfl ?_
  refine Lnil ?_
  refine thenN ?_
  refine AW.seq ?_
  refine AW.reg ?_
  refine Lp (V_move rfl rfl) rfl rfl ?_
  refine Lp (V_asg rfl rfl) rfl rfl ?_
  refine Lnil ?_
  refine thenN ?_
  refine AW.ret ?_
  exact bR1 Tryz.results42 rfl ⟨_, rfl, h⟩

def j6_snap_isData (B : World) (ro : AH) (Q : Bool → AH → Prop) (x38_7 : Bool) (σ : AH) : Prop :=
 Q x38_7 σ

def f_snap_isData (B : World) (ro : AH) (a0 : ByteArray) (a1 : ByteArray) (σ : AH) (Q : Bool → AH → Prop) : Prop :=
 a0.size + (⟨#[46, 115]⟩ : ByteArray).size ≤ 9223372036854775807 ∧
 c_strings_CutPrefix B ro a1 (a0 ++ (⟨#[46, 115]⟩ : ByteArray)) σ fun x13_1 x13_2 σ =>
 if ¬ (x13_2 = true) then
  Q false σ
 else
 c_strconv_Atoi B ro x13_1 σ fun x20_3 x20_4 σ =>
 awp Tryz.prog ro (do eqGuard .eql 152 (.tmp 23) (.const .nilIface) x20_4 .nilIface; Go.binOp .eql 152 x20_4 .nilIface) (fun v σ => ∃ x24_5 : Bool, v = .bool x24_5 ∧
  if ((x24_5 = true) ∧ (0 ≤ x20_3)) ∧ (x20_3 ≤ 4611686018427387903) then
   c_strconv_Itoa B ro x20_3 σ fun x35_8 σ =>
   j6_snap_isData B ro Q (decide (x35_8 = x13_1)) σ
  else
  j6_snap_isData B ro Q false σ) σ

set_option maxRecDepth 100000 in
set_option maxHeartbeats 4000000 in
theorem snap_isData_ok {B : World} {ro : AH} {a0 : ByteArray} {a1 : ByteArray} {σ : AH} {Q : Bool → AH → Prop} (h : Sep ro σ → f_snap_isData B ro a0 a1 σ Q) : c_snap_isData B ro a0 a1 σ Q := by
  refine ACalls.of_sep fun hsep => ?_
  replace h := h hsep
  refine ACalls.of_body (args := [.string a0, .string a1]) Tryz.func47 rfl (by rw [Tryz.ntmps47]; simp) ?_
  rw [Tryz.ntmps47]
  unfold f_snap_isData at h
  refine AW.seq ?_
  refine AW.reg ?_
  refine Lp (V_asg rfl rfl) rfl rfl ?_
  refine Lnil ?_
  refine thenN ?_
  refine AW.seq ?_
  refine AW.reg ?_
  refine Lp (V_move rfl rfl) rfl rfl ?_
  refine Lp (V_move rfl rfl) rfl rfl ?_
  obtain ⟨hc, h⟩ := h
  refine Lp (V_cat rfl rfl rfl hc) rfl rfl ?_
  refine Ls rfl rfl (X_call rfl Tryz.func83 rfl rfl rfl (ACalls.mono h ?_))
  rintro v σ ⟨x13_1, x13_2, rfl, h⟩
  refine Lp (V_move rfl rfl) rfl rfl ?_
  refine Lp (V_ext rfl rfl rfl) rfl rfl ?_
  refine Lp (V_ext rfl rfl rfl) rfl rfl ?_
  refine Lp (V_asg rfl rfl) rfl rfl ?_
  refine Lp (V_asg rfl rfl) rfl rfl ?_
  refine Lnil ?_
  refine thenN ?_
  refine AW.seq ?_
  refine AW.seq ?_
  refine AW.reg ?_
  refine Lp (V_move rfl rfl) rfl rfl ?_
  refine Lp (V_not rfl rfl) rfl rfl ?_
  refine Lnil ?_
  refine thenN ?_
  refine AW.iff rfl (bnot_iff Iff.rfl) h (fun h => ?_) (fun h => ?_)
  · refine AW.seq ?_
    refine AW.reg ?_
    refine Lp (V_asg rfl rfl) rfl rfl ?_
    refine Lnil ?_
    refine thenN ?_
    refine AW.ret ?_
    refine thenR ?_
    exact bR1 Tryz.results47 rfl ⟨_, rfl, h⟩
  refine AW.skip ?_
  refine thenN ?_
  refine AW.seq ?_
  refine AW.reg ?_
  refine Lp (V_move rfl rfl) rfl rfl ?_
  refine Ls rfl rfl (X_call rfl Tryz.func84 rfl rfl rfl (ACalls.mono h ?_))
  rintro v σ ⟨x20_3, x20_4, rfl, h⟩
  refine Lp (V_move rfl rfl) rfl rfl ?_
  refine Lp (V_ext rfl rfl rfl) rfl rfl ?_
  refine Lp (V_ext rfl rfl rfl) rfl rfl ?_
  refine Lp (V_asg rfl rfl) rfl rfl ?_
  refine Lp (V_asg rfl rfl) rfl rfl ?_
  refine Lnil ?_
  refine thenN ?_
  refine AW.seq ?_
  refine AW.reg ?_
  refine Lp (V_move rfl rfl) rfl rfl ?_
  refine Ls rfl rfl (X_eq rfl rfl rfl (awp_mono _ h ?_))
  rintro v σ ⟨x24_5, rfl, h⟩
  refine Lp (V_move rfl rfl) rfl rfl ?_
  refine Lsplit 3 x24_5 [(5, .string x13_1), (7, .int .i64 x20_3), (28, .bool (x24_5 && (decide (0 ≤ x20_3))))] ?_ ?_ ?_
  · intro e2 hk2
    refine Lypb (V_move rfl rfl) rfl rfl rfl rfl e2 ?_
    refine Lypb (V_geq rfl rfl rfl) rfl rfl rfl rfl e2 ?_
    refine Lp (V_pickT rfl (evb e2) rfl) rfl rfl ?_
    exact hk2 _ (FrLe.cons rfl (FrLe.cons rfl (FrLe.cons (by rw [e2]; rfl) (FrLe.nil _))))
  · intro e2 hk2
    refine Ln rfl rfl rfl rfl (.inl (by rw [e2]; rfl)) ?_
    refine Ln rfl rfl rfl rfl (.inl (by rw [e2]; rfl)) ?_
    refine Lp (V_pickF rfl (evb e2) rfl) rfl rfl ?_
    exact hk2 _ (FrLe.cons rfl (FrLe.cons rfl (FrLe.cons (by rw [e2]; rfl) (FrLe.nil _))))
  intro fr hl
  refine Lfr hl ?_
  refine Lp (V_move rfl rfl) rfl rfl ?_
  refine Lsplit 3 (x24_5 && (decide (0 ≤ x20_3))) [(5, .string x13_1), (7, .int .i64 x20_3), (32, .bool ((x24_5 && (decide (0 ≤ x20_3))) && (decide (x20_3 ≤ 4611686018427387903))))] ?_ ?_ ?_
  · intro e6 hk6
    refine Lypb (V_move rfl rfl) rfl rfl rfl rfl e6 ?_
    refine Lypb (V_leq rfl rfl rfl) rfl rfl rfl rfl e6 ?_
    refine Lp (V_pickT rfl (evb e6) rfl) rfl rfl ?_
    exact hk6 _ (FrLe.cons rfl (FrLe.cons rfl (FrLe.cons (by rw [e6]; rfl) (FrLe.nil _))))
  · intro e6 hk6
    refine Ln rfl rfl rfl rfl (.inl (by rw [e6]; rfl)) ?_
    refine Ln rfl rfl rfl rfl (.inl (by rw [e6]; rfl)) ?_
    refine Lp (V_pickF rfl (evb e6) rfl) rfl rfl ?_
    exact hk6 _ (FrLe.cons rfl (FrLe.cons rfl (FrLe.cons (by rw [e6]; rfl) (FrLe.nil _))))
  intro fr hl
  refine Lfr hl ?_
  refine Lp (V_move rfl rfl) rfl rfl ?_
  refine LsplitJ 5 ((x24_5 && (decide (0 ≤ x20_3))) && (decide (x20_3 ≤ 4611686018427387903))) (band_iff (band_iff Iff.rfl decide_eq_true_iff) decide_eq_true_iff) h (fun fr σ => ∃ (x38_7 : Bool), FrLe [(38, .bool x38_7)] fr ∧ j6_snap_isData B ro Q x38_7 σ) ?_ ?_ ?_
  · intro h e10 hk10
    refine Lypb (V_move rfl rfl) rfl rfl rfl rfl e10 ?_
    refine Lyb rfl rfl rfl rfl e10 (X_call rfl Tryz.func75 rfl rfl rfl (ACalls.mono h ?_))
    rintro v σ ⟨x35_8, rfl, h⟩
    refine Lypb (V_move rfl rfl) rfl rfl rfl rfl e10 ?_
    refine Lypb (V_eqlS rfl rfl rfl) rfl rfl rfl rfl e10 ?_
    refine Lp (V_pickT rfl (evb e10) rfl) rfl rfl ?_
    exact hk10 _ _ ⟨_, (FrLe.cons rfl (FrLe.nil _)), h⟩
  · intro h e10 hk10
    refine Ln rfl rfl rfl rfl (.inl (by rw [e10]; rfl)) ?_
    refine Ln rfl rfl rfl rfl (.inl (by rw [e10]; rfl)) ?_
    refine Ln rfl rfl rfl rfl (.inl (by rw [e10]; rfl)) ?_
    refine Ln rfl rfl rfl rfl (.inl (by rw [e10]; rfl)) ?_
    refine Lp (V_pickF rfl (evb e10) rfl) rfl rfl ?_
    exact hk10 _ _ ⟨_, (FrLe.cons rfl (FrLe.nil _)), h⟩
  rintro fr σ ⟨x38_7, hl, h⟩
  unfold j6_snap_isData at h
  refine Lfr hl ?_
  refine Lp (V_asg rfl rfl) rfl rfl ?_
  refine Lnil ?_
  refine thenN ?_
  refine AW.ret ?_
  exact bR1 Tryz.results47 rfl ⟨_, rfl, h⟩

def j1_snap_rightName (B : World) (ro : AH) (Q : Bool → AH → Prop) (x14_2 : Bool) (σ : AH) : Prop :=
 Q x14_2 σ

def f_snap_rightName (B : World) (ro : AH) (a0 : ByteArray) (σ : AH) (Q : Bool → AH → Prop) : Prop :=
 if (¬ (a0 = (⟨#[]⟩ : ByteArray))) ∧ ((a0.size : Int) ≤ 12) then
  c_strings_Trim B ro a0 (⟨#[97, 98, 99, 100, 101, 102, 103, 104, 105, 106, 107, 108, 109, 110, 111, 112, 113, 114, 115, 116, 117, 118, 119, 120, 121, 122, 48, 49, 50, 51, 52, 53, 54, 55, 56, 57, 45]⟩ : ByteArray) σ fun x12_3 σ =>
  j1_snap_rightName B ro Q (decide (x12_3 = (⟨#[]⟩ : ByteArray))) σ
 else
 j1_snap_rightName B ro Q false σ

set_option maxRecDepth 100000 in
set_option maxHeartbeats 4000000 in
theorem snap_rightName_ok {B : World} {ro : AH} {a0 : ByteArray} {σ : AH} {Q : Bool → AH → Prop} (h : Sep ro σ → f_snap_rightName B ro a0 σ Q) : c_snap_rightName B ro a0 σ Q := by
  refine ACalls.of_sep fun hsep => ?_
  replace h := h hsep
  refine ACalls.of_body (args := [.string a0]) Tryz.func49 rfl (by rw [Tryz.ntmps49]; simp) ?_
  rw [Tryz.ntmps49]
  unfold f_snap_rightName at h
  refine AW.seq ?_
  refine AW.reg ?_
  refine Lp (V_asg rfl rfl) rfl rfl ?_
  refine Lnil ?_
  refine thenN ?_
  refine AW.seq ?_
  refine AW.reg ?_
  refine Lp (V_move rfl rfl) rfl rfl ?_
  refine Lp (V_neqS rfl rfl rfl) rfl rfl ?_
  refine Lp (V_move rfl rfl) rfl rfl ?_
  refine Lsplit 4 (!(decide (a0 = (⟨#[]⟩ : ByteArray)))) [(0, .string a0), (9, .bool ((!(decide (a0 = (⟨#[]⟩ : ByteArray)))) && (decide ((a0.size : Int) ≤ 12))))] ?_ ?_ ?_
  · intro e2 hk2
    refine Lypb (V_move rfl rfl) rfl rfl rfl rfl e2 ?_
    refine Lypb (V_lenS rfl rfl Tryz.underlying9 rfl rfl) rfl rfl rfl rfl e2 ?_
    refine Lypb (V_leq rfl rfl rfl) rfl rfl rfl rfl e2 ?_
    refine Lp (V_pickT rfl (evb e2) rfl) rfl rfl ?_
    exact hk2 _ (FrLe.cons rfl (FrLe.cons (by rw [e2]; rfl) (FrLe.nil _)))
  · intro e2 hk2
    refine Ln rfl rfl rfl rfl (.inl (by rw [e2]; rfl)) ?_
    refine Ln rfl rfl rfl rfl (.inl (by rw [e2]; rfl)) ?_
    refine Ln rfl rfl rfl rfl (.inl (by rw [e2]; rfl)) ?_
    refine Lp (V_pickF rfl (evb e2) rfl) rfl rfl ?_
    exact hk2 _ (FrLe.cons rfl (FrLe.cons (by rw [e2]; rfl) (FrLe.nil _)))
  intro fr hl
  refine Lfr hl ?_
  refine Lp (V_move rfl rfl) rfl rfl ?_
  refine LsplitJ 4 ((!(decide (a0 = (⟨#[]⟩ : ByteArray)))) && (decide ((a0.size : Int) ≤ 12))) (band_iff (bnot_iff decide_eq_true_iff) decide_eq_true_iff) h (fun fr σ => ∃ (x14_2 : Bool), FrLe [(14, .bool x14_2)] fr ∧ j1_snap_rightName B ro Q x14_2 σ) ?_ ?_ ?_
  · intro h e7 hk7
    refine Lypb (V_move rfl rfl) rfl rfl rfl rfl e7 ?_
    refine Lyb rfl rfl rfl rfl e7 (X_call rfl Tryz.func85 rfl rfl rfl (ACalls.mono h ?_))
    rintro v σ ⟨x12_3, rfl, h⟩
    refine Lypb (V_eqlS rfl rfl rfl) rfl rfl rfl rfl e7 ?_
    refine Lp (V_pickT rfl (evb e7) rfl) rfl rfl ?_
    exact hk7 _ _ ⟨_, (FrLe.cons rfl (FrLe.nil _)), h⟩
  · intro h e7 hk7
    refine Ln rfl rfl rfl rfl (.inl (by rw [e7]; rfl)) ?_
    refine Ln rfl rfl rfl rfl (.inl (by rw [e7]; rfl)) ?_
    refine Ln rfl rfl rfl rfl (.inl (by rw [e7]; rfl)) ?_
    refine Lp (V_pickF rfl (evb e7) rfl) rfl rfl ?_
    exact hk7 _ _ ⟨_, (FrLe.cons rfl (FrLe.nil _)), h⟩
  rintro fr σ ⟨x14_2, hl, h⟩
  unfold j1_snap_rightName at h
  refine Lfr hl ?_
  refine Lp (V_asg rfl rfl) rfl rfl ?_
  refine Lnil ?_
  refine thenN ?_
  refine AW.ret ?_
  exact bR1 Tryz.results49 rfl ⟨_, rfl, h⟩

def j14_snap_readManifest (B : World) (ro : AH) (x4_1 : Nat) (Q : Int → Int → Int → Bool → AH → Prop) (x5_15 : Bool) (σ : AH) : Prop :=
 ∃ (x4_16a : Int) (x4_16b : Int) (x4_16c : Int), cellsAt ro σ ⟨x4_1, 0, none⟩ 0 [.int .i64 x4_16a, .int .i64 x4_16b, .int .i64 x4_16c] ∧
 Q x4_16a x4_16b x4_16c x5_15 σ

def f_snap_readManifest (B : World) (ro : AH) (a0 : Option Addr) (a1 : ByteArray) (σ : AH) (Q : Int → Int → Int → Bool → AH → Prop) : Prop :=
 nw ro σ (.cells #[.int .i64 0, .int .i64 0, .int .i64 0] 90) fun x4_1 σ =>
 a1.size + (⟨#[46, 109, 97, 110]⟩ : ByteArray).size ≤ 9223372036854775807 ∧
 c_disk_Disk_Read B ro a0 (a1 ++ (⟨#[46, 109, 97, 110]⟩ : ByteArray)) σ fun x16_2 x16_3 σ =>
 if ¬ (x16_3 = 0) then
  stN ⟨x4_1, 0, none⟩ (fun σ =>
   ∃ (x4_4a : Int) (x4_4b : Int) (x4_4c : Int), cellsAt ro σ ⟨x4_1, 0, none⟩ 0 [.int .i64 x4_4a, .int .i64 x4_4b, .int .i64 x4_4c] ∧
   Q x4_4a x4_4b x4_4c false σ) [.int .i64 0, .int .i64 0, .int .i64 0] 0 σ
 else
 c_wire_Unframe B ro x16_2 0 σ fun x24_5 x24_6 x24_7 σ =>
 if (¬ (x24_7 = 0)) ∨ (¬ (x24_6 = (x16_2.len : Int))) then
  stN ⟨x4_1, 0, none⟩ (fun σ =>
   ∃ (x4_8a : Int) (x4_8b : Int) (x4_8c : Int), cellsAt ro σ ⟨x4_1, 0, none⟩ 0 [.int .i64 x4_8a, .int .i64 x4_8b, .int .i64 x4_8c] ∧
   Q x4_8a x4_8b x4_8c false σ) [.int .i64 0, .int .i64 0, .int .i64 0] 0 σ
 else
 c_wire_NewReader B ro x24_5 σ fun x38_9 σ =>
 c_wire_Reader_Num B ro x38_9 σ fun x40_10 σ =>
 nw ro σ (.cells #[.int .i64 0, .int .i64 0, .int .i64 0] 90) fun x11_11 σ =>
 stN ⟨x11_11, 0, none⟩ (fun σ =>
  c_wire_Reader_Num B ro x38_9 σ fun x43_12 σ =>
  c_wire_Reader_Num B ro x38_9 σ fun x45_13 σ =>
  stN ⟨x11_11, 0, none⟩ (fun σ =>
   stN ((⟨x11_11, 0, none⟩ : Addr).add 1) (fun σ =>
    lent σ fun ψ σ =>
     ∃ (x50_17a : Int) (x50_17b : Int) (x50_17c : Int), cellsAt (join ro ψ) (fun _ => none) ⟨x11_11, 0, none⟩ 0 [.int .i64 x50_17a, .int .i64 x50_17b, .int .i64 x50_17c] ∧
     c_wire_Reader_Err B (join ro ψ) x38_9 σ fun x52_18 σ =>
     if x52_18 = 0 then
      c_wire_Reader_Left B (join ro ψ) x38_9 σ fun x56_19 σ =>
      stN ⟨x4_1, 0, none⟩ (fun σ =>
       (Disj ψ σ → (fun σ => 
        j14_snap_readManifest B ro x4_1 Q (decide (x56_19 = 0)) σ) (join ψ σ))) [.int .i64 x50_17a, .int .i64 x50_17b, .int .i64 x50_17c] 0 σ
     else
     stN ⟨x4_1, 0, none⟩ (fun σ =>
      (Disj ψ σ → (fun σ => 
       j14_snap_readManifest B ro x4_1 Q false σ) (join ψ σ))) [.int .i64 x50_17a, .int .i64 x50_17b, .int .i64 x50_17c] 0 σ) [.int .i64 x45_13] 0 σ) [.int .i64 x43_12] 0 σ) [.int .i64 0, .int .i64 0, .int .i64 x40_10] 0 σ

set_option maxRecDepth 100000 in
set_option maxHeartbeats 4000000 in
theorem snap_readManifest_ok {B : World} {ro : AH} {a0 : Option Addr} {a1 : ByteArray} {σ : AH} {Q : Int → Int → Int → Bool → AH → Prop} (h : Sep ro σ → f_snap_readManifest B ro a0 a1 σ Q) : c_snap_readManifest B ro a0 a1 σ Q := by
  refine ACalls.of_sep fun hsep => ?_
  replace h := h hsep
  refine ACalls.of_body (args := [.pointer a0, .string a1]) Tryz.func50 rfl (by rw [Tryz.ntmps50]; simp) ?_
  rw [Tryz.ntmps50]
  unfold f_snap_readManifest at h
  refine AW.seq ?_
  refine AW.reg ?_
  refine Ls rfl rfl (X_new (A_alloc rfl ty90) fun x4_1 g1 g2 => ?_)
  replace h := h x4_1 g1 g2
  refine Lp (V_asg rfl rfl) rfl rfl ?_
  refine Lnil ?_
  refine thenN ?_
  refine AW.seq ?_
  refine AW.reg ?_
  refine Lp (V_move rfl rfl) rfl rfl ?_
  refine Lp (V_move rfl rfl) rfl rfl ?_
  obtain ⟨hc, h⟩ := h
  refine Lp (V_cat rfl rfl rfl hc) rfl rfl ?_
  refine Ls rfl rfl (X_call rfl Tryz.func51 rfl rfl rfl (ACalls.mono h ?_))
  rintro v σ ⟨x16_2, x16_3, rfl, h⟩
  refine Lp (V_move rfl rfl) rfl rfl ?_
  refine Lp (V_ext rfl rfl rfl) rfl rfl ?_
  refine Lp (V_ext rfl rfl rfl) rfl rfl ?_
  refine Lp (V_asg rfl rfl) rfl rfl ?_
  refine Lp (V_asg rfl rfl) rfl rfl ?_
  refine Lnil ?_
  refine thenN ?_
  refine AW.seq ?_
  refine AW.seq ?_
  refine AW.reg ?_
  refine Lp (V_move rfl rfl) rfl rfl ?_
  refine Lp (V_neq rfl rfl rfl) rfl rfl ?_
  refine Lnil ?_
  refine thenN ?_
  refine AW.iff rfl (bnot_iff decide_eq_true_iff) h (fun h => ?_) (fun h => ?_)
  · refine AW.seq ?_
    refine AW.reg ?_
    refine Lp (V_bld (vs := []) (cs := #[.int .i64 0, .int .i64 0, .int .i64 0]) rfl Tryz.underlying90 ty90 pl90 rfl rfl) rfl rfl ?_
    refine Ls rfl rfl (X_st rfl ty90 rfl rfl rfl rfl (stN_mono h fun σ h => ?_))
    refine Lp (V_asg rfl rfl) rfl rfl ?_
    refine Lnil ?_
    refine thenN ?_
    refine AW.ret ?_
    refine thenR ?_
    obtain ⟨x4_4a, x4_4b, x4_4c, hc0, h⟩ := h
    exact bRM Tryz.results50 (rCons (rAgg rfl Tryz.underlying90 rfl ty90 hc0) (rCons (rTmp rfl) rNil)) ⟨_, _, _, _, rfl, h⟩
  refine AW.skip ?_
  refine thenN ?_
  refine AW.seq ?_
  refine AW.reg ?_
  refine Lp (V_move rfl rfl) rfl rfl ?_
  refine Ls rfl rfl (X_call rfl Tryz.func86 rfl rfl rfl (ACalls.mono h ?_))
  rintro v σ ⟨x24_5, x24_6, x24_7, rfl, h⟩
  refine Lp (V_move rfl rfl) rfl rfl ?_
  refine Lp (V_ext rfl rfl rfl) rfl rfl ?_
  refine Lp (V_ext rfl rfl rfl) rfl rfl ?_
  refine Lp (V_ext rfl rfl rfl) rfl rfl ?_
  refine Lp (V_asg rfl rfl) rfl rfl ?_
  refine Lp (V_asg rfl rfl) rfl rfl ?_
  refine Lp (V_asg rfl rfl) rfl rfl ?_
  refine Lnil ?_
  refine thenN ?_
  refine AW.seq ?_
  refine AW.seq ?_
  refine AW.reg ?_
  refine Lp (V_move rfl rfl) rfl rfl ?_
  refine Lp (V_neq rfl rfl rfl) rfl rfl ?_
  refine Lp (V_move rfl rfl) rfl rfl ?_
  refine Lsplit 5 (!(decide (x24_7 = 0))) [(4, .pointer (some ⟨x4_1, 0, none⟩)), (8, Sl.v x24_5), (35, .bool ((!(decide (x24_7 = 0))) || (!(decide (x24_6 = (x16_2.len : Int))))))] ?_ ?_ ?_
  · intro e2 hk2
    refine Ln rfl rfl rfl rfl (.inl (by rw [e2]; rfl)) ?_
    refine Ln rfl rfl rfl rfl (.inl (by rw [e2]; rfl)) ?_
    refine Ln rfl rfl rfl rfl (.inl (by rw [e2]; rfl)) ?_
    refine Ln rfl rfl rfl rfl (.inl (by rw [e2]; rfl)) ?_
    refine Lp (V_pickT rfl (evb e2) rfl) rfl rfl ?_
    exact hk2 _ (FrLe.cons rfl (FrLe.cons rfl (FrLe.cons (by rw [e2]; rfl) (FrLe.nil _))))
  · intro e2 hk2
    refine Lypb (V_move rfl rfl) rfl rfl rfl rfl e2 ?_
    refine Lypb (V_move rfl rfl) rfl rfl rfl rfl e2 ?_
    refine Lypb (V_lenL rfl rfl Tryz.underlying22 rfl rfl) rfl rfl rfl rfl e2 ?_
    refine Lypb (V_neq rfl rfl rfl) rfl rfl rfl rfl e2 ?_
    refine Lp (V_pickF rfl (evb e2) rfl) rfl rfl ?_
    exact hk2 _ (FrLe.cons rfl (FrLe.cons rfl (FrLe.cons (by rw [e2]; rfl) (FrLe.nil _))))
  intro fr hl
  refine Lfr hl ?_
  refine Lnil ?_
  refine thenN ?_
  refine AW.iff rfl (bor_iff (bnot_iff decide_eq_true_iff) (bnot_iff decide_eq_true_iff)) h (fun h => ?_) (fun h => ?_)
  · refine AW.seq ?_
    refine AW.reg ?_
    refine Lp (V_bld (vs := []) (cs := #[.int .i64 0, .int .i64 0, .int .i64 0]) rfl Tryz.underlying90 ty90 pl90 rfl rfl) rfl rfl ?_
    refine Ls rfl rfl (X_st rfl ty90 rfl rfl rfl rfl (stN_mono h fun σ h => ?_))
    refine Lp (V_asg rfl rfl) rfl rfl ?_
    refine Lnil ?_
    refine thenN ?_
    refine AW.ret ?_
    refine thenR ?_
    obtain ⟨x4_8a, x4_8b, x4_8c, hc0, h⟩ := h
    exact bRM Tryz.results50 (rCons (rAgg rfl Tryz.underlying90 rfl ty90 hc0) (rCons (rTmp rfl) rNil)) ⟨_, _, _, _, rfl, h⟩
  refine AW.skip ?_
  refine thenN ?_
  refine AW.seq ?_
  refine AW.reg ?_
  refine Lp (V_move rfl rfl) rfl rfl ?_
  refine Ls rfl rfl (X_call rfl Tryz.func87 rfl rfl rfl (ACalls.mono h ?_))
  rintro v σ ⟨x38_9, rfl, h⟩
  refine Lp (V_asg rfl rfl) rfl rfl ?_
  refine Lnil ?_
  refine thenN ?_
  refine AW.seq ?_
  refine AW.reg ?_
  refine Lp (V_move rfl rfl) rfl rfl ?_
  refine Ls rfl rfl (X_call rfl Tryz.func88 rfl rfl rfl (ACalls.mono h ?_))
  rintro v σ ⟨x40_10, rfl, h⟩
  refine Lp (V_bld (vs := [(1, .int .i64 x40_10)]) (cs := #[.int .i64 0, .int .i64 0, .int .i64 x40_10]) rfl Tryz.underlying90 ty90 pl90 rfl rfl) rfl rfl ?_
  refine Ls rfl rfl (X_new (A_alloc rfl ty90) fun x11_11 g1 g2 => ?_)
  replace h := h x11_11 g1 g2
  refine Ls rfl rfl (X_st rfl ty90 rfl rfl rfl rfl (stN_mono h fun σ h => ?_))
  refine Lnil ?_
  refine thenN ?_
  refine AW.seq ?_
  refine AW.reg ?_
  refine Lp (V_move rfl rfl) rfl rfl ?_
  refine Ls rfl rfl (X_call rfl Tryz.func88 rfl rfl rfl (ACalls.mono h ?_))
  rintro v σ ⟨x43_12, rfl, h⟩
  refine Lp (V_move rfl rfl) rfl rfl ?_
  refine Ls rfl rfl (X_call rfl Tryz.func88 rfl rfl rfl (ACalls.mono h ?_))
  rintro v σ ⟨x45_13, rfl, h⟩
  refine Lp (V_fld rfl Tryz.underlying90 rfl ty87 (by decide) rfl) rfl rfl ?_
  refine Lp (V_fld rfl Tryz.underlying87 rfl ty3 (by decide) rfl) rfl rfl ?_
  refine Ls rfl rfl (X_st rfl ty3 rfl rfl rfl rfl (stN_mono h fun σ h => ?_))
  refine Lp (V_fld rfl Tryz.underlying90 rfl ty87 (by decide) rfl) rfl rfl ?_
  refine Lp (V_fld rfl Tryz.underlying87 rfl ty3 (by decide) rfl) rfl rfl ?_
  refine Ls rfl rfl (X_st rfl ty3 rfl rfl rfl rfl (stN_mono h fun σ h => ?_))
  refine Lnil ?_
  refine thenN ?_
  refine AW.seqJ (fun fr σ => ∃ (x5_15 : Bool), FrLe [(4, .pointer (some ⟨x4_1, 0, none⟩)), (5, .bool x5_15)] fr ∧ j14_snap_readManifest B ro x4_1 Q x5_15 σ) ?_ ?_
  · rintro fr σ ⟨x5_15, hl, h⟩
    refine AW.weaken ?_ hl (HLe.refl _)
    unfold j14_snap_readManifest at h
    refine AW.ret ?_
    obtain ⟨x4_16a, x4_16b, x4_16c, hc0, h⟩ := h
    exact bRM Tryz.results50 (rCons (rAgg rfl Tryz.underlying90 rfl ty90 hc0) (rCons (rTmp rfl) rNil)) ⟨_, _, _, _, rfl, h⟩
  refine AW.drawnL (fun i => ([0, 0, 2, 0, 0, 0, 2, 0, 0, 2, 0] : List Nat).getD i 2) [(2, 4), (2, 5), (2, 6), (2, 9)] [0, 1, 2, 3, 4, 5, 6, 7, 8, 9, 10] Tryz.mixed h (by decide +kernel) ?_
  clear h
  intro ψ σ h
  obtain ⟨x50_17a, x50_17b, x50_17c, hc, h⟩ := h
  refine Dp rfl rfl rfl rfl (V_lda rfl Tryz.underlying90 rfl ty90 rfl hc) ?_
  refine Dp rfl rfl rfl rfl (V_move rfl rfl) ?_
  refine Dg rfl rfl rfl rfl (X_call rfl Tryz.func89 rfl rfl rfl (ACalls.mono h ?_))
  rintro v σ ⟨x52_18, rfl, h⟩
  refine Dp rfl rfl rfl rfl (V_eql rfl rfl rfl) ?_
  refine Dp rfl rfl rfl rfl (V_move rfl rfl) ?_
  refine splitP (decide (x52_18 = 0)) decide_eq_true_iff h ?_ ?_
  rotate_left
  · intro h e4
    refine Dpn rfl rfl rfl rfl rfl (.inl (by rw [e4]; rfl)) rfl ?_
    refine Dgn rfl rfl rfl rfl rfl (.inl (by rw [e4]; rfl)) rfl ?_
    refine Dpn rfl rfl rfl rfl rfl (.inl (by rw [e4]; rfl)) rfl ?_
    refine Dp rfl rfl rfl rfl (V_pickF rfl (evb e4) rfl) ?_
    refine Dg rfl rfl rfl rfl (X_st rfl ty90 rfl rfl rfl rfl (stN_mono h fun σ h => ?_))
    refine Dp rfl rfl rfl rfl (V_asg rfl rfl) ?_
    refine ⟨_, FrEq.refl _, fun hdj => ?_⟩
    replace h := h hdj
    refine thenN ?_
    exact ⟨_, (FrLe.cons rfl (FrLe.cons rfl (FrLe.nil _))), h⟩
  intro h e4
  refine Dpy rfl rfl rfl rfl rfl e4 rfl (V_move rfl rfl) ?_
  refine Dgy rfl rfl rfl rfl rfl e4 rfl (X_call rfl Tryz.func90 rfl rfl rfl (ACalls.mono h ?_))
  rintro v σ ⟨x56_19, rfl, h⟩
  refine Dpy rfl rfl rfl rfl rfl e4 rfl (V_eql rfl rfl rfl) ?_
  refine Dp rfl rfl rfl rfl (V_pickT rfl (evb e4) rfl) ?_
  refine Dg rfl rfl rfl rfl (X_st rfl ty90 rfl rfl rfl rfl (stN_mono h fun σ h => ?_))
  refine Dp rfl rfl rfl rfl (V_asg rfl rfl) ?_
  refine ⟨_, FrEq.refl _, fun hdj => ?_⟩
  replace h := h hdj
  refine thenN ?_
  exact ⟨_, (FrLe.cons rfl (FrLe.cons rfl (FrLe.nil _))), h⟩

end Go.Proofs.YtfobjidchipdaaaGreatDoor.G

/- A snapshot's digest, the walk. -/
namespace Go.Proofs.YtfobjidchipdaaaGreatDoor.Sn
open Go Go.Proofs.YtfobjidchipdaaaGreatDoor.SL Go.Proofs.YtfobjidchipdaaaGreatDoor.G Go.Proofs.YtfobjidchipdaaaGreatDoor.Pa Go.Proofs.YtfobjidchipdaaaGreatDoor.Wi
set_option linter.unusedSimpArgs false
set_option linter.unusedVariables false
set_option maxRecDepth 100000
variable {B : World} {ro σ σ' : AH} {tag tag' : Nat → Nat}
theorem digestOf_ok {s : Sl} {l : Str} {Q : Int → Int → AH → Prop} (hx : ∀ tag' σ', Step [] ro tag σ tag' σ' → SL.Read ro σ' s (l.map Zt.vU)) (hl : l.length < 4611686018427387904) (hQ : ∀ tag' σ', Step [0] ro tag σ tag' σ' → Q (l.length : Nat) (crc l : Nat) σ') : c_snap_digestOf B ro s σ Q := by
  refine snap_digestOf_ok fun hs => ?_
  unfold f_snap_digestOf
  have hln : s.len = l.length := by have := (hx tag σ (Step.refl hs)).1; rw [this, List.length_map]
  refine nw_cells (tag := tag) 0 hs fun x tag1 σ1 st1 r1 => ?_
  refine sum_ok (hx _ _ (st1 [])) hl ?_
  refine r1.stAll (st1 []).sep rfl (by simp [storable]) fun σ2 st2 r2 => ?_
  obtain ⟨p, hp, hg⟩ := r2.ptr st2.sep (by simp)
  cases hp
  refine ⟨(s.len : Int), (crc l : Nat), cellsAt_of 0 fun j v hj => by have := hg j v hj; rwa [Nat.mul_one, ← Nat.zero_add j] at this, ?_⟩
  rw [hln]
  exact hQ tag1 σ2 ((st1 _).trans st2)
end Go.Proofs.YtfobjidchipdaaaGreatDoor.Sn

/- Chunks: what they are, and how one is read. -/
namespace Go.Proofs.YtfobjidchipdaaaGreatDoor.Wi
open Go Go.Proofs.YtfobjidchipdaaaGreatDoor.SL
theorem Tail.outR {tag : Nat → Nat} {σ : AH} {L : List Nat} {q : Nat} {s : Sl} {l : Str} (h : Tail tag σ q s l) (hq : q ∉ L) : Tail tag (SL.outR tag L σ) q s l := by
  rcases h with h | ⟨g, cs, k, h1, h2, h3, h4⟩
  · exact .inl h
  · exact .inr ⟨g, cs, k, h1, h2, by unfold SL.outR; rw [if_neg (by rw [h2]; exact hq)]; exact h3, h4⟩
theorem RdAt.outR {tag : Nat → Nat} {σ : AH} {L : List Nat} {r A : Nat} {y : Rd} (h : RdAt tag σ r A y) (hr : r ∉ L) (h6 : 6 ∉ L) : RdAt tag (SL.outR tag L σ) r A y := by
  obtain ⟨s, h1, h2, h3⟩ := h
  exact ⟨s, h1.outR hr, h2.outR h6, h3⟩
end Go.Proofs.YtfobjidchipdaaaGreatDoor.Wi
namespace Go.Proofs.YtfobjidchipdaaaGreatDoor.Sn
open Go Go.Proofs.YtfobjidchipdaaaGreatDoor.SL Go.Proofs.YtfobjidchipdaaaGreatDoor.G Go.Proofs.YtfobjidchipdaaaGreatDoor.Pa Go.Proofs.YtfobjidchipdaaaGreatDoor.Wi
set_option linter.unusedSimpArgs false
set_option linter.unusedVariables false
set_option maxRecDepth 100000
variable {B : World} {ro σ σ' : AH} {tag tag' : Nat → Nat}
abbrev vI := Zt.vI
abbrev vU := Zt.vU
structure Ck where
  number : Nat
  count : Nat
  at' : Nat
  length : Nat
  sum : Nat
  part : Str
def encCk (c : Ck) : Str := vput c.number ++ (vput c.count ++ (vput c.at' ++ (vput c.length ++ (vput c.sum ++ (blob c.part ++ [])))))
def Ck.right (c : Ck) : Prop := c.number < 4611686018427387904 ∧ c.count < 4611686018427387904 ∧ c.at' < 4611686018427387904 ∧ c.length < 4611686018427387904 ∧ c.sum < 4611686018427387904 ∧ c.part.length < 4611686018427387904
def x1 (b : Str) := rnum ⟨b, 0⟩
def x2 (b : Str) := rnum (x1 b).2
def x3 (b : Str) := rnum (x2 b).2
def x4 (b : Str) := rnum (x3 b).2
def x5 (b : Str) := rnum (x4 b).2
def x6 (b : Str) := rblob (x5 b).2
def ckOf (b : Str) : Ck := ⟨(x1 b).1, (x2 b).1, (x3 b).1, (x4 b).1, (x5 b).1, (x6 b).1⟩
def ckFits (c : Ck) : Bool := decide (1 ≤ c.count) && (decide (c.count ≤ 1048576) && (decide (c.at' < c.count) && (decide (c.length ≤ 1048576) && decide (c.part.length ≤ c.length))))
def ckOk (b : Str) : Bool := decide ((x6 b).2.err = 0) && (decide ((x6 b).2.rest.length = 0) && ckFits (ckOf b))
theorem read_enc {c : Ck} (h : c.right) : ckOf (encCk c) = c ∧ ckOk (encCk c) = ckFits c := by
  obtain ⟨h1, h2, h3, h4, h5, h6⟩ := h
  have e1 : x1 (encCk c) = _ := rnum_put h1 _
  have e2 : x2 (encCk c) = (c.count, ⟨vput c.at' ++ (vput c.length ++ (vput c.sum ++ (blob c.part ++ []))), 0⟩) := by
    unfold x2; rw [e1]; exact rnum_put h2 _
  have e3 : x3 (encCk c) = (c.at', ⟨vput c.length ++ (vput c.sum ++ (blob c.part ++ [])), 0⟩) := by
    unfold x3; rw [e2]; exact rnum_put h3 _
  have e4 : x4 (encCk c) = (c.length, ⟨vput c.sum ++ (blob c.part ++ []), 0⟩) := by
    unfold x4; rw [e3]; exact rnum_put h4 _
  have e5 : x5 (encCk c) = (c.sum, ⟨blob c.part ++ [], 0⟩) := by
    unfold x5; rw [e4]; exact rnum_put h5 _
  have e6 : x6 (encCk c) = (c.part, ⟨[], 0⟩) := by
    unfold x6; rw [e5]; exact rblob_put h6 _
  have hc : ckOf (encCk c) = c := by unfold ckOf; rw [e1, e2, e3, e4, e5, e6]
  refine ⟨hc, ?_⟩
  unfold ckOk
  rw [hc, e6]; simp
end Go.Proofs.YtfobjidchipdaaaGreatDoor.Sn

/- Maps whose keys are whole numbers: what look-ups, stores and deletes do to the list of pairs that a map holds. Generic over any program. -/
namespace Go.Proofs.YtfobjidchipdaaaGreatDoor.SL
open Go
set_option linter.unusedSimpArgs false
set_option linter.unusedVariables false
variable {P : Program} {B : World} {ro σ σ' : AH} {tag tag' : Nat → Nat}

abbrev KVn := List (Int × Value)
def pairN (p : Int × Value) : Value × Value := (.int .i64 p.1, p.2)
structure MapN (tag : Nat → Nat) (σ : AH) (r b : Nat) (m : KVn) : Prop where
  tg : tag b = r
  obj : ∃ es clock, σ b = some (.map es clock) ∧ es.toList.map entV = m.map pairN ∧ Born es clock

theorem MapN.keep {R : List Nat} {r b : Nat} {m : KVn} (h : MapN tag σ r b m) (k : Step R ro tag σ tag' σ') (hr : r ∉ R) : MapN tag' σ' r b m := by
  obtain ⟨es, c, hb, hx⟩ := h.obj
  obtain ⟨t, e⟩ := k.keep b _ hb (by rw [h.tg]; exact hr)
  exact ⟨t.trans h.tg, es, c, e, hx⟩

theorem MapN.outR {L : List Nat} {r b : Nat} {m : KVn} (h : MapN tag σ r b m) (hr : r ∉ L) : MapN tag (SL.outR tag L σ) r b m := by
  obtain ⟨es, clock, hb, x⟩ := h.obj
  exact ⟨h.tg, es, clock, by unfold SL.outR; rw [if_neg (by rw [h.tg]; exact hr)]; exact hb, x⟩
theorem MapN.keepS {C : List Nat} {r b : Nat} {m : KVn} (h : MapN tag σ r b m) (k : StepS C ro tag σ tag' σ') (hr : r % 64 ∉ C) : MapN tag' σ' r b m := by
  obtain ⟨R, h1, h2⟩ := k
  exact h.keep h2 fun m => hr (h1 _ m)
end Go.Proofs.YtfobjidchipdaaaGreatDoor.SL

/- Chunks put together: what is there, and how it lies in memory. -/
namespace Go.Proofs.YtfobjidchipdaaaGreatDoor.SL
open Go
end Go.Proofs.YtfobjidchipdaaaGreatDoor.SL
namespace Go.Proofs.YtfobjidchipdaaaGreatDoor.Sn
open Go Go.Proofs.YtfobjidchipdaaaGreatDoor.SL Go.Proofs.YtfobjidchipdaaaGreatDoor.G Go.Proofs.YtfobjidchipdaaaGreatDoor.Pa Go.Proofs.YtfobjidchipdaaaGreatDoor.Wi
set_option linter.unusedSimpArgs false
set_option linter.unusedVariables false
set_option maxRecDepth 100000
variable {B : World} {ro σ σ' : AH} {tag tag' : Nat → Nat}
section
variable {β : Type}
def qput : List (Int × β) → Int → β → List (Int × β)
  | [], k, v => [(k, v)]
  | (k', v') :: r, k, v => if k = k' then (k, v) :: r else (k', v') :: qput r k v
theorem qput_look {l : List (Int × β)} {k : Int} {v : β} (j : Int) : (qput l k v).lookup j = if j = k then some v else l.lookup j := by
  induction l with
  | nil =>
    show List.lookup j [(k, v)] = _
    rw [List.lookup_cons]
    by_cases e : j = k
    · simp [e]
    · rw [show (j == k) = false by simpa using e, if_neg e]
  | cons p l ih =>
    obtain ⟨k', v'⟩ := p
    unfold qput
    by_cases c : k = k'
    · rw [if_pos c]
      subst c
      rw [List.lookup_cons, List.lookup_cons]
      by_cases e : j = k
      · simp [e]
      · rw [show (j == k) = false by simpa using e, if_neg e]
    · rw [if_neg c, List.lookup_cons, List.lookup_cons, ih]
      by_cases e : j = k'
      · subst e
        simp
        intro h; exact absurd h.symm c
      · rw [show (j == k') = false by simpa using e]
theorem qmem_put {l : List (Int × β)} {k : Int} {v : β} {p : Int × β} (h : p ∈ qput l k v) : p = (k, v) ∨ p ∈ l := by
  induction l with
  | nil => exact .inl (List.mem_singleton.1 h)
  | cons q l ih =>
    obtain ⟨k', v'⟩ := q
    unfold qput at h
    split at h
    · rcases List.mem_cons.1 h with h | h
      · exact .inl h
      · exact .inr (List.mem_cons_of_mem _ h)
    · rcases List.mem_cons.1 h with h | h
      · exact .inr (by rw [h]; exact List.mem_cons_self)
      · rcases ih h with h | h
        · exact .inl h
        · exact .inr (List.mem_cons_of_mem _ h)
theorem qlook_mem {l : List (Int × β)} {k : Int} {v : β} (h : l.lookup k = some v) : (k, v) ∈ l := by
  induction l with
  | nil => cases h
  | cons p l ih =>
    obtain ⟨k', v'⟩ := p
    rw [List.lookup_cons] at h
    by_cases e : k = k'
    · subst e; simp at h; subst h; simp
    · rw [show (k == k') = false by simpa using e] at h
      exact List.mem_cons_of_mem _ (ih h)
theorem qput_keys (l : List (Int × β)) (k : Int) (v : β) : ((qput l k v).map (·.1) = l.map (·.1) ∧ k ∈ l.map (·.1)) ∨ ((qput l k v).map (·.1) = l.map (·.1) ++ [k] ∧ k ∉ l.map (·.1)) := by
  induction l with
  | nil => exact .inr ⟨rfl, by simp⟩
  | cons p l ih =>
    obtain ⟨k', v'⟩ := p
    unfold qput
    by_cases c : k = k'
    · rw [if_pos c]; subst c; exact .inl ⟨rfl, by simp⟩
    · rw [if_neg c]
      rcases ih with ⟨h1, h2⟩ | ⟨h1, h2⟩
      · exact .inl ⟨by simp [h1], by simp at h2 ⊢; exact .inr h2⟩
      · exact .inr ⟨by simp [h1], by simp at h2 ⊢; exact ⟨c, h2⟩⟩
end
/-- what was put together -/
structure As where
  length : Nat
  sum : Nat
  number : Nat
  count : Nat
  parts : List (Int × Str)
def As.new : As := ⟨0, 0, 0, 0, []⟩
def As.begin (a : As) (c : Ck) : As := if a.count = 0 then { a with length := c.length, sum := c.sum, number := c.number, count := c.count } else a
def As.fits (a : As) (c : Ck) : Bool := decide (c.length = a.length ∧ c.sum = a.sum ∧ c.number = a.number) && (decide (c.count = a.count) && (match a.parts.lookup (c.at' : Int) with | some p => decide (p = c.part) | none => true))
def asAdd1 (a : As) (b : Str) : As × Int :=
  if ckOk b then (if (a.begin (ckOf b)).fits (ckOf b) then ({ (a.begin (ckOf b)) with parts := qput (a.begin (ckOf b)).parts ((ckOf b).at' : Int) (ckOf b).part }, 0) else (a.begin (ckOf b), 51))
  else (a, 50)
def asData (a : As) : Str := (List.range a.count).flatMap fun (i : Nat) => (a.parts.lookup (i : Int)).getD []
def asDone (a : As) : Nat × Str × Bool :=
  if a.count = 0 ∨ a.parts.length < a.count then (0, [], false)
  else if (asData a).length = a.length ∧ crc (asData a) = a.sum then (a.number, asData a, true) else (0, [], false)
/-- nothing is too great -/
structure AsOk (a : As) : Prop where
  count : a.count ≤ 1048576
  part : ∀ p ∈ a.parts, p.2.length ≤ 1048576
theorem ckOk_fits {b : Str} (h : ckOk b = true) : 1 ≤ (ckOf b).count ∧ (ckOf b).count ≤ 1048576 ∧ (ckOf b).at' < (ckOf b).count ∧ (ckOf b).length ≤ 1048576 ∧ (ckOf b).part.length ≤ (ckOf b).length := by
  unfold ckOk ckFits at h
  simp only [Bool.and_eq_true, decide_eq_true_eq] at h
  omega
theorem AsOk.begin {a : As} {b : Str} (h : AsOk a) (hb : ckOk b = true) : AsOk (a.begin (ckOf b)) := by
  unfold As.begin
  split
  · exact ⟨(ckOk_fits hb).2.1, h.part⟩
  · exact h
theorem AsOk.add {a : As} {b : Str} (h : AsOk a) : AsOk (asAdd1 a b).1 := by
  unfold asAdd1
  split
  · rename_i hb
    have h2 := h.begin hb
    split
    · refine ⟨h2.count, fun p hp => ?_⟩
      rcases qmem_put hp with rfl | hp
      · have := ckOk_fits hb; simp only; omega
      · exact h2.part p hp
    · exact h2
  · exact h
abbrev Qs := List (Int × Sl × Str)
structure AsAt (tag : Nat → Nat) (σ : AH) (r T M : Nat) (a : As) : Prop where
  cell : Row tag σ r 114 ⟨some ⟨T, 0, none⟩, 5, 5⟩ [Zt.vI a.length, Zt.vI a.sum, Zt.vI a.number, Zt.vI a.count, .map (some M)]
  map : ∃ qs : Qs, a.parts = qs.map (fun q => (q.1, q.2.2)) ∧ MapN tag σ (r + 64) M (qs.map fun q => (q.1, Sl.v q.2.1)) ∧ ∀ q ∈ qs, Row tag σ 6 5 q.2.1 (q.2.2.map Zt.vU)
theorem AsAt.keep {R : List Nat} {r T M : Nat} {a : As} (h : AsAt tag σ r T M a) (k : Step R ro tag σ tag' σ') (h1 : r ∉ R) (h2 : r + 64 ∉ R) (h6 : 6 ∉ R) : AsAt tag' σ' r T M a := by
  obtain ⟨c, qs, e, m, d⟩ := h
  exact ⟨c.keep k h1, qs, e, m.keep k h2, fun q hq => (d q hq).keep k h6⟩
theorem AsAt.keepS {C : List Nat} {r T M : Nat} {a : As} (h : AsAt tag σ r T M a) (k : StepS C ro tag σ tag' σ') (hr : r % 64 ∉ C) (h6 : 6 ∉ C) : AsAt tag' σ' r T M a := by
  obtain ⟨R, h1, h2⟩ := k
  refine h.keep h2 (fun m => hr (h1 _ m)) (fun m => hr ?_) (fun m => h6 (h1 _ m))
  have := h1 _ m
  rwa [Nat.add_mod_right] at this
end Go.Proofs.YtfobjidchipdaaaGreatDoor.Sn

/- Several values stored at the beginning of a row. Generic over any program. -/
namespace Go.Proofs.YtfobjidchipdaaaGreatDoor.SL
open Go
set_option linter.unusedVariables false
variable {ro σ : AH} {tag : Nat → Nat}
theorem stN_cons {b i : Nat} {v : Value} {vs : List Value} {K : AH → Prop} (h : stN ((⟨b, 0, none⟩ : Addr).add (i * 1)) (fun σ => stN ⟨b, 0, none⟩ K vs (i + 1) σ) [v] 0 σ) : stN ⟨b, 0, none⟩ K (v :: vs) i σ := by
  have e : ((⟨b, 0, none⟩ : Addr).add (i * 1)).add 0 = (⟨b, 0, none⟩ : Addr).add i := by rw [add_add, add_add, add_add, Nat.mul_one, Nat.add_zero]
  unfold stN at h ⊢
  rw [e] at h
  exact h
theorem Row.stPre {r : Nat} {e : TypeId} {b n c : Nat} {K : AH → Prop} : ∀ (vs : List Value) (i : Nat) (l : List Value) (σ : AH), Row tag σ r e ⟨some ⟨b, 0, none⟩, n, c⟩ l → Sep ro σ → i + vs.length ≤ l.length → (∀ v ∈ vs, storable v = true) →
    (∀ σ', Step [r] ro tag σ tag σ' → Row tag σ' r e ⟨some ⟨b, 0, none⟩, n, c⟩ (l.take i ++ vs ++ l.drop (i + vs.length)) → K σ') → stN ⟨b, 0, none⟩ K vs i σ := by
  intro vs
  induction vs with
  | nil =>
    intro i l σ h hs _ _ hK
    refine hK σ (Step.refl hs) ?_
    simpa using h
  | cons v vs ih =>
    intro i l σ h hs hl hv hK
    simp only [List.length_cons] at hl
    refine stN_cons ?_
    refine h.st hs rfl (by omega) (hv v (by simp)) fun σ1 st1 h1 => ?_
    refine ih (i + 1) (l.set i v) σ1 h1 st1.sep (by simp; omega) (fun w hw => hv w (by simp [hw])) fun σ2 st2 h2 => ?_
    refine hK σ2 (st1.trans st2) ?_
    have e1 : (l.set i v).take (i + 1) = l.take i ++ [v] := by
      rw [List.take_add_one, List.take_set_of_le (Nat.le_refl _), List.getElem?_set_self (by omega)]; rfl
    have e2 : (l.set i v).drop (i + 1 + vs.length) = l.drop (i + (v :: vs).length) := by
      rw [List.drop_set_of_lt (by omega)]; congr 1; simp; omega
    rw [e1, e2] at h2
    simpa using h2
end Go.Proofs.YtfobjidchipdaaaGreatDoor.SL

/- Chunks put together, the walk: Add. -/
namespace Go.Proofs.YtfobjidchipdaaaGreatDoor.Sn
open Go Go.Proofs.YtfobjidchipdaaaGreatDoor.SL Go.Proofs.YtfobjidchipdaaaGreatDoor.G Go.Proofs.YtfobjidchipdaaaGreatDoor.Pa Go.Proofs.YtfobjidchipdaaaGreatDoor.Wi
set_option linter.unusedSimpArgs false
set_option linter.unusedVariables false
set_option maxRecDepth 100000
variable {B : World} {ro σ σ' : AH} {tag tag' : Nat → Nat}
theorem AsAt.qs {r T M : Nat} {a : As} (h : AsAt tag σ r T M a) : ∃ qs : Qs, a.parts = qs.map (fun q => (q.1, q.2.2)) ∧ MapN tag σ (r + 64) M (qs.map fun q => (q.1, Sl.v q.2.1)) ∧ ∀ q ∈ qs, Row tag σ 6 5 q.2.1 (q.2.2.map Zt.vU) := h.map
end Go.Proofs.YtfobjidchipdaaaGreatDoor.Sn

/- Chunks put together, the walk: Done, Missing. -/
namespace Go.Proofs.YtfobjidchipdaaaGreatDoor.Sn
open Go Go.Proofs.YtfobjidchipdaaaGreatDoor.SL Go.Proofs.YtfobjidchipdaaaGreatDoor.G Go.Proofs.YtfobjidchipdaaaGreatDoor.Pa Go.Proofs.YtfobjidchipdaaaGreatDoor.Wi
set_option linter.unusedSimpArgs false
set_option linter.unusedVariables false
set_option maxRecDepth 100000
variable {B : World} {ro σ σ' : AH} {tag tag' : Nat → Nat}
theorem u23s : Tryz.prog.underlying 23 = some (.slice 3) := by kernel_rfl
end Go.Proofs.YtfobjidchipdaaaGreatDoor.Sn

/- Chunks made: what they are, and the walk. -/
namespace Go.Proofs.YtfobjidchipdaaaGreatDoor.Sn
open Go Go.Proofs.YtfobjidchipdaaaGreatDoor.SL Go.Proofs.YtfobjidchipdaaaGreatDoor.G Go.Proofs.YtfobjidchipdaaaGreatDoor.Pa Go.Proofs.YtfobjidchipdaaaGreatDoor.Wi
set_option linter.unusedSimpArgs false
set_option linter.unusedVariables false
set_option maxRecDepth 100000
variable {B : World} {ro σ σ' : AH} {tag tag' : Nat → Nat}
def cnt (n sz : Nat) : Nat := if 1 < (n + sz - 1) / sz then (n + sz - 1) / sz else 1
def partOf (d : Str) (sz i : Nat) : Str := (d.drop (i * sz)).take sz
def ckAt (k : Nat) (d : Str) (sz i : Nat) : Ck := ⟨k, cnt d.length sz, i, d.length, crc d, partOf d sz i⟩
theorem cnt_mul {n sz : Nat} (h : 1 ≤ sz) : n ≤ cnt n sz * sz ∧ cnt n sz * sz ≤ n + sz ∧ 1 ≤ cnt n sz := by
  unfold cnt
  have h1 := Nat.div_add_mod (n + sz - 1) sz
  have h2 := Nat.mod_lt (n + sz - 1) (show sz > 0 by omega)
  have h3 : sz * ((n + sz - 1) / sz) = (n + sz - 1) / sz * sz := Nat.mul_comm _ _
  generalize (n + sz - 1) / sz = q at *
  split
  · refine ⟨by omega, by omega, by omega⟩
  · rename_i hc
    have h0 : q = 0 ∨ q = 1 := by omega
    rw [Nat.one_mul]
    refine ⟨?_, by omega, by omega⟩
    rcases h0 with h0 | h0
    · rw [h0] at h3 h1; omega
    · rw [h0] at h3 h1; omega
theorem parts_join {d : Str} {sz : Nat} (h : 1 ≤ sz) (k : Nat) : ((List.range k).flatMap fun i => partOf d sz i) = d.take (k * sz) := by
  induction k with
  | zero => simp
  | succ k ih =>
    rw [List.range_succ, List.flatMap_append, List.flatMap_singleton, ih]
    unfold partOf
    rw [Nat.add_mul, Nat.one_mul, List.take_add]
theorem parts_all {d : Str} {sz : Nat} (h : 1 ≤ sz) : ((List.range (cnt d.length sz)).flatMap fun i => partOf d sz i) = d := by
  rw [parts_join h, List.take_of_length_le (cnt_mul h).1]
theorem partOf_len (d : Str) (sz i : Nat) : (partOf d sz i).length ≤ sz ∧ (partOf d sz i).length ≤ d.length := by
  unfold partOf; rw [List.length_take, List.length_drop]; omega
theorem ckAt_right {k : Nat} {d : Str} {sz i : Nat} (hk : k < 4611686018427387904) (hd : d.length ≤ 1048576) (h1 : 1 ≤ sz) (h2 : sz ≤ 32768) (hi : i < cnt d.length sz) : (ckAt k d sz i).right ∧ ckFits (ckAt k d sz i) = true := by
  have hc := (cnt_mul (n := d.length) h1).2.1
  have hc2 : cnt d.length sz * 1 ≤ cnt d.length sz * sz := Nat.mul_le_mul_left _ h1
  have hp := partOf_len d sz i
  have hcr := crc_lt d
  have hcl : cnt d.length sz ≤ 1048576 := by
    unfold cnt
    split
    · have : (d.length + sz - 1) / sz ≤ d.length := by
        rcases Nat.eq_or_lt_of_le h1 with e | e
        · subst e; simp
        · rcases Nat.eq_zero_or_pos d.length with e0 | e0
          · rw [e0]; rw [Nat.div_eq_of_lt (by omega)]; omega
          · exact Nat.div_le_of_le_mul (by
              have : d.length + sz - 1 ≤ d.length * sz := by
                have : (d.length - 1) * (sz - 1) + (d.length + sz - 1) = d.length * sz := by
                  obtain ⟨a, ha⟩ : ∃ a, d.length = a + 1 := ⟨d.length - 1, by omega⟩
                  obtain ⟨b, hb⟩ : ∃ b, sz = b + 1 := ⟨sz - 1, by omega⟩
                  rw [ha, hb]; simp only [Nat.add_sub_cancel, Nat.add_mul, Nat.mul_add, Nat.mul_one, Nat.one_mul]; omega
                omega
              rw [Nat.mul_comm] at this; exact this)
      omega
    · omega
  refine ⟨⟨hk, ?_, ?_, ?_, ?_, ?_⟩, ?_⟩
  · show cnt d.length sz < _; omega
  · show i < _; omega
  · show d.length < _; omega
  · show crc d < _; omega
  · show (partOf d sz i).length < _; omega
  · unfold ckFits
    have a1 : 1 ≤ cnt d.length sz := (cnt_mul h1).2.2
    simp only [Bool.and_eq_true, decide_eq_true_eq]
    exact ⟨a1, hcl, hi, hd, hp.2⟩
theorem u44 : Tryz.prog.underlying 44 = some (.slice 22) := by kernel_rfl
end Go.Proofs.YtfobjidchipdaaaGreatDoor.Sn
