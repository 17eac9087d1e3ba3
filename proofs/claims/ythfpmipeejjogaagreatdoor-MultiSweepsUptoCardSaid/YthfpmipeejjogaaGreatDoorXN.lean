/- GL8, MuG, MuH, MuE84, MuI, R7B, R7D, R7F, RfE -/
import Derived.Test.YthfpmipeejjogaaGreatDoorXM
/- Functions as predicate transformers, and the proofs that the code does what they tell: printed by wip/tools/gen.py. -/
namespace Go.Proofs.YthfpmipeejjogaaGreatDoor.G
open Go Go.Proofs.YthfpmipeejjogaaGreatDoor.SL
set_option linter.unusedVariables false
set_option linter.unusedSimpArgs false

def j17_law08_MultiSweeps (B : World) (ro : AH) (Q : Bool → AH → Prop) (x120_18 : Bool) (σ : AH) : Prop :=
 Q x120_18 σ

def j14_law08_MultiSweeps (B : World) (ro : AH) (x25_4 : ByteArray) (x27_5 : Sl) (x29_6 : Option Addr) (Q : Bool → AH → Prop) (σ : AH) : Prop :=
 c_ref01_CopyInts B ro x27_5 σ fun x114_15 σ =>
 c_multi_Sweep B ro x29_6 x25_4 x114_15 σ fun x115_16 σ =>
 if (x115_16.len : Int) = 0 then
  c_law08_awake B ro σ fun x119_19 σ =>
  j17_law08_MultiSweeps B ro Q x119_19 σ
 else
 j17_law08_MultiSweeps B ro Q false σ

def j30_law08_MultiSweeps (B : World) (ro : AH) (x25_4 : ByteArray) (x27_5 : Sl) (x29_6 : Option Addr) (x59_11 : Sl) (x75_21 : Int) (Q : Bool → AH → Prop) (Y20 : (Int) → AH → Prop) (x109_31 : Bool) (σ : AH) : Prop :=
 if x109_31 = true then
  Q false σ
 else
 Y20 (IntKind.i64.wrap (x75_21 + 1)) σ

def l20_law08_MultiSweeps (B : World) (ro : AH) (x25_4 : ByteArray) (x27_5 : Sl) (x29_6 : Option Addr) (x59_11 : Sl) (Q : Bool → AH → Prop) : (Int) → AH → ((Int) → AH → Prop) → Prop := fun x75_21 σ Y20 =>
 if x75_21 < (x59_11.len : Int) then
  ∃ p78_22 : Addr, x59_11.a = some p78_22 ∧ (0 : Int) ≤ x75_21 ∧ x75_21 < (x59_11.len : Int) ∧
  ∃ (x79_23a : Int) (x79_23b : ByteArray), cellsAt ro σ (p78_22.add (Int.toNat x75_21 * 2)) 0 [.int .i64 x79_23a, .string x79_23b] ∧
  nw ro σ (.cells #[.int .i64 0, .string ByteArray.empty] 108) fun x16_24 σ =>
  stN ⟨x16_24, 0, none⟩ (fun σ =>
   ∃ (x83_25 : ByteArray), acell ro σ ((⟨x16_24, 0, none⟩ : Addr).add 1) = some (.string x83_25) ∧
   c_ztree_Tree_Get B ro x29_6 x83_25 σ fun x84_26 x84_27a x84_27b x84_27c x84_27d x84_28 σ =>
   nw ro σ (.cells #[.int .i64 0, .int .i64 0, .int .i64 0, .int .i64 0] 32) fun x18_29 σ =>
   stN ⟨x18_29, 0, none⟩ (fun σ =>
    if x84_28 = 0 then
     if True then
      j30_law08_MultiSweeps B ro x25_4 x27_5 x29_6 x59_11 x75_21 Q Y20 true σ
     else
     if 0 < x75_21 then
      ∃ p102_32 : Addr, x59_11.a = some p102_32 ∧ (0 : Int) ≤ (IntKind.i64.wrap (x75_21 - 1)) ∧ (IntKind.i64.wrap (x75_21 - 1)) < (x59_11.len : Int) ∧
      ∃ (x104_33 : ByteArray), acell ro σ ((p102_32.add (Int.toNat (IntKind.i64.wrap (x75_21 - 1)) * 2)).add 1) = some (.string x104_33) ∧
      ∃ (x106_34 : ByteArray), acell ro σ ((⟨x16_24, 0, none⟩ : Addr).add 1) = some (.string x106_34) ∧
      j30_law08_MultiSweeps B ro x25_4 x27_5 x29_6 x59_11 x75_21 Q Y20 ((lessS x104_33 x106_34) || (decide (x104_33 = x106_34))) σ
     else
     j30_law08_MultiSweeps B ro x25_4 x27_5 x29_6 x59_11 x75_21 Q Y20 false σ
    else
    ∃ (x92_35 : Int), acell ro σ ⟨x16_24, 0, none⟩ = some (.int .i64 x92_35) ∧
    if ¬ (x92_35 = 2) then
     j30_law08_MultiSweeps B ro x25_4 x27_5 x29_6 x59_11 x75_21 Q Y20 true σ
    else
    if 0 < x75_21 then
     ∃ p102_36 : Addr, x59_11.a = some p102_36 ∧ (0 : Int) ≤ (IntKind.i64.wrap (x75_21 - 1)) ∧ (IntKind.i64.wrap (x75_21 - 1)) < (x59_11.len : Int) ∧
     ∃ (x104_37 : ByteArray), acell ro σ ((p102_36.add (Int.toNat (IntKind.i64.wrap (x75_21 - 1)) * 2)).add 1) = some (.string x104_37) ∧
     ∃ (x106_38 : ByteArray), acell ro σ ((⟨x16_24, 0, none⟩ : Addr).add 1) = some (.string x106_38) ∧
     j30_law08_MultiSweeps B ro x25_4 x27_5 x29_6 x59_11 x75_21 Q Y20 ((lessS x104_37 x106_38) || (decide (x104_37 = x106_38))) σ
    else
    j30_law08_MultiSweeps B ro x25_4 x27_5 x29_6 x59_11 x75_21 Q Y20 false σ) [.int .i64 x84_27a, .int .i64 x84_27b, .int .i64 x84_27c, .int .i64 x84_27d] 0 σ) [.int .i64 x79_23a, .string x79_23b] 0 σ
 else
 j14_law08_MultiSweeps B ro x25_4 x27_5 x29_6 Q σ

def j7_law08_MultiSweeps (B : World) (ro : AH) (x25_4 : ByteArray) (x27_5 : Sl) (x29_6 : Option Addr) (Q : Bool → AH → Prop) (σ : AH) : Prop :=
 c_ztree_Tree_Paths B ro x29_6 (⟨#[47]⟩ : ByteArray) σ fun x52_8 x52_9 σ =>
 c_ref01_CopyInts B ro x27_5 σ fun x58_10 σ =>
 c_multi_Sweep B ro x29_6 x25_4 x58_10 σ fun x59_11 σ =>
 c_ztree_Tree_Paths B ro x29_6 (⟨#[47]⟩ : ByteArray) σ fun x62_12 x62_13 σ =>
 if ¬ ((IntKind.i64.wrap ((x62_12.len : Int) + (x59_11.len : Int))) = (x52_8.len : Int)) then
  Q false σ
 else
 lfpD (l20_law08_MultiSweeps B ro x25_4 x27_5 x29_6 x59_11 Q ) (0) σ

def l39_law08_MultiSweeps (B : World) (ro : AH) (x23_3 : Sl) (x25_4 : ByteArray) (x27_5 : Sl) (x29_6 : Option Addr) (Q : Bool → AH → Prop) : (Int) → AH → ((Int) → AH → Prop) → Prop := fun x34_40 σ Y39 =>
 if x34_40 < (x23_3.len : Int) then
  ∃ p36_41 : Addr, x23_3.a = some p36_41 ∧ (0 : Int) ≤ x34_40 ∧ x34_40 < (x23_3.len : Int) ∧
  ∃ (x37_42a : ByteArray) (x37_42b : Int) (x37_42c : Int) (x37_42d : Int) (x37_42e : Sl) (x37_42f : Bool), cellsAt ro σ (p36_41.add (Int.toNat x34_40 * 6)) 0 [.string x37_42a, .int .i64 x37_42b, .int .i64 x37_42c, .int .i64 x37_42d, Sl.v x37_42e, .bool x37_42f] ∧
  nw ro σ (.cells #[.string ByteArray.empty, .int .i64 0, .int .i64 0, .int .i64 0, Sl.v (⟨none, 0, 0⟩ : Sl), .bool false] 72) fun x9_43 σ =>
  stN ⟨x9_43, 0, none⟩ (fun σ =>
   lent σ fun ψ σ =>
    ∃ (x40_44 : ByteArray), acell (join ro ψ) (fun _ => none) ⟨x9_43, 0, none⟩ = some (.string x40_44) ∧
    ∃ (x42_45 : Int), acell (join ro ψ) (fun _ => none) ((⟨x9_43, 0, none⟩ : Addr).add 1) = some (.int .i64 x42_45) ∧
    ∃ (x44_46a : Int) (x44_46b : Int), cellsAt (join ro ψ) (fun _ => none) ((⟨x9_43, 0, none⟩ : Addr).add 2) 0 [.int .i64 x44_46a, .int .i64 x44_46b] ∧
    ∃ (x46_47 : Sl), acell (join ro ψ) σ ((⟨x9_43, 0, none⟩ : Addr).add 4) = some (Sl.v x46_47) ∧
    c_law08_copied B (join ro ψ) x46_47 σ fun x47_48 σ =>
    c_multi_Apply B (join ro ψ) x29_6 x40_44 x42_45 x44_46a x44_46b x47_48 σ fun x48_49a x48_49b x48_49c x48_50 σ =>
    (Disj ψ σ → (fun σ => 
     Y39 (IntKind.i64.wrap (x34_40 + 1)) σ) (join ψ σ))) [.string x37_42a, .int .i64 x37_42b, .int .i64 x37_42c, .int .i64 x37_42d, Sl.v x37_42e, .bool x37_42f] 0 σ
 else
 j7_law08_MultiSweeps B ro x25_4 x27_5 x29_6 Q σ

def f_law08_MultiSweeps (B : World) (ro : AH) (a0_0 : Sl) (a0_1 : Sl) (a0_2 : ByteArray) (a0_3 : Sl) (σ : AH) (Q : Bool → AH → Prop) : Prop :=
 nw ro σ (.cells #[Sl.v a0_0, Sl.v a0_1, .string a0_2, Sl.v a0_3] 105) fun x1_1 σ =>
 ∃ (x21_2 : Sl), acell ro σ ⟨x1_1, 0, none⟩ = some (Sl.v x21_2) ∧
 ∃ (x23_3 : Sl), acell ro σ ((⟨x1_1, 0, none⟩ : Addr).add 1) = some (Sl.v x23_3) ∧
 ∃ (x25_4 : ByteArray), acell ro σ ((⟨x1_1, 0, none⟩ : Addr).add 2) = some (.string x25_4) ∧
 ∃ (x27_5 : Sl), acell ro σ ((⟨x1_1, 0, none⟩ : Addr).add 3) = some (Sl.v x27_5) ∧
 c_law08_start B ro x21_2 σ fun x29_6 σ =>
 if x29_6 = none then
  Q false σ
 else
 lfpD (l39_law08_MultiSweeps B ro x23_3 x25_4 x27_5 x29_6 Q ) (0) σ

set_option maxRecDepth 100000 in
set_option maxHeartbeats 4000000 in
theorem law08_MultiSweeps_ok {B : World} {ro : AH} {a0_0 : Sl} {a0_1 : Sl} {a0_2 : ByteArray} {a0_3 : Sl} {σ : AH} {Q : Bool → AH → Prop} (h : Sep ro σ → f_law08_MultiSweeps B ro a0_0 a0_1 a0_2 a0_3 σ Q) : c_law08_MultiSweeps B ro a0_0 a0_1 a0_2 a0_3 σ Q := by
  refine ACalls.of_sep fun hsep => ?_
  replace h := h hsep
  refine ACalls.of_body (args := [.agg #[Sl.v a0_0, Sl.v a0_1, .string a0_2, Sl.v a0_3]]) Tryz.func12 rfl (by rw [Tryz.ntmps12]; simp) ?_
  rw [Tryz.ntmps12]
  unfold f_law08_MultiSweeps at h
  refine AW.seq ?_
  refine AW.reg ?_
  refine Ls rfl rfl (X_new (A_box rfl rfl) fun x1_1 g1 g2 => ?_)
  replace h := h x1_1 g1 g2
  refine Lp (V_asg rfl rfl) rfl rfl ?_
  refine Lnil ?_
  refine thenN ?_
  refine AW.seq ?_
  refine AW.drawn0 (fun i => ([0, 3, 0, 3, 0, 3, 0, 3, 0, 0, 0, 0] : List Nat).getD i 2) [] [0, 2, 4, 6, 1, 8, 3, 9, 5, 10, 7, 11] Tryz.mixed (by decide +kernel) ?_
  refine Dp rfl rfl rfl rfl (V_fld rfl Tryz.underlying105 rfl ty25 (by decide) rfl) ?_
  refine Dp rfl rfl rfl rfl (V_fld rfl Tryz.underlying105 rfl ty67 (by decide) rfl) ?_
  refine Dp rfl rfl rfl rfl (V_fld rfl Tryz.underlying105 rfl ty9 (by decide) rfl) ?_
  refine Dp rfl rfl rfl rfl (V_fld rfl Tryz.underlying105 rfl ty58 (by decide) rfl) ?_
  obtain ⟨x21_2, hc, h⟩ := h
  refine Dr rfl rfl rfl rfl (R_ld rfl Tryz.underlying25 rfl rfl hc) ?_
  refine Dp rfl rfl rfl rfl (V_asg rfl rfl) ?_
  obtain ⟨x23_3, hc, h⟩ := h
  refine Dr rfl rfl rfl rfl (R_ld rfl Tryz.underlying67 rfl rfl hc) ?_
  refine Dp rfl rfl rfl rfl (V_asg rfl rfl) ?_
  obtain ⟨x25_4, hc, h⟩ := h
  refine Dr rfl rfl rfl rfl (R_ld rfl Tryz.underlying9 rfl rfl hc) ?_
  refine Dp rfl rfl rfl rfl (V_asg rfl rfl) ?_
  obtain ⟨x27_5, hc, h⟩ := h
  refine Dr rfl rfl rfl rfl (R_ld rfl Tryz.underlying58 rfl rfl hc) ?_
  refine Dp rfl rfl rfl rfl (V_asg rfl rfl) ?_
  refine Dend ?_
  refine thenN ?_
  refine AW.seq ?_
  refine AW.reg ?_
  refine Lp (V_move rfl rfl) rfl rfl ?_
  refine Ls rfl rfl (X_call rfl Tryz.func35 rfl rfl rfl (ACalls.mono h ?_))
  rintro v σ ⟨x29_6, rfl, h⟩
  refine Lp (V_asg rfl rfl) rfl rfl ?_
  refine Lnil ?_
  refine thenN ?_
  refine AW.seq ?_
  refine AW.seq ?_
  refine AW.reg ?_
  refine Lp (V_move rfl rfl) rfl rfl ?_
  refine Lp (V_eqP rfl Tryz.underlying23 rfl rfl) rfl rfl ?_
  refine Lnil ?_
  refine thenN ?_
  refine AW.iff rfl isNone_iff h (fun h => ?_) (fun h => ?_)
  · refine AW.seq ?_
    refine AW.reg ?_
    refine Lp (V_asg rfl rfl) rfl rfl ?_
    refine Lnil ?_
    refine thenN ?_
    refine AW.ret ?_
    refine thenR ?_
    exact bR1 Tryz.results12 rfl ⟨_, rfl, h⟩
  refine AW.skip ?_
  refine thenN ?_
  refine AW.seqJ (fun fr σ => FrLe [(5, .string x25_4), (6, Sl.v x27_5), (7, .pointer x29_6)] fr ∧ j7_law08_MultiSweeps B ro x25_4 x27_5 x29_6 Q σ) ?_ ?_
  rotate_left
  · refine AW.seq ?_
    refine AW.reg ?_
    refine Lp (V_move rfl rfl) rfl rfl ?_
    refine Lp (V_lenL rfl rfl Tryz.underlying67 rfl rfl) rfl rfl ?_
    refine Lp (V_move rfl rfl) rfl rfl ?_
    refine Lnil ?_
    refine thenN ?_
    refine AW.block ?_
    refine ARound.loop (fr' := [(5, .string x25_4), (6, Sl.v x27_5), (7, .pointer x29_6), (32, Sl.v x23_3), (33, .int .i64 (x23_3.len : Int)), (34, .int .i64 0)]) ?_ (FrLe.cons rfl (FrLe.cons rfl (FrLe.cons rfl (FrLe.cons rfl (FrLe.cons rfl (FrLe.cons rfl (FrLe.nil _)))))))
    refine h (fun x34_40 σ => ARound _ _ _ _ _ _ [(5, .string x25_4), (6, Sl.v x27_5), (7, .pointer x29_6), (32, Sl.v x23_3), (33, .int .i64 (x23_3.len : Int)), (34, .int .i64 x34_40)] σ) ?_
    rintro x34_40 σ Y39 hY39 h
    show AW _ _ _ _ _ _ _ _
    unfold l39_law08_MultiSweeps at h
    refine AW.seq ?_
    refine AW.reg ?_
    refine Lp (V_lss rfl rfl rfl) rfl rfl ?_
    refine Lnil ?_
    refine thenN ?_
    refine AW.seq ?_
    refine AW.iff rfl decide_eq_true_iff h (fun h => ?_) (fun h => ?_)
    rotate_left
    · refine AW.exit ?_
      refine thenE ?_
      refine thenE ?_
      refine blockE ?_
      refine thenN ?_
      exact ⟨(FrLe.cons rfl (FrLe.cons rfl (FrLe.cons rfl (FrLe.nil _)))), h⟩
    refine AW.skip ?_
    refine thenN ?_
    refine AW.seq ?_
    refine AW.block ?_
    refine AW.seq ?_
    refine AW.reg ?_
    obtain ⟨p36_41, ha, h0, h1, h⟩ := h
    refine Lp (V_ixA rfl Tryz.underlying67 ty72 (ixL rfl ha) rfl h0 h1) rfl rfl ?_
    obtain ⟨x37_42a, x37_42b, x37_42c, x37_42d, x37_42e, x37_42f, hc, h⟩ := h
    refine Ls rfl rfl (X_lda rfl Tryz.underlying72 rfl ty72 rfl hc ?_)
    refine Ls rfl rfl (X_new (A_alloc rfl ty72) fun x9_43 g1 g2 => ?_)
    replace h := h x9_43 g1 g2
    refine Ls rfl rfl (X_st rfl ty72 rfl rfl rfl rfl (stN_mono h fun σ h => ?_))
    refine Lnil ?_
    refine thenN ?_
    refine AW.drawnL (fun i => ([0, 0, 0, 0, 0, 0, 0, 0, 3, 2, 2] : List Nat).getD i 2) [(8, 9), (8, 10)] [0, 1, 2, 3, 4, 5, 6, 7, 8, 9, 10] Tryz.mixed h (by decide +kernel) ?_
    clear h
    intro ψ σ h
    refine Dp rfl rfl rfl rfl (V_move rfl rfl) ?_
    refine Dp rfl rfl rfl rfl (V_fld rfl Tryz.underlying72 rfl ty9 (by decide) rfl) ?_
    obtain ⟨x40_44, hc, h⟩ := h
    refine Dp rfl rfl rfl rfl (V_ld rfl Tryz.underlying9 rfl rfl hc) ?_
    refine Dp rfl rfl rfl rfl (V_fld rfl Tryz.underlying72 rfl ty3 (by decide) rfl) ?_
    obtain ⟨x42_45, hc, h⟩ := h
    refine Dp rfl rfl rfl rfl (V_ld rfl Tryz.underlying3 rfl rfl hc) ?_
    refine Dp rfl rfl rfl rfl (V_fld rfl Tryz.underlying72 rfl ty69 (by decide) rfl) ?_
    obtain ⟨x44_46a, x44_46b, hc, h⟩ := h
    refine Dp rfl rfl rfl rfl (V_lda rfl Tryz.underlying69 rfl ty69 rfl hc) ?_
    refine Dp rfl rfl rfl rfl (V_fld rfl Tryz.underlying72 rfl ty70 (by decide) rfl) ?_
    obtain ⟨x46_47, hc, h⟩ := h
    refine Dr rfl rfl rfl rfl (R_ld rfl Tryz.underlying70 rfl rfl hc) ?_
    refine Dg rfl rfl rfl rfl (X_call rfl Tryz.func37 rfl rfl rfl (ACalls.mono h ?_))
    rintro v σ ⟨x47_48, rfl, h⟩
    refine Dg rfl rfl rfl rfl (X_call rfl Tryz.func36 rfl rfl rfl (ACalls.mono h ?_))
    rintro v σ ⟨x48_49a, x48_49b, x48_49c, x48_50, rfl, h⟩
    refine ⟨_, FrEq.refl _, fun hdj => ?_⟩
    replace h := h hdj
    refine blockN ?_
    refine thenN ?_
    refine AW.reg ?_
    refine Lp (V_add rfl rfl rfl) rfl rfl ?_
    refine Lp (V_move rfl rfl) rfl rfl ?_
    refine Lnil ?_
    refine thenN ?_
    refine ARound.head (fr' := [(5, .string x25_4), (6, Sl.v x27_5), (7, .pointer x29_6), (32, Sl.v x23_3), (33, .int .i64 (x23_3.len : Int)), (34, .int .i64 (IntKind.i64.wrap (x34_40 + 1)))]) ?_ (FrLe.cons rfl (FrLe.cons rfl (FrLe.cons rfl (FrLe.cons rfl (FrLe.cons rfl (FrLe.cons rfl (FrLe.nil _)))))))
    exact hY39 _ _ h
  rintro fr σ ⟨hl, h⟩
  refine AW.weaken ?_ hl (HLe.refl _)
  unfold j7_law08_MultiSweeps at h
  refine AW.seq ?_
  refine AW.reg ?_
  refine Lp (V_move rfl rfl) rfl rfl ?_
  refine Ls rfl rfl (X_call rfl Tryz.func15 rfl rfl rfl (ACalls.mono h ?_))
  rintro v σ ⟨x52_8, x52_9, rfl, h⟩
  refine Lp (V_move rfl rfl) rfl rfl ?_
  refine Lp (V_ext rfl rfl rfl) rfl rfl ?_
  refine Lp (V_ext rfl rfl rfl) rfl rfl ?_
  refine Lp (V_asg rfl rfl) rfl rfl ?_
  refine Lp (V_asg rfl rfl) rfl rfl ?_
  refine Lnil ?_
  refine thenN ?_
  refine AW.seq ?_
  refine AW.reg ?_
  refine Lp (V_move rfl rfl) rfl rfl ?_
  refine Lp (V_move rfl rfl) rfl rfl ?_
  refine Lp (V_move rfl rfl) rfl rfl ?_
  refine Ls rfl rfl (X_call rfl Tryz.func49 rfl rfl rfl (ACalls.mono h ?_))
  rintro v σ ⟨x58_10, rfl, h⟩
  refine Ls rfl rfl (X_call rfl Tryz.func45 rfl rfl rfl (ACalls.mono h ?_))
  rintro v σ ⟨x59_11, rfl, h⟩
  refine Lp (V_asg rfl rfl) rfl rfl ?_
  refine Lnil ?_
  refine thenN ?_
  refine AW.seq ?_
  refine AW.reg ?_
  refine Lp (V_move rfl rfl) rfl rfl ?_
  refine Ls rfl rfl (X_call rfl Tryz.func15 rfl rfl rfl (ACalls.mono h ?_))
  rintro v σ ⟨x62_12, x62_13, rfl, h⟩
  refine Lp (V_move rfl rfl) rfl rfl ?_
  refine Lp (V_ext rfl rfl rfl) rfl rfl ?_
  refine Lp (V_ext rfl rfl rfl) rfl rfl ?_
  refine Lp (V_asg rfl rfl) rfl rfl ?_
  refine Lp (V_asg rfl rfl) rfl rfl ?_
  refine Lnil ?_
  refine thenN ?_
  refine AW.seq ?_
  refine AW.seq ?_
  refine AW.reg ?_
  refine Lp (V_move rfl rfl) rfl rfl ?_
  refine Lp (V_lenL rfl rfl Tryz.underlying25 rfl rfl) rfl rfl ?_
  refine Lp (V_move rfl rfl) rfl rfl ?_
  refine Lp (V_lenL rfl rfl Tryz.underlying75 rfl rfl) rfl rfl ?_
  refine Lp (V_add rfl rfl rfl) rfl rfl ?_
  refine Lp (V_move rfl rfl) rfl rfl ?_
  refine Lp (V_lenL rfl rfl Tryz.underlying25 rfl rfl) rfl rfl ?_
  refine Lp (V_neq rfl rfl rfl) rfl rfl ?_
  refine Lnil ?_
  refine thenN ?_
  refine AW.iff rfl (bnot_iff decide_eq_true_iff) h (fun h => ?_) (fun h => ?_)
  · refine AW.seq ?_
    refine AW.reg ?_
    refine Lp (V_asg rfl rfl) rfl rfl ?_
    refine Lnil ?_
    refine thenN ?_
    refine AW.ret ?_
    refine thenR ?_
    exact bR1 Tryz.results12 rfl ⟨_, rfl, h⟩
  refine AW.skip ?_
  refine thenN ?_
  refine AW.seqJ (fun fr σ => FrLe [(5, .string x25_4), (6, Sl.v x27_5), (7, .pointer x29_6)] fr ∧ j14_law08_MultiSweeps B ro x25_4 x27_5 x29_6 Q σ) ?_ ?_
  · rintro fr σ ⟨hl, h⟩
    refine AW.weaken ?_ hl (HLe.refl _)
    unfold j14_law08_MultiSweeps at h
    refine AW.seq ?_
    refine AW.reg ?_
    refine Lp (V_move rfl rfl) rfl rfl ?_
    refine Lp (V_move rfl rfl) rfl rfl ?_
    refine Lp (V_move rfl rfl) rfl rfl ?_
    refine Ls rfl rfl (X_call rfl Tryz.func49 rfl rfl rfl (ACalls.mono h ?_))
    rintro v σ ⟨x114_15, rfl, h⟩
    refine Ls rfl rfl (X_call rfl Tryz.func45 rfl rfl rfl (ACalls.mono h ?_))
    rintro v σ ⟨x115_16, rfl, h⟩
    refine Lp (V_lenL rfl rfl Tryz.underlying75 rfl rfl) rfl rfl ?_
    refine Lp (V_eql rfl rfl rfl) rfl rfl ?_
    refine Lp (V_move rfl rfl) rfl rfl ?_
    refine LsplitJ 2 (decide ((x115_16.len : Int) = 0)) decide_eq_true_iff h (fun fr σ => ∃ (x120_18 : Bool), FrLe [(120, .bool x120_18)] fr ∧ j17_law08_MultiSweeps B ro Q x120_18 σ) ?_ ?_ ?_
    · intro h e7 hk7
      refine Lyb rfl rfl rfl rfl e7 (X_call rfl Tryz.func38 rfl rfl rfl (ACalls.mono h ?_))
      rintro v σ ⟨x119_19, rfl, h⟩
      refine Lp (V_pickT rfl (evb e7) rfl) rfl rfl ?_
      exact hk7 _ _ ⟨_, (FrLe.cons rfl (FrLe.nil _)), h⟩
    · intro h e7 hk7
      refine Ln rfl rfl rfl rfl (.inl (by rw [e7]; rfl)) ?_
      refine Lp (V_pickF rfl (evb e7) rfl) rfl rfl ?_
      exact hk7 _ _ ⟨_, (FrLe.cons rfl (FrLe.nil _)), h⟩
    rintro fr σ ⟨x120_18, hl, h⟩
    unfold j17_law08_MultiSweeps at h
    refine Lfr hl ?_
    refine Lp (V_asg rfl rfl) rfl rfl ?_
    refine Lnil ?_
    refine thenN ?_
    refine AW.ret ?_
    exact bR1 Tryz.results12 rfl ⟨_, rfl, h⟩
  refine AW.seq ?_
  refine AW.reg ?_
  refine Lp (V_move rfl rfl) rfl rfl ?_
  refine Lp (V_lenL rfl rfl Tryz.underlying75 rfl rfl) rfl rfl ?_
  refine Lp (V_move rfl rfl) rfl rfl ?_
  refine Lnil ?_
  refine thenN ?_
  refine AW.block ?_
  refine ARound.loop (fr' := [(5, .string x25_4), (6, Sl.v x27_5), (7, .pointer x29_6), (12, Sl.v x59_11), (73, Sl.v x59_11), (74, .int .i64 (x59_11.len : Int)), (75, .int .i64 0)]) ?_ (FrLe.cons rfl (FrLe.cons rfl (FrLe.cons rfl (FrLe.cons rfl (FrLe.cons rfl (FrLe.cons rfl (FrLe.cons rfl (FrLe.nil _))))))))
  refine h (fun x75_21 σ => ARound _ _ _ _ _ _ [(5, .string x25_4), (6, Sl.v x27_5), (7, .pointer x29_6), (12, Sl.v x59_11), (73, Sl.v x59_11), (74, .int .i64 (x59_11.len : Int)), (75, .int .i64 x75_21)] σ) ?_
  rintro x75_21 σ Y20 hY20 h
  show AW _ _ _ _ _ _ _ _
  unfold l20_law08_MultiSweeps at h
  refine AW.seq ?_
  refine AW.reg ?_
  refine Lp (V_lss rfl rfl rfl) rfl rfl ?_
  refine Lnil ?_
  refine thenN ?_
  refine AW.seq ?_
  refine AW.iff rfl decide_eq_true_iff h (fun h => ?_) (fun h => ?_)
  rotate_left
  · refine AW.exit ?_
    refine thenE ?_
    refine thenE ?_
    refine blockE ?_
    refine thenN ?_
    exact ⟨(FrLe.cons rfl (FrLe.cons rfl (FrLe.cons rfl (FrLe.nil _)))), h⟩
  refine AW.skip ?_
  refine thenN ?_
  refine AW.seq ?_
  refine AW.block ?_
  refine AW.seq ?_
  refine AW.reg ?_
  refine Lp (V_move rfl rfl) rfl rfl ?_
  obtain ⟨p78_22, ha, h0, h1, h⟩ := h
  refine Lp (V_ixA rfl Tryz.underlying75 ty108 (ixL rfl ha) rfl h0 h1) rfl rfl ?_
  obtain ⟨x79_23a, x79_23b, hc, h⟩ := h
  refine Ls rfl rfl (X_lda rfl Tryz.underlying108 rfl ty108 rfl hc ?_)
  refine Ls rfl rfl (X_new (A_alloc rfl ty108) fun x16_24 g1 g2 => ?_)
  replace h := h x16_24 g1 g2
  refine Lp (V_asg rfl rfl) rfl rfl ?_
  refine Ls rfl rfl (X_st rfl ty108 rfl rfl rfl rfl (stN_mono h fun σ h => ?_))
  refine Lnil ?_
  refine thenN ?_
  refine AW.seq ?_
  refine AW.reg ?_
  refine Lp (V_move rfl rfl) rfl rfl ?_
  refine Lp (V_fld rfl Tryz.underlying108 rfl ty9 (by decide) rfl) rfl rfl ?_
  obtain ⟨x83_25, hc, h⟩ := h
  refine Ls rfl rfl (X_ld rfl Tryz.underlying9 rfl rfl hc ?_)
  refine Ls rfl rfl (X_call rfl Tryz.func17 rfl rfl rfl (ACalls.mono h ?_))
  rintro v σ ⟨x84_26, x84_27a, x84_27b, x84_27c, x84_27d, x84_28, rfl, h⟩
  refine Lp (V_move rfl rfl) rfl rfl ?_
  refine Lp (V_ext rfl rfl rfl) rfl rfl ?_
  refine Lp (V_ext rfl rfl rfl) rfl rfl ?_
  refine Lp (V_ext rfl rfl rfl) rfl rfl ?_
  refine Ls rfl rfl (X_new (A_alloc rfl ty32) fun x18_29 g1 g2 => ?_)
  replace h := h x18_29 g1 g2
  refine Lp (V_asg rfl rfl) rfl rfl ?_
  refine Ls rfl rfl (X_st rfl ty32 rfl rfl rfl rfl (stN_mono h fun σ h => ?_))
  refine Lp (V_asg rfl rfl) rfl rfl ?_
  refine Lnil ?_
  refine thenN ?_
  refine AW.seqJ (fun fr σ => ∃ (x109_31 : Bool), FrLe [(5, .string x25_4), (6, Sl.v x27_5), (7, .pointer x29_6), (12, Sl.v x59_11), (73, Sl.v x59_11), (74, .int .i64 (x59_11.len : Int)), (75, .int .i64 x75_21), (109, .bool x109_31)] fr ∧ j30_law08_MultiSweeps B ro x25_4 x27_5 x29_6 x59_11 x75_21 Q Y20 x109_31 σ) ?_ ?_
  · rintro fr σ ⟨x109_31, hl, h⟩
    refine AW.weaken ?_ hl (HLe.refl _)
    unfold j30_law08_MultiSweeps at h
    refine AW.iff rfl Iff.rfl h (fun h => ?_) (fun h => ?_)
    · refine AW.seq ?_
      refine AW.reg ?_
      refine Lp (V_asg rfl rfl) rfl rfl ?_
      refine Lnil ?_
      refine thenN ?_
      refine AW.ret ?_
      refine blockR ?_
      refine thenR ?_
      refine thenR ?_
      refine blockR ?_
      refine thenR ?_
      exact bR1 Tryz.results12 rfl ⟨_, rfl, h⟩
    refine AW.skip ?_
    refine blockN ?_
    refine thenN ?_
    refine AW.reg ?_
    refine Lp (V_add rfl rfl rfl) rfl rfl ?_
    refine Lp (V_move rfl rfl) rfl rfl ?_
    refine Lnil ?_
    refine thenN ?_
    refine ARound.head (fr' := [(5, .string x25_4), (6, Sl.v x27_5), (7, .pointer x29_6), (12, Sl.v x59_11), (73, Sl.v x59_11), (74, .int .i64 (x59_11.len : Int)), (75, .int .i64 (IntKind.i64.wrap (x75_21 + 1)))]) ?_ (FrLe.cons rfl (FrLe.cons rfl (FrLe.cons rfl (FrLe.cons rfl (FrLe.cons rfl (FrLe.cons rfl (FrLe.cons rfl (FrLe.nil _))))))))
    exact hY20 _ _ h
  refine AW.drawn0 (fun i => ([0, 0, 0, 0, 3, 0, 0, 0, 0, 0, 0, 0, 0, 0, 0, 0, 3, 0, 3, 0, 0, 0] : List Nat).getD i 2) [] [0, 1, 2, 3, 4, 5, 6, 7, 8, 9, 10, 11, 12, 13, 14, 15, 17, 16, 18, 19, 20, 21] Tryz.mixed (by decide +kernel) ?_
  refine Dp rfl rfl rfl rfl (V_move rfl rfl) ?_
  refine Dp rfl rfl rfl rfl (V_eql rfl rfl rfl) ?_
  refine Dp rfl rfl rfl rfl (V_move rfl rfl) ?_
  refine splitP (decide (x84_28 = 0)) decide_eq_true_iff h ?_ ?_
  · intro h e2
    refine Dpn rfl rfl rfl rfl rfl (.inl (by rw [e2]; rfl)) rfl ?_
    refine Drn rfl rfl rfl rfl rfl (.inl (by rw [e2]; rfl)) rfl ?_
    refine Dpn rfl rfl rfl rfl rfl (.inl (by rw [e2]; rfl)) rfl ?_
    refine Dp rfl rfl rfl rfl (V_pickT rfl (evb e2) rfl) ?_
    refine Dp rfl rfl rfl rfl (V_move rfl rfl) ?_
    refine splitP true (by simp) h ?_ ?_
    · intro h e7
      refine Dpn rfl rfl rfl rfl rfl (.inl (by rw [e7]; rfl)) rfl ?_
      refine Dpn rfl rfl rfl rfl rfl (.inl (by rw [e7]; rfl)) rfl ?_
      refine Dpn rfl rfl rfl rfl rfl (.inl (by rw [e7]; rfl)) rfl ?_
      refine Dpn rfl rfl rfl rfl rfl (.inr rfl) rfl ?_
      refine Dpn rfl rfl rfl rfl rfl (.inr rfl) rfl ?_
      refine Dpn rfl rfl rfl rfl rfl (.inr rfl) rfl ?_
      refine Dpn rfl rfl rfl rfl rfl (.inr rfl) rfl ?_
      refine Dpn rfl rfl rfl rfl rfl (.inr rfl) rfl ?_
      refine Dpn rfl rfl rfl rfl rfl (.inr rfl) rfl ?_
      refine Drn rfl rfl rfl rfl rfl (.inr rfl) rfl ?_
      refine Drn rfl rfl rfl rfl rfl (.inr rfl) rfl ?_
      refine Dpn rfl rfl rfl rfl rfl (.inr rfl) rfl ?_
      refine Dpn rfl rfl rfl rfl rfl (.inl (by rw [e7]; rfl)) rfl ?_
      refine Dp rfl rfl rfl rfl (V_pickT rfl (evb e7) rfl) ?_
      refine Dend ?_
      refine thenN ?_
      exact ⟨_, (FrLe.cons rfl (FrLe.cons rfl (FrLe.cons rfl (FrLe.cons rfl (FrLe.cons rfl (FrLe.cons rfl (FrLe.cons rfl (FrLe.cons rfl (FrLe.nil _))))))))), h⟩
    intro h e7
    refine Dpy rfl rfl rfl rfl rfl e7 rfl (V_move rfl rfl) ?_
    refine Dpy rfl rfl rfl rfl rfl e7 rfl (V_gtr rfl rfl rfl) ?_
    refine Dpy rfl rfl rfl rfl rfl e7 rfl (V_move rfl rfl) ?_
    refine splitP (decide (0 < x75_21)) decide_eq_true_iff h ?_ ?_
    rotate_left
    · intro h e10
      refine Dpn rfl rfl rfl rfl rfl (.inl (by rw [e10]; rfl)) rfl ?_
      refine Dpn rfl rfl rfl rfl rfl (.inl (by rw [e10]; rfl)) rfl ?_
      refine Dpn rfl rfl rfl rfl rfl (.inl (by rw [e10]; rfl)) rfl ?_
      refine Dpn rfl rfl rfl rfl rfl (.inl (by rw [e10]; rfl)) rfl ?_
      refine Dpn rfl rfl rfl rfl rfl (.inl (by rw [e10]; rfl)) rfl ?_
      refine Dpn rfl rfl rfl rfl rfl (.inl (by rw [e10]; rfl)) rfl ?_
      refine Drn rfl rfl rfl rfl rfl (.inl (by rw [e10]; rfl)) rfl ?_
      refine Drn rfl rfl rfl rfl rfl (.inl (by rw [e10]; rfl)) rfl ?_
      refine Dpn rfl rfl rfl rfl rfl (.inl (by rw [e10]; rfl)) rfl ?_
      refine Dpy rfl rfl rfl rfl rfl e7 rfl (V_pickF rfl (evb e10) rfl) ?_
      refine Dp rfl rfl rfl rfl (V_pickF rfl (evb e7) rfl) ?_
      refine Dend ?_
      refine thenN ?_
      exact ⟨_, (FrLe.cons rfl (FrLe.cons rfl (FrLe.cons rfl (FrLe.cons rfl (FrLe.cons rfl (FrLe.cons rfl (FrLe.cons rfl (FrLe.cons rfl (FrLe.nil _))))))))), h⟩
    intro h e10
    refine Dpy rfl rfl rfl rfl rfl e10 rfl (V_move rfl rfl) ?_
    refine Dpy rfl rfl rfl rfl rfl e10 rfl (V_move rfl rfl) ?_
    refine Dpy rfl rfl rfl rfl rfl e10 rfl (V_sub rfl rfl rfl) ?_
    obtain ⟨p102_32, ha, h0, h1, h⟩ := h
    refine Dpy rfl rfl rfl rfl rfl e10 rfl (V_ixA rfl Tryz.underlying75 ty108 (ixL rfl ha) rfl h0 h1) ?_
    refine Dpy rfl rfl rfl rfl rfl e10 rfl (V_fld rfl Tryz.underlying108 rfl ty9 (by decide) rfl) ?_
    refine Dpy rfl rfl rfl rfl rfl e10 rfl (V_fld rfl Tryz.underlying108 rfl ty9 (by decide) rfl) ?_
    obtain ⟨x104_33, hc, h⟩ := h
    refine Dry rfl rfl rfl rfl rfl e10 rfl (R_ld rfl Tryz.underlying9 rfl rfl hc) ?_
    obtain ⟨x106_34, hc, h⟩ := h
    refine Dry rfl rfl rfl rfl rfl e10 rfl (R_ld rfl Tryz.underlying9 rfl rfl hc) ?_
    refine Dpy rfl rfl rfl rfl rfl e10 rfl (V_leqS rfl rfl rfl) ?_
    refine Dpy rfl rfl rfl rfl rfl e7 rfl (V_pickT rfl (evb e10) rfl) ?_
    refine Dp rfl rfl rfl rfl (V_pickF rfl (evb e7) rfl) ?_
    refine Dend ?_
    refine thenN ?_
    exact ⟨_, (FrLe.cons rfl (FrLe.cons rfl (FrLe.cons rfl (FrLe.cons rfl (FrLe.cons rfl (FrLe.cons rfl (FrLe.cons rfl (FrLe.cons rfl (FrLe.nil _))))))))), h⟩
  intro h e2
  refine Dpy rfl rfl rfl rfl rfl e2 rfl (V_fld rfl Tryz.underlying108 rfl ty3 (by decide) rfl) ?_
  obtain ⟨x92_35, hc, h⟩ := h
  refine Dry rfl rfl rfl rfl rfl e2 rfl (R_ld rfl Tryz.underlying3 rfl rfl hc) ?_
  refine Dpy rfl rfl rfl rfl rfl e2 rfl (V_neq rfl rfl rfl) ?_
  refine Dp rfl rfl rfl rfl (V_pickF rfl (evb e2) rfl) ?_
  refine Dp rfl rfl rfl rfl (V_move rfl rfl) ?_
  refine splitP (!(decide (x92_35 = 2))) (bnot_iff decide_eq_true_iff) h ?_ ?_
  · intro h e7
    refine Dpn rfl rfl rfl rfl rfl (.inl (by rw [e7]; rfl)) rfl ?_
    refine Dpn rfl rfl rfl rfl rfl (.inl (by rw [e7]; rfl)) rfl ?_
    refine Dpn rfl rfl rfl rfl rfl (.inl (by rw [e7]; rfl)) rfl ?_
    refine Dpn rfl rfl rfl rfl rfl (.inr rfl) rfl ?_
    refine Dpn rfl rfl rfl rfl rfl (.inr rfl) rfl ?_
    refine Dpn rfl rfl rfl rfl rfl (.inr rfl) rfl ?_
    refine Dpn rfl rfl rfl rfl rfl (.inr rfl) rfl ?_
    refine Dpn rfl rfl rfl rfl rfl (.inr rfl) rfl ?_
    refine Dpn rfl rfl rfl rfl rfl (.inr rfl) rfl ?_
    refine Drn rfl rfl rfl rfl rfl (.inr rfl) rfl ?_
    refine Drn rfl rfl rfl rfl rfl (.inr rfl) rfl ?_
    refine Dpn rfl rfl rfl rfl rfl (.inr rfl) rfl ?_
    refine Dpn rfl rfl rfl rfl rfl (.inl (by rw [e7]; rfl)) rfl ?_
    refine Dp rfl rfl rfl rfl (V_pickT rfl (evb e7) rfl) ?_
    refine Dend ?_
    refine thenN ?_
    exact ⟨_, (FrLe.cons rfl (FrLe.cons rfl (FrLe.cons rfl (FrLe.cons rfl (FrLe.cons rfl (FrLe.cons rfl (FrLe.cons rfl (FrLe.cons rfl (FrLe.nil _))))))))), h⟩
  intro h e7
  refine Dpy rfl rfl rfl rfl rfl e7 rfl (V_move rfl rfl) ?_
  refine Dpy rfl rfl rfl rfl rfl e7 rfl (V_gtr rfl rfl rfl) ?_
  refine Dpy rfl rfl rfl rfl rfl e7 rfl (V_move rfl rfl) ?_
  refine splitP (decide (0 < x75_21)) decide_eq_true_iff h ?_ ?_
  rotate_left
  · intro h e10
    refine Dpn rfl rfl rfl rfl rfl (.inl (by rw [e10]; rfl)) rfl ?_
    refine Dpn rfl rfl rfl rfl rfl (.inl (by rw [e10]; rfl)) rfl ?_
    refine Dpn rfl rfl rfl rfl rfl (.inl (by rw [e10]; rfl)) rfl ?_
    refine Dpn rfl rfl rfl rfl rfl (.inl (by rw [e10]; rfl)) rfl ?_
    refine Dpn rfl rfl rfl rfl rfl (.inl (by rw [e10]; rfl)) rfl ?_
    refine Dpn rfl rfl rfl rfl rfl (.inl (by rw [e10]; rfl)) rfl ?_
    refine Drn rfl rfl rfl rfl rfl (.inl (by rw [e10]; rfl)) rfl ?_
    refine Drn rfl rfl rfl rfl rfl (.inl (by rw [e10]; rfl)) rfl ?_
    refine Dpn rfl rfl rfl rfl rfl (.inl (by rw [e10]; rfl)) rfl ?_
    refine Dpy rfl rfl rfl rfl rfl e7 rfl (V_pickF rfl (evb e10) rfl) ?_
    refine Dp rfl rfl rfl rfl (V_pickF rfl (evb e7) rfl) ?_
    refine Dend ?_
    refine thenN ?_
    exact ⟨_, (FrLe.cons rfl (FrLe.cons rfl (FrLe.cons rfl (FrLe.cons rfl (FrLe.cons rfl (FrLe.cons rfl (FrLe.cons rfl (FrLe.cons rfl (FrLe.nil _))))))))), h⟩
  intro h e10
  refine Dpy rfl rfl rfl rfl rfl e10 rfl (V_move rfl rfl) ?_
  refine Dpy rfl rfl rfl rfl rfl e10 rfl (V_move rfl rfl) ?_
  refine Dpy rfl rfl rfl rfl rfl e10 rfl (V_sub rfl rfl rfl) ?_
  obtain ⟨p102_36, ha, h0, h1, h⟩ := h
  refine Dpy rfl rfl rfl rfl rfl e10 rfl (V_ixA rfl Tryz.underlying75 ty108 (ixL rfl ha) rfl h0 h1) ?_
  refine Dpy rfl rfl rfl rfl rfl e10 rfl (V_fld rfl Tryz.underlying108 rfl ty9 (by decide) rfl) ?_
  refine Dpy rfl rfl rfl rfl rfl e10 rfl (V_fld rfl Tryz.underlying108 rfl ty9 (by decide) rfl) ?_
  obtain ⟨x104_37, hc, h⟩ := h
  refine Dry rfl rfl rfl rfl rfl e10 rfl (R_ld rfl Tryz.underlying9 rfl rfl hc) ?_
  obtain ⟨x106_38, hc, h⟩ := h
  refine Dry rfl rfl rfl rfl rfl e10 rfl (R_ld rfl Tryz.underlying9 rfl rfl hc) ?_
  refine Dpy rfl rfl rfl rfl rfl e10 rfl (V_leqS rfl rfl rfl) ?_
  refine Dpy rfl rfl rfl rfl rfl e7 rfl (V_pickT rfl (evb e10) rfl) ?_
  refine Dp rfl rfl rfl rfl (V_pickF rfl (evb e7) rfl) ?_
  refine Dend ?_
  refine thenN ?_
  exact ⟨_, (FrLe.cons rfl (FrLe.cons rfl (FrLe.cons rfl (FrLe.cons rfl (FrLe.cons rfl (FrLe.cons rfl (FrLe.cons rfl (FrLe.cons rfl (FrLe.nil _))))))))), h⟩

def j2_law08_start (B : World) (ro : AH) (x6_1 : Option Addr) (Q : Option Addr → AH → Prop) (σ : AH) : Prop :=
 Q x6_1 σ

def l3_law08_start (B : World) (ro : AH) (a0 : Sl) (x6_1 : Option Addr) (Q : Option Addr → AH → Prop) : (Int) → AH → ((Int) → AH → Prop) → Prop := fun x11_4 σ Y3 =>
 if x11_4 < (a0.len : Int) then
  ∃ p13_5 : Addr, a0.a = some p13_5 ∧ (0 : Int) ≤ x11_4 ∧ x11_4 < (a0.len : Int) ∧
  ∃ (x14_6 : ByteArray), acell ro σ (p13_5.add (Int.toNat x11_4 * 1)) = some (.string x14_6) ∧
  (⟨#[47]⟩ : ByteArray).size + x14_6.size ≤ 9223372036854775807 ∧
  c_ztree_Tree_Create B ro x6_1 ((⟨#[47]⟩ : ByteArray) ++ x14_6) (⟨none, 0, 0⟩ : Sl) 0 false σ fun x18_7 x18_8 σ =>
  Y3 (IntKind.i64.wrap (x11_4 + 1)) σ
 else
 j2_law08_start B ro x6_1 Q σ

def f_law08_start (B : World) (ro : AH) (a0 : Sl) (σ : AH) (Q : Option Addr → AH → Prop) : Prop :=
 c_ztree_New B ro σ fun x6_1 σ =>
 if x6_1 = none then
  Q none σ
 else
 lfpD (l3_law08_start B ro a0 x6_1 Q ) (0) σ

set_option maxRecDepth 100000 in
set_option maxHeartbeats 4000000 in
theorem law08_start_ok {B : World} {ro : AH} {a0 : Sl} {σ : AH} {Q : Option Addr → AH → Prop} (h : Sep ro σ → f_law08_start B ro a0 σ Q) : c_law08_start B ro a0 σ Q := by
  refine ACalls.of_sep fun hsep => ?_
  replace h := h hsep
  refine ACalls.of_body (args := [Sl.v a0]) Tryz.func35 rfl (by rw [Tryz.ntmps35]; simp) ?_
  rw [Tryz.ntmps35]
  unfold f_law08_start at h
  refine AW.seq ?_
  refine AW.reg ?_
  refine Lp (V_asg rfl rfl) rfl rfl ?_
  refine Lnil ?_
  refine thenN ?_
  refine AW.seq ?_
  refine AW.reg ?_
  refine Ls rfl rfl (X_call rfl Tryz.func30 rfl rfl rfl (ACalls.mono h ?_))
  rintro v σ ⟨x6_1, rfl, h⟩
  refine Lp (V_asg rfl rfl) rfl rfl ?_
  refine Lnil ?_
  refine thenN ?_
  refine AW.seq ?_
  refine AW.seq ?_
  refine AW.reg ?_
  refine Lp (V_move rfl rfl) rfl rfl ?_
  refine Lp (V_eqP rfl Tryz.underlying23 rfl rfl) rfl rfl ?_
  refine Lnil ?_
  refine thenN ?_
  refine AW.iff rfl isNone_iff h (fun h => ?_) (fun h => ?_)
  · refine AW.seq ?_
    refine AW.reg ?_
    refine Lp (V_asg rfl rfl) rfl rfl ?_
    refine Lnil ?_
    refine thenN ?_
    refine AW.ret ?_
    refine thenR ?_
    exact bR1 Tryz.results35 rfl ⟨_, rfl, h⟩
  refine AW.skip ?_
  refine thenN ?_
  refine AW.seqJ (fun fr σ => FrLe [(3, .pointer x6_1)] fr ∧ j2_law08_start B ro x6_1 Q σ) ?_ ?_
  · rintro fr σ ⟨hl, h⟩
    refine AW.weaken ?_ hl (HLe.refl _)
    unfold j2_law08_start at h
    refine AW.seq ?_
    refine AW.reg ?_
    refine Lp (V_move rfl rfl) rfl rfl ?_
    refine Lp (V_asg rfl rfl) rfl rfl ?_
    refine Lnil ?_
    refine thenN ?_
    refine AW.ret ?_
    exact bR1 Tryz.results35 rfl ⟨_, rfl, h⟩
  refine AW.seq ?_
  refine AW.reg ?_
  refine Lp (V_move rfl rfl) rfl rfl ?_
  refine Lp (V_lenL rfl rfl Tryz.underlying25 rfl rfl) rfl rfl ?_
  refine Lp (V_move rfl rfl) rfl rfl ?_
  refine Lnil ?_
  refine thenN ?_
  refine AW.block ?_
  refine ARound.loop (fr' := [(3, .pointer x6_1), (9, Sl.v a0), (10, .int .i64 (a0.len : Int)), (11, .int .i64 0)]) ?_ (FrLe.cons rfl (FrLe.cons rfl (FrLe.cons rfl (FrLe.cons rfl (FrLe.nil _)))))
  refine h (fun x11_4 σ => ARound _ _ _ _ _ _ [(3, .pointer x6_1), (9, Sl.v a0), (10, .int .i64 (a0.len : Int)), (11, .int .i64 x11_4)] σ) ?_
  rintro x11_4 σ Y3 hY3 h
  show AW _ _ _ _ _ _ _ _
  unfold l3_law08_start at h
  refine AW.seq ?_
  refine AW.reg ?_
  refine Lp (V_lss rfl rfl rfl) rfl rfl ?_
  refine Lnil ?_
  refine thenN ?_
  refine AW.seq ?_
  refine AW.iff rfl decide_eq_true_iff h (fun h => ?_) (fun h => ?_)
  rotate_left
  · refine AW.exit ?_
    refine thenE ?_
    refine thenE ?_
    refine blockE ?_
    refine thenN ?_
    exact ⟨(FrLe.cons rfl (FrLe.nil _)), h⟩
  refine AW.skip ?_
  refine thenN ?_
  refine AW.seq ?_
  refine AW.block ?_
  refine AW.seq ?_
  refine AW.reg ?_
  obtain ⟨p13_5, ha, h0, h1, h⟩ := h
  refine Lp (V_ixA rfl Tryz.underlying25 ty9 (ixL rfl ha) rfl h0 h1) rfl rfl ?_
  obtain ⟨x14_6, hc, h⟩ := h
  refine Ls rfl rfl (X_ld rfl Tryz.underlying9 rfl rfl hc ?_)
  refine Lp (V_asg rfl rfl) rfl rfl ?_
  refine Lnil ?_
  refine thenN ?_
  refine AW.reg ?_
  refine Lp (V_move rfl rfl) rfl rfl ?_
  refine Lp (V_move rfl rfl) rfl rfl ?_
  obtain ⟨hc, h⟩ := h
  refine Lp (V_cat rfl rfl rfl hc) rfl rfl ?_
  refine Ls rfl rfl (X_call rfl Tryz.func22 rfl rfl rfl (ACalls.mono h ?_))
  rintro v σ ⟨x18_7, x18_8, rfl, h⟩
  refine Lnil ?_
  refine blockN ?_
  refine thenN ?_
  refine AW.reg ?_
  refine Lp (V_add rfl rfl rfl) rfl rfl ?_
  refine Lp (V_move rfl rfl) rfl rfl ?_
  refine Lnil ?_
  refine thenN ?_
  refine ARound.head (fr' := [(3, .pointer x6_1), (9, Sl.v a0), (10, .int .i64 (a0.len : Int)), (11, .int .i64 (IntKind.i64.wrap (x11_4 + 1)))]) ?_ (FrLe.cons rfl (FrLe.cons rfl (FrLe.cons rfl (FrLe.cons rfl (FrLe.nil _)))))
  exact hY3 _ _ h

def j1_law08_copied (B : World) (ro : AH) (Q : Sl → AH → Prop) (x3_2 : Sl) (σ : AH) : Prop :=
 Q x3_2 σ

def l3_law08_copied (B : World) (ro : AH) (a0 : Sl) (Q : Sl → AH → Prop) : (Sl × Int) → AH → ((Sl × Int) → AH → Prop) → Prop := fun ⟨x3_4, x8_5⟩ σ Y3 =>
 if x8_5 < (a0.len : Int) then
  ∃ p10_6 : Addr, a0.a = some p10_6 ∧ (0 : Int) ≤ x8_5 ∧ x8_5 < (a0.len : Int) ∧
  ∃ (x11_7a : Int) (x11_7b : ByteArray) (x11_7c : Sl) (x11_7d : Int) (x11_7e : Bool) (x11_7f : Bool), cellsAt ro σ (p10_6.add (Int.toNat x8_5 * 6)) 0 [.int .i64 x11_7a, .string x11_7b, Sl.v x11_7c, .int .i64 x11_7d, .bool x11_7e, .bool x11_7f] ∧
  nw ro σ (.cells #[.int .i64 0, .string ByteArray.empty, Sl.v (⟨none, 0, 0⟩ : Sl), .int .i64 0, .bool false, .bool false] 82) fun x5_8 σ =>
  stN ⟨x5_8, 0, none⟩ (fun σ =>
   ∃ (x13_9 : Sl), acell ro σ ((⟨x5_8, 0, none⟩ : Addr).add 2) = some (Sl.v x13_9) ∧
   c_ref01_Copy B ro x13_9 σ fun x14_10 σ =>
   stN ((⟨x5_8, 0, none⟩ : Addr).add 2) (fun σ =>
    ∃ (x17_11a : Int) (x17_11b : ByteArray) (x17_11c : Sl) (x17_11d : Int) (x17_11e : Bool) (x17_11f : Bool), cellsAt ro σ ⟨x5_8, 0, none⟩ 0 [.int .i64 x17_11a, .string x17_11b, Sl.v x17_11c, .int .i64 x17_11d, .bool x17_11e, .bool x17_11f] ∧
    nw ro σ (.cells #[.int .i64 x17_11a, .string x17_11b, Sl.v x17_11c, .int .i64 x17_11d, .bool x17_11e, .bool x17_11f] 82) fun x18_12 σ =>
    awp Tryz.prog ro (Builtin.append_ #[70, 70] 70 #[Sl.v x3_4, Sl.v (⟨some ⟨x18_12, 0, none⟩, 1, 1⟩ : Sl)]) (fun v σ => ∃ (x19_13 : Sl), v = Sl.v x19_13 ∧
     Y3 (x19_13, IntKind.i64.wrap (x8_5 + 1)) σ) σ) [Sl.v x14_10] 0 σ) [.int .i64 x11_7a, .string x11_7b, Sl.v x11_7c, .int .i64 x11_7d, .bool x11_7e, .bool x11_7f] 0 σ
 else
 j1_law08_copied B ro Q x3_4 σ

def f_law08_copied (B : World) (ro : AH) (a0 : Sl) (σ : AH) (Q : Sl → AH → Prop) : Prop :=
 lfpD (l3_law08_copied B ro a0 Q ) ((⟨none, 0, 0⟩ : Sl), 0) σ

set_option maxRecDepth 100000 in
set_option maxHeartbeats 4000000 in
theorem law08_copied_ok {B : World} {ro : AH} {a0 : Sl} {σ : AH} {Q : Sl → AH → Prop} (h : Sep ro σ → f_law08_copied B ro a0 σ Q) : c_law08_copied B ro a0 σ Q := by
  refine ACalls.of_sep fun hsep => ?_
  replace h := h hsep
  refine ACalls.of_body (args := [Sl.v a0]) Tryz.func37 rfl (by rw [Tryz.ntmps37]; simp) ?_
  rw [Tryz.ntmps37]
  unfold f_law08_copied at h
  refine AW.seq ?_
  refine AW.reg ?_
  refine Lp (V_asg rfl rfl) rfl rfl ?_
  refine Lnil ?_
  refine thenN ?_
  refine AW.seq ?_
  refine AW.reg ?_
  refine Lp (V_asg rfl rfl) rfl rfl ?_
  refine Lnil ?_
  refine thenN ?_
  refine AW.seqJ (fun fr σ => ∃ (x3_2 : Sl), FrLe [(3, Sl.v x3_2)] fr ∧ j1_law08_copied B ro Q x3_2 σ) ?_ ?_
  · rintro fr σ ⟨x3_2, hl, h⟩
    refine AW.weaken ?_ hl (HLe.refl _)
    unfold j1_law08_copied at h
    refine AW.seq ?_
    refine AW.reg ?_
    refine Lp (V_move rfl rfl) rfl rfl ?_
    refine Lp (V_asg rfl rfl) rfl rfl ?_
    refine Lnil ?_
    refine thenN ?_
    refine AW.ret ?_
    exact bR1 Tryz.results37 rfl ⟨_, rfl, h⟩
  refine AW.seq ?_
  refine AW.reg ?_
  refine Lp (V_move rfl rfl) rfl rfl ?_
  refine Lp (V_lenL rfl rfl Tryz.underlying70 rfl rfl) rfl rfl ?_
  refine Lp (V_move rfl rfl) rfl rfl ?_
  refine Lnil ?_
  refine thenN ?_
  refine AW.block ?_
  refine ARound.loop (fr' := [(6, Sl.v a0), (7, .int .i64 (a0.len : Int)), (3, Sl.v (⟨none, 0, 0⟩ : Sl)), (8, .int .i64 0)]) ?_ (FrLe.cons rfl (FrLe.cons rfl (FrLe.cons rfl (FrLe.cons rfl (FrLe.nil _)))))
  refine h (fun ⟨x3_4, x8_5⟩ σ => ARound _ _ _ _ _ _ [(6, Sl.v a0), (7, .int .i64 (a0.len : Int)), (3, Sl.v x3_4), (8, .int .i64 x8_5)] σ) ?_
  rintro ⟨x3_4, x8_5⟩ σ Y3 hY3 h
  show AW _ _ _ _ _ _ _ _
  unfold l3_law08_copied at h
  dsimp only at h
  refine AW.seq ?_
  refine AW.reg ?_
  refine Lp (V_lss rfl rfl rfl) rfl rfl ?_
  refine Lnil ?_
  refine thenN ?_
  refine AW.seq ?_
  refine AW.iff rfl decide_eq_true_iff h (fun h => ?_) (fun h => ?_)
  rotate_left
  · refine AW.exit ?_
    refine thenE ?_
    refine thenE ?_
    refine blockE ?_
    refine thenN ?_
    exact ⟨_, (FrLe.cons rfl (FrLe.nil _)), h⟩
  refine AW.skip ?_
  refine thenN ?_
  refine AW.seq ?_
  refine AW.block ?_
  refine AW.seq ?_
  refine AW.reg ?_
  obtain ⟨p10_6, ha, h0, h1, h⟩ := h
  refine Lp (V_ixA rfl Tryz.underlying70 ty82 (ixL rfl ha) rfl h0 h1) rfl rfl ?_
  obtain ⟨x11_7a, x11_7b, x11_7c, x11_7d, x11_7e, x11_7f, hc, h⟩ := h
  refine Ls rfl rfl (X_lda rfl Tryz.underlying82 rfl ty82 rfl hc ?_)
  refine Ls rfl rfl (X_new (A_alloc rfl ty82) fun x5_8 g1 g2 => ?_)
  replace h := h x5_8 g1 g2
  refine Ls rfl rfl (X_st rfl ty82 rfl rfl rfl rfl (stN_mono h fun σ h => ?_))
  refine Lnil ?_
  refine thenN ?_
  refine AW.seq ?_
  refine AW.reg ?_
  refine Lp (V_fld rfl Tryz.underlying82 rfl ty30 (by decide) rfl) rfl rfl ?_
  obtain ⟨x13_9, hc, h⟩ := h
  refine Ls rfl rfl (X_ld rfl Tryz.underlying30 rfl rfl hc ?_)
  refine Ls rfl rfl (X_call rfl Tryz.func23 rfl rfl rfl (ACalls.mono h ?_))
  rintro v σ ⟨x14_10, rfl, h⟩
  refine Lp (V_fld rfl Tryz.underlying82 rfl ty30 (by decide) rfl) rfl rfl ?_
  refine Ls rfl rfl (X_st rfl ty30 rfl rfl rfl rfl (stN_mono h fun σ h => ?_))
  refine Lnil ?_
  refine thenN ?_
  refine AW.reg ?_
  refine Lp (V_move rfl rfl) rfl rfl ?_
  obtain ⟨x17_11a, x17_11b, x17_11c, x17_11d, x17_11e, x17_11f, hc, h⟩ := h
  refine Ls rfl rfl (X_lda rfl Tryz.underlying82 rfl ty82 rfl hc ?_)
  refine Ls rfl rfl (X_new (A_bsl (vs := [(0, .agg #[.int .i64 x17_11a, .string x17_11b, Sl.v x17_11c, .int .i64 x17_11d, .bool x17_11e, .bool x17_11f])]) (cs := #[.int .i64 x17_11a, .string x17_11b, Sl.v x17_11c, .int .i64 x17_11d, .bool x17_11e, .bool x17_11f]) rfl Tryz.underlying70 ty82 (by decide) rfl rfl) fun x18_12 g1 g2 => ?_)
  replace h := h x18_12 g1 g2
  refine Ls rfl rfl (X_bi (s := Builtin.append_ #[70, 70] 70 #[Sl.v x3_4, Sl.v (⟨some ⟨x18_12, 0, none⟩, 1, 1⟩ : Sl)]) rfl rfl (fun _ => rfl) (awp_mono _ h ?_))
  rintro v σ ⟨x19_13, rfl, h⟩
  refine Lp (V_asg rfl rfl) rfl rfl ?_
  refine Lnil ?_
  refine blockN ?_
  refine thenN ?_
  refine AW.reg ?_
  refine Lp (V_add rfl rfl rfl) rfl rfl ?_
  refine Lp (V_move rfl rfl) rfl rfl ?_
  refine Lnil ?_
  refine thenN ?_
  refine ARound.head (fr' := [(6, Sl.v a0), (7, .int .i64 (a0.len : Int)), (3, Sl.v x19_13), (8, .int .i64 (IntKind.i64.wrap (x8_5 + 1)))]) ?_ (FrLe.cons rfl (FrLe.cons rfl (FrLe.cons rfl (FrLe.cons rfl (FrLe.nil _)))))
  exact hY3 _ _ h

def j13_law08_awake (B : World) (ro : AH) (Q : Bool → AH → Prop) (x41_14 : Bool) (σ : AH) : Prop :=
 Q x41_14 σ

def j11_law08_awake (B : World) (ro : AH) (x5_2 : Option Addr) (Q : Bool → AH → Prop) (x36_12 : Bool) (σ : AH) : Prop :=
 if x36_12 = true then
  c_ztree_Tree_Size B ro x5_2 σ fun x39_15 σ =>
  j13_law08_awake B ro Q (decide (x39_15 = 3)) σ
 else
 j13_law08_awake B ro Q false σ

def j9_law08_awake (B : World) (ro : AH) (x2_6 : Nat) (x5_2 : Option Addr) (Q : Bool → AH → Prop) (x28_10 : Bool) (σ : AH) : Prop :=
 if x28_10 = true then
  ∃ (x31_16 : Sl), acell ro σ ⟨x2_6, 0, none⟩ = some (Sl.v x31_16) ∧
  ∃ p32_17 : Addr, x31_16.a = some p32_17 ∧ (0 : Int) ≤ 0 ∧ 0 < (x31_16.len : Int) ∧
  ∃ (x34_18 : ByteArray), acell ro σ (p32_17.add (Int.toNat 0 * 2)) = some (.string x34_18) ∧
  j11_law08_awake B ro x5_2 Q (decide (x34_18 = (⟨#[47, 97, 47, 120]⟩ : ByteArray))) σ
 else
 j11_law08_awake B ro x5_2 Q false σ

def j7_law08_awake (B : World) (ro : AH) (x2_6 : Nat) (x5_2 : Option Addr) (Q : Bool → AH → Prop) (x22_8 : Bool) (σ : AH) : Prop :=
 if x22_8 = true then
  ∃ (x25_19 : Sl), acell ro σ ⟨x2_6, 0, none⟩ = some (Sl.v x25_19) ∧
  j9_law08_awake B ro x2_6 x5_2 Q (decide ((x25_19.len : Int) = 1)) σ
 else
 j9_law08_awake B ro x2_6 x5_2 Q false σ

def f_law08_awake (B : World) (ro : AH) (σ : AH) (Q : Bool → AH → Prop) : Prop :=
 nw ro σ (.cells #[.string (⟨#[97]⟩ : ByteArray)] 9) fun x4_1 σ =>
 c_law08_start B ro (⟨some ⟨x4_1, 0, none⟩, 1, 1⟩ : Sl) σ fun x5_2 σ =>
 if x5_2 = none then
  Q false σ
 else
 nw ro σ (.cells #[.int .i64 1, .string (⟨#[47, 97, 47, 120]⟩ : ByteArray), Sl.v (⟨none, 0, 0⟩ : Sl), .int .i64 0, .bool false, .bool false] 82) fun x12_3 σ =>
 c_multi_Apply B ro x5_2 (⟨#[97]⟩ : ByteArray) 5 9 99 (⟨some ⟨x12_3, 0, none⟩, 1, 1⟩ : Sl) σ fun x13_4a x13_4b x13_4c x13_5 σ =>
 nw ro σ (.cells #[Sl.v (⟨none, 0, 0⟩ : Sl), Sl.v (⟨none, 0, 0⟩ : Sl), .int .i64 0] 77) fun x2_6 σ =>
 stN ⟨x2_6, 0, none⟩ (fun σ =>
  if x13_5 = 0 then
   ∃ (x20_20 : Int), acell ro σ ((⟨x2_6, 0, none⟩ : Addr).add 2) = some (.int .i64 x20_20) ∧
   j7_law08_awake B ro x2_6 x5_2 Q (decide (x20_20 = (-1))) σ
  else
  j7_law08_awake B ro x2_6 x5_2 Q false σ) [Sl.v x13_4a, Sl.v x13_4b, .int .i64 x13_4c] 0 σ

set_option maxRecDepth 100000 in
set_option maxHeartbeats 4000000 in
theorem law08_awake_ok {B : World} {ro : AH} {σ : AH} {Q : Bool → AH → Prop} (h : Sep ro σ → f_law08_awake B ro σ Q) : c_law08_awake B ro σ Q := by
  refine ACalls.of_sep fun hsep => ?_
  replace h := h hsep
  refine ACalls.of_body (args := []) Tryz.func38 rfl (by rw [Tryz.ntmps38]; simp) ?_
  rw [Tryz.ntmps38]
  unfold f_law08_awake at h
  refine AW.seq ?_
  refine AW.reg ?_
  refine Lp (V_asg rfl rfl) rfl rfl ?_
  refine Lnil ?_
  refine thenN ?_
  refine AW.seq ?_
  refine AW.reg ?_
  refine Ls rfl rfl (X_new (A_bsl (vs := [(0, .string (⟨#[97]⟩ : ByteArray))]) (cs := #[.string (⟨#[97]⟩ : ByteArray)]) rfl Tryz.underlying25 ty9 (by decide) rfl rfl) fun x4_1 g1 g2 => ?_)
  replace h := h x4_1 g1 g2
  refine Ls rfl rfl (X_call rfl Tryz.func35 rfl rfl rfl (ACalls.mono h ?_))
  rintro v σ ⟨x5_2, rfl, h⟩
  refine Lp (V_asg rfl rfl) rfl rfl ?_
  refine Lnil ?_
  refine thenN ?_
  refine AW.seq ?_
  refine AW.seq ?_
  refine AW.reg ?_
  refine Lp (V_move rfl rfl) rfl rfl ?_
  refine Lp (V_eqP rfl Tryz.underlying23 rfl rfl) rfl rfl ?_
  refine Lnil ?_
  refine thenN ?_
  refine AW.iff rfl isNone_iff h (fun h => ?_) (fun h => ?_)
  · refine AW.seq ?_
    refine AW.reg ?_
    refine Lp (V_asg rfl rfl) rfl rfl ?_
    refine Lnil ?_
    refine thenN ?_
    refine AW.ret ?_
    refine thenR ?_
    exact bR1 Tryz.results38 rfl ⟨_, rfl, h⟩
  refine AW.skip ?_
  refine thenN ?_
  refine AW.seq ?_
  refine AW.reg ?_
  refine Lp (V_move rfl rfl) rfl rfl ?_
  refine Lp (V_bld (vs := [(0, .int .i64 9), (1, .int .i64 99)]) (cs := #[.int .i64 9, .int .i64 99]) rfl Tryz.underlying69 ty69 pl69 rfl rfl) rfl rfl ?_
  refine Lp (V_bld (vs := [(0, .int .i64 1), (1, .string (⟨#[47, 97, 47, 120]⟩ : ByteArray))]) (cs := #[.int .i64 1, .string (⟨#[47, 97, 47, 120]⟩ : ByteArray), Sl.v (⟨none, 0, 0⟩ : Sl), .int .i64 0, .bool false, .bool false]) rfl Tryz.underlying82 ty82 pl82 rfl rfl) rfl rfl ?_
  refine Ls rfl rfl (X_new (A_bsl (vs := [(0, .agg #[.int .i64 1, .string (⟨#[47, 97, 47, 120]⟩ : ByteArray), Sl.v (⟨none, 0, 0⟩ : Sl), .int .i64 0, .bool false, .bool false])]) (cs := #[.int .i64 1, .string (⟨#[47, 97, 47, 120]⟩ : ByteArray), Sl.v (⟨none, 0, 0⟩ : Sl), .int .i64 0, .bool false, .bool false]) rfl Tryz.underlying70 ty82 (by decide) rfl rfl) fun x12_3 g1 g2 => ?_)
  replace h := h x12_3 g1 g2
  refine Ls rfl rfl (X_call rfl Tryz.func36 rfl rfl rfl (ACalls.mono h ?_))
  rintro v σ ⟨x13_4a, x13_4b, x13_4c, x13_5, rfl, h⟩
  refine Lp (V_move rfl rfl) rfl rfl ?_
  refine Lp (V_ext rfl rfl rfl) rfl rfl ?_
  refine Lp (V_ext rfl rfl rfl) rfl rfl ?_
  refine Ls rfl rfl (X_new (A_alloc rfl ty77) fun x2_6 g1 g2 => ?_)
  replace h := h x2_6 g1 g2
  refine Ls rfl rfl (X_st rfl ty77 rfl rfl rfl rfl (stN_mono h fun σ h => ?_))
  refine Lp (V_asg rfl rfl) rfl rfl ?_
  refine Lnil ?_
  refine thenN ?_
  refine AW.seq ?_
  refine AW.reg ?_
  refine Lp (V_move rfl rfl) rfl rfl ?_
  refine Lp (V_eql rfl rfl rfl) rfl rfl ?_
  refine Lp (V_move rfl rfl) rfl rfl ?_
  refine LsplitJ 4 (decide (x13_5 = 0)) decide_eq_true_iff h (fun fr σ => ∃ (x22_8 : Bool), FrLe [(1, .pointer x5_2), (2, .pointer (some ⟨x2_6, 0, none⟩)), (22, .bool x22_8)] fr ∧ j7_law08_awake B ro x2_6 x5_2 Q x22_8 σ) ?_ ?_ ?_
  · intro h e2 hk2
    refine Lypb (V_fld rfl Tryz.underlying77 rfl ty3 (by decide) rfl) rfl rfl rfl rfl e2 ?_
    obtain ⟨x20_20, hc, h⟩ := h
    refine Lyb rfl rfl rfl rfl e2 (X_ld rfl Tryz.underlying3 rfl rfl hc ?_)
    refine Lypb (V_eql rfl rfl rfl) rfl rfl rfl rfl e2 ?_
    refine Lp (V_pickT rfl (evb e2) rfl) rfl rfl ?_
    exact hk2 _ _ ⟨_, (FrLe.cons rfl (FrLe.cons rfl (FrLe.cons rfl (FrLe.nil _)))), h⟩
  · intro h e2 hk2
    refine Ln rfl rfl rfl rfl (.inl (by rw [e2]; rfl)) ?_
    refine Ln rfl rfl rfl rfl (.inl (by rw [e2]; rfl)) ?_
    refine Ln rfl rfl rfl rfl (.inl (by rw [e2]; rfl)) ?_
    refine Lp (V_pickF rfl (evb e2) rfl) rfl rfl ?_
    exact hk2 _ _ ⟨_, (FrLe.cons rfl (FrLe.cons rfl (FrLe.cons rfl (FrLe.nil _)))), h⟩
  rintro fr σ ⟨x22_8, hl, h⟩
  unfold j7_law08_awake at h
  refine Lfr hl ?_
  refine Lp (V_move rfl rfl) rfl rfl ?_
  refine LsplitJ 5 x22_8 Iff.rfl h (fun fr σ => ∃ (x28_10 : Bool), FrLe [(1, .pointer x5_2), (2, .pointer (some ⟨x2_6, 0, none⟩)), (28, .bool x28_10)] fr ∧ j9_law08_awake B ro x2_6 x5_2 Q x28_10 σ) ?_ ?_ ?_
  · intro h e7 hk7
    refine Lypb (V_fld rfl Tryz.underlying77 rfl ty74 (by decide) rfl) rfl rfl rfl rfl e7 ?_
    obtain ⟨x25_19, hc, h⟩ := h
    refine Lyb rfl rfl rfl rfl e7 (X_ld rfl Tryz.underlying74 rfl rfl hc ?_)
    refine Lypb (V_lenL rfl rfl Tryz.underlying74 rfl rfl) rfl rfl rfl rfl e7 ?_
    refine Lypb (V_eql rfl rfl rfl) rfl rfl rfl rfl e7 ?_
    refine Lp (V_pickT rfl (evb e7) rfl) rfl rfl ?_
    exact hk7 _ _ ⟨_, (FrLe.cons rfl (FrLe.cons rfl (FrLe.cons rfl (FrLe.nil _)))), h⟩
  · intro h e7 hk7
    refine Ln rfl rfl rfl rfl (.inl (by rw [e7]; rfl)) ?_
    refine Ln rfl rfl rfl rfl (.inl (by rw [e7]; rfl)) ?_
    refine Ln rfl rfl rfl rfl (.inl (by rw [e7]; rfl)) ?_
    refine Ln rfl rfl rfl rfl (.inl (by rw [e7]; rfl)) ?_
    refine Lp (V_pickF rfl (evb e7) rfl) rfl rfl ?_
    exact hk7 _ _ ⟨_, (FrLe.cons rfl (FrLe.cons rfl (FrLe.cons rfl (FrLe.nil _)))), h⟩
  rintro fr σ ⟨x28_10, hl, h⟩
  unfold j9_law08_awake at h
  refine Lfr hl ?_
  refine Lp (V_move rfl rfl) rfl rfl ?_
  refine LsplitJ 7 x28_10 Iff.rfl h (fun fr σ => ∃ (x36_12 : Bool), FrLe [(1, .pointer x5_2), (36, .bool x36_12)] fr ∧ j11_law08_awake B ro x5_2 Q x36_12 σ) ?_ ?_ ?_
  · intro h e13 hk13
    refine Lypb (V_fld rfl Tryz.underlying77 rfl ty74 (by decide) rfl) rfl rfl rfl rfl e13 ?_
    obtain ⟨x31_16, hc, h⟩ := h
    refine Lyb rfl rfl rfl rfl e13 (X_ld rfl Tryz.underlying74 rfl rfl hc ?_)
    obtain ⟨p32_17, ha, h0, h1, h⟩ := h
    refine Lypb (V_ixA rfl Tryz.underlying74 ty84 (ixL rfl ha) rfl h0 h1) rfl rfl rfl rfl e13 ?_
    refine Lypb (V_fld rfl Tryz.underlying84 rfl ty9 (by decide) rfl) rfl rfl rfl rfl e13 ?_
    obtain ⟨x34_18, hc, h⟩ := h
    refine Lyb rfl rfl rfl rfl e13 (X_ld rfl Tryz.underlying9 rfl rfl hc ?_)
    refine Lypb (V_eqlS rfl rfl rfl) rfl rfl rfl rfl e13 ?_
    refine Lp (V_pickT rfl (evb e13) rfl) rfl rfl ?_
    exact hk13 _ _ ⟨_, (FrLe.cons rfl (FrLe.cons rfl (FrLe.nil _))), h⟩
  · intro h e13 hk13
    refine Ln rfl rfl rfl rfl (.inl (by rw [e13]; rfl)) ?_
    refine Ln rfl rfl rfl rfl (.inl (by rw [e13]; rfl)) ?_
    refine Ln rfl rfl rfl rfl (.inl (by rw [e13]; rfl)) ?_
    refine Ln rfl rfl rfl rfl (.inl (by rw [e13]; rfl)) ?_
    refine Ln rfl rfl rfl rfl (.inl (by rw [e13]; rfl)) ?_
    refine Ln rfl rfl rfl rfl (.inl (by rw [e13]; rfl)) ?_
    refine Lp (V_pickF rfl (evb e13) rfl) rfl rfl ?_
    exact hk13 _ _ ⟨_, (FrLe.cons rfl (FrLe.cons rfl (FrLe.nil _))), h⟩
  rintro fr σ ⟨x36_12, hl, h⟩
  unfold j11_law08_awake at h
  refine Lfr hl ?_
  refine Lp (V_move rfl rfl) rfl rfl ?_
  refine LsplitJ 4 x36_12 Iff.rfl h (fun fr σ => ∃ (x41_14 : Bool), FrLe [(41, .bool x41_14)] fr ∧ j13_law08_awake B ro Q x41_14 σ) ?_ ?_ ?_
  · intro h e21 hk21
    refine Lypb (V_move rfl rfl) rfl rfl rfl rfl e21 ?_
    refine Lyb rfl rfl rfl rfl e21 (X_call rfl Tryz.func16 rfl rfl rfl (ACalls.mono h ?_))
    rintro v σ ⟨x39_15, rfl, h⟩
    refine Lypb (V_eql rfl rfl rfl) rfl rfl rfl rfl e21 ?_
    refine Lp (V_pickT rfl (evb e21) rfl) rfl rfl ?_
    exact hk21 _ _ ⟨_, (FrLe.cons rfl (FrLe.nil _)), h⟩
  · intro h e21 hk21
    refine Ln rfl rfl rfl rfl (.inl (by rw [e21]; rfl)) ?_
    refine Ln rfl rfl rfl rfl (.inl (by rw [e21]; rfl)) ?_
    refine Ln rfl rfl rfl rfl (.inl (by rw [e21]; rfl)) ?_
    refine Lp (V_pickF rfl (evb e21) rfl) rfl rfl ?_
    exact hk21 _ _ ⟨_, (FrLe.cons rfl (FrLe.nil _)), h⟩
  rintro fr σ ⟨x41_14, hl, h⟩
  unfold j13_law08_awake at h
  refine Lfr hl ?_
  refine Lp (V_asg rfl rfl) rfl rfl ?_
  refine Lnil ?_
  refine thenN ?_
  refine AW.ret ?_
  exact bR1 Tryz.results38 rfl ⟨_, rfl, h⟩

end Go.Proofs.YthfpmipeejjogaaGreatDoor.G

/- Trees with homes, copies of ops, and the law's own example. -/
namespace Go.Proofs.YthfpmipeejjogaaGreatDoor.Zt
open Go Go.Proofs.YthfpmipeejjogaaGreatDoor.SL Go.Proofs.YthfpmipeejjogaaGreatDoor.G Go.Proofs.YthfpmipeejjogaaGreatDoor.Pa
set_option linter.unusedSimpArgs false
set_option linter.unusedVariables false
variable {B : World} {ro σ σ' : AH} {tag tag' : Nat → Nat}

def startE (hs : List Str) : St := hs.foldl (fun st h => (create st (47 :: h) [] 0 false).1) St.new
theorem invB_start : ∀ (hs : List Str), hs.length ≤ 1073741824 → InvB hs.length (startE hs) := by
  intro hs hl
  have key : ∀ (l : List Str) (b : Nat) (st : St), InvB b st → b + l.length ≤ 1073741824 → InvB (b + l.length) (l.foldl (fun st h => (create st (47 :: h) [] 0 false).1) st) := by
    intro l
    induction l with
    | nil => intro b st h _; exact h
    | cons x l ih =>
      intro b st h hb
      simp only [List.length_cons] at hb ⊢
      have h1 := ih (b + 1) _ (invB_create (p := 47 :: x) (d := []) (o := 0) (seq := false) h (by omega)) (by omega)
      rw [List.foldl_cons, show b + (l.length + 1) = b + 1 + l.length by omega]
      exact h1
  have := key hs 0 St.new invB_new (by omega)
  rw [Nat.zero_add] at this; exact this
set_option maxRecDepth 100000 in
theorem start_ok {a0 : Sl} {hs : List Str} {Q : Option Addr → AH → Prop} (r : Nat) (g : Glob ro) (hr : r < 64) (hr6 : r ≠ 6) (hr0 : r ≠ 0) (hrd : ∀ tag' σ', StepC r ro tag σ tag' σ' → SL.Read ro σ' a0 (hs.map Pa.vS)) (hl : hs.length ≤ 1073741824) (hhl : ∀ h ∈ hs, h.length ≤ 4611686018427387903)
    (hQ : ∀ T tag' σ', StepC r ro tag σ tag' σ' → TreeIs tag' σ' r T (startE hs) → InvB hs.length (startE hs) → Q (some ⟨T, 0, none⟩) σ') : c_law08_start B ro a0 σ Q := by
  refine law08_start_ok fun hsep => ?_
  unfold f_law08_start
  refine new_ok (tag := tag) r hr hr6 fun T tag1 σ1 st1 h1 => ?_
  rw [if_neg (by simp)]
  have hln : a0.len = hs.length := by rw [(hrd tag1 σ1 st1).1, List.length_map]
  suffices ∀ m j tag2 σ2, j + m = hs.length → StepC r ro tag σ tag2 σ2 → TreeIs tag2 σ2 r T (startE (hs.take j)) → lfpD (l3_law08_start B ro a0 (some ⟨T, 0, none⟩) Q) (j : Int) σ2 from
    this _ 0 tag1 σ1 (Nat.zero_add _) st1 h1
  intro m
  induction m with
  | zero =>
    intro j tag2 σ2 hj st2 h2
    refine lfpD.intro ?_
    unfold l3_law08_start
    rw [if_neg (by omega)]
    unfold j2_law08_start
    rw [List.take_of_length_le (by omega)] at h2
    exact hQ T tag2 σ2 st2 h2 (invB_start hs hl)
  | succ m ih =>
    intro j tag2 σ2 hj st2 h2
    have hjl : j < hs.length := by omega
    have rd := hrd tag2 σ2 st2
    obtain ⟨p, hp⟩ : ∃ p, a0.a = some p := by
      cases e : a0.a with
      | none => have := rd.2.1 e; simp at this; rw [this] at hjl; simp at hjl
      | some p => exact ⟨p, rfl⟩
    have hcell := rd.2.2 p hp j (Pa.vS hs[j]) (by rw [List.getElem?_map, List.getElem?_eq_getElem hjl]; rfl)
    have hxl := hhl _ (List.getElem_mem hjl)
    refine lfpD.intro ?_
    unfold l3_law08_start
    rw [if_pos (by omega)]
    refine ⟨p, hp, by omega, by omega, S hs[j], by rw [Int.toNat_natCast, Nat.mul_one]; exact hcell, ?_⟩
    refine ⟨by rw [show (⟨#[47]⟩ : ByteArray).size = 1 from rfl, show (S hs[j]).size = hs[j].length from by rw [← L_len, L_S]]; omega, ?_⟩
    have hcat : (⟨#[47]⟩ : ByteArray) ++ S hs[j] = S (47 :: hs[j]) := by
      rw [show (⟨#[47]⟩ : ByteArray) = S [47] from rfl, S_append]; rfl
    rw [hcat]
    refine create_ok (d := []) g hr hr6 hr0 h2 ⟨rfl, fun _ => rfl, fun p h => by cases h⟩ (by decide) fun tag3 σ3 st3 h3 => ?_
    rw [L_S] at h3
    rw [Pa.inc j (by omega)]
    refine ih (j + 1) tag3 σ3 (by omega) (st2.trans st3) ?_
    have e : startE (hs.take (j + 1)) = (create (startE (hs.take j)) (47 :: hs[j]) [] 0 false).1 := by
      unfold startE
      rw [List.take_add_one, List.getElem?_eq_getElem hjl, List.foldl_append]; rfl
    rw [e]; exact h3

/-- ops as they came in -/
def OpsR (ro : AH) (s : Sl) (ops : List MOp) : Prop := s.len = ops.length ∧ ∀ j o, ops[j]? = some o → ∃ q ds, s.a = some q ∧ (∀ σ, SL.cellsAt ro σ (q.add (j * 6)) 0 (opV o ds)) ∧ SL.Read ro (fun _ => none) ds (o.data.map vU) ∧ o.data.length ≤ 140737488351232
theorem OpsR.data {s : Sl} {ops : List MOp} (h : OpsR ro s ops) : ∀ o ∈ ops, o.data.length < 4611686018427387904 := fun o ho => by
  obtain ⟨j, hj, rfl⟩ := List.getElem_of_mem ho
  obtain ⟨_, _, _, _, _, h5⟩ := h.2 j _ (List.getElem?_eq_getElem hj)
  omega
/-- ops in memory, to be read only -/
def OpsM (ro σ : AH) (s : Sl) (ops : List MOp) : Prop := s.len = ops.length ∧ ∀ j o, ops[j]? = some o → ∃ q ds, s.a = some q ∧ SL.cellsAt ro σ (q.add (j * 6)) 0 (opV o ds) ∧ SL.Read ro (fun _ => none) ds (o.data.map vU) ∧ o.data.length ≤ 140737488351232
theorem OpsR.m {s : Sl} {ops : List MOp} (h : OpsR ro s ops) (σ : AH) : OpsM ro σ s ops := ⟨h.1, fun j o ho => by
  obtain ⟨q, ds, h1, h2, h3, h4⟩ := h.2 j o ho
  exact ⟨q, ds, h1, h2 σ, h3, h4⟩⟩
set_option maxRecDepth 100000 in
theorem copied_in {a0 : Sl} {ops : List MOp} {Q : Sl → AH → Prop} (hO : ∀ tag' σ', StepS [0, 24, 28] ro tag σ tag' σ' → OpsM ro σ' a0 ops) (hl : ops.length ≤ 2199023255488) (hQ : ∀ s tag' σ', StepS [0, 24, 28] ro tag σ tag' σ' → OpsAt tag' σ' 24 s ops → Q s σ') : c_law08_copied B ro a0 σ Q := by
  refine law08_copied_ok fun hsep => ?_
  unfold f_law08_copied
  have hln := (hO tag σ (StepS.refl hsep)).1
  suffices ∀ m j s tag2 σ2, j + m = ops.length → StepS [0, 24, 28] ro tag σ tag2 σ2 → OpsAt tag2 σ2 24 s (ops.take j) → lfpD (l3_law08_copied B ro a0 Q) (s, (j : Int)) σ2 from
    this _ 0 ⟨none, 0, 0⟩ tag σ (Nat.zero_add _) (StepS.refl hsep) ⟨[], rfl, RowW.nil _ _ _, fun i o d h => by cases h⟩
  intro m
  induction m with
  | zero =>
    intro j s tag2 σ2 hj st2 h2
    refine lfpD.intro ?_
    unfold l3_law08_copied
    simp only
    rw [if_neg (by omega)]
    unfold j1_law08_copied
    rw [List.take_of_length_le (by omega)] at h2
    exact hQ s tag2 σ2 st2 h2
  | succ m ih =>
    intro j s tag2 σ2 hj st2 h2
    have hjl : j < ops.length := by omega
    obtain ⟨q, ds, hq, hc, hrd, hdl⟩ := (hO tag2 σ2 st2).2 j ops[j] (List.getElem?_eq_getElem hjl)
    refine lfpD.intro ?_
    unfold l3_law08_copied
    simp only
    rw [if_pos (by omega)]
    refine ⟨q, hq, by omega, by omega, ops[j].kind, S ops[j].path, ds, ops[j].ver, ops[j].eph, ops[j].seq, by rw [Int.toNat_natCast]; exact hc, ?_⟩
    refine nw_st (tag := tag2) 28 st2.sep rfl (by simp [storable, Sl.v]) fun x tag3 σ3 st3 r3 => ?_
    obtain ⟨p3, hp3, hg3⟩ := r3.ptr (st3 []).sep (by simp)
    cases hp3
    refine ⟨ds, hg3 2 _ rfl, ?_⟩
    refine copy_ok (tag := tag3) (hrd.keep) (st3 []).sep (by simp; omega) (by simp [storable]) fun s' tag4 σ4 st4 r4 => ?_
    refine (r3.keep (st4 []) (by simp)).st (i := 2) (st4 []).sep rfl (by simp) rfl fun σ5 st5 r5 => ?_
    refine ⟨ops[j].kind, S ops[j].path, s', ops[j].ver, ops[j].eph, ops[j].seq, Row.cellsAt r5 st5.sep, ?_⟩
    refine nw_cells (tag := tag4) 0 st5.sep fun y tag6 σ6 st6 r6 => ?_
    have st26 : StepS [0, 24, 28] ro tag2 σ2 tag6 σ6 := ((st3 []).s (by simp)).trans (((st4 []).s (by simp)).trans ((st5.s (by simp)).trans ((st6 []).s (by simp))))
    have k26 : StepS [28] ro tag2 σ2 tag6 σ6 := ((st3 []).s (by simp)).trans (((st4 []).s (by simp)).trans ((st5.s (by simp)).trans ((st6 []).s (by simp))))
    obtain ⟨dd, d1, d2, d3⟩ := h2.keepS k26 (by decide) (by decide)
    have hlz : (List.zipWith opV (ops.take j) dd).length = j := by rw [List.length_zipWith, d1, Nat.min_self, List.length_take]; omega
    refine awp_appendW (l2 := [opV ops[j] s']) d2 (st6 []).sep (Row.readW1 r6 (st6 []).sep rfl (by decide)) (t := 70) (by kernel_rfl) ty82 rfl (by simp [opV, storable, Sl.v]) (by rw [hlz]; simp; omega) (by decide) fun sn tag7 σ7 st7 r7 => ?_
    have st7' := st7 [24] (.inr (by simp))
    refine ⟨sn, rfl, ?_⟩
    rw [Pa.inc j (by omega)]
    refine ih (j + 1) sn tag7 σ7 (by omega) (st2.trans (st26.trans (st7'.s (by simp)))) ?_
    have etk : ops.take (j + 1) = ops.take j ++ [ops[j]] := by rw [List.take_add_one, List.getElem?_eq_getElem hjl]; rfl
    rw [etk]
    refine ⟨dd ++ [s'], by rw [List.length_append, List.length_append, d1]; rfl, ?_, fun i o d ho hd => ?_⟩
    · rw [List.zipWith_append d1.symm]; exact r7
    · rcases Nat.lt_or_ge i (ops.take j).length with h | h
      · rw [List.getElem?_append_left h] at ho
        rw [List.getElem?_append_left (by omega)] at hd
        exact (d3 i o d ho hd).keep st7' (by simp)
      · rw [List.getElem?_append_right h] at ho
        rw [List.getElem?_append_right (by omega), d1] at hd
        cases hz : i - (ops.take j).length with
        | zero =>
          rw [hz] at ho hd
          cases ho; cases hd
          exact ((r4.keep st5 (by simp)).keep (st6 []) (by simp)).keep st7' (by simp)
        | succ k => rw [hz] at ho; cases ho

theorem copied_ok {a0 : Sl} {ops : List MOp} {Q : Sl → AH → Prop} (hO : OpsR ro a0 ops) (hl : ops.length ≤ 2199023255488) (hQ : ∀ s tag' σ', StepS [0, 24, 28] ro tag σ tag' σ' → OpsAt tag' σ' 24 s ops → Q s σ') : c_law08_copied B ro a0 σ Q :=
  copied_in (fun _ σ' _ => hO.m σ') hl hQ

def awakeSt : St := [([47], ⟨0, 1, 0, 1, []⟩), ([47, 97], ⟨0, 0, 0, 0, []⟩)]
set_option maxRecDepth 100000 in
theorem awake_start : startE [[97]] = awakeSt := by rfl
theorem awake_srt : srt awakeSt = awakeSt := by
  refine (srt_of ?_ (List.Perm.refl _)).symm
  unfold Srt awakeSt
  simp [List.pairwise_cons]
def awakeOp : MOp := ⟨1, [47, 97, 47, 120], [], 0, false, false⟩
theorem awake_apply : (applyE (startE [[97]]) [97] 5 9 99 [awakeOp]).err = 0 ∧ (applyE (startE [[97]]) [97] 5 9 99 [awakeOp]).bad = -1 ∧ (applyE (startE [[97]]) [97] 5 9 99 [awakeOp]).res = [([47, 97, 47, 120], 0)] ∧ (applyE (startE [[97]]) [97] 5 9 99 [awakeOp]).st.length = 3 := by
  rw [awake_start]
  unfold applyE
  rw [if_neg (by decide), if_neg (by decide), awake_srt]
  refine ⟨by decide, by decide, by decide, by decide⟩
set_option maxRecDepth 100000 in
theorem awake8_ok {Q : Bool → AH → Prop} (g : Glob ro) (hQ : ∀ σ, SL.Sep ro σ → Q true σ) : c_law08_awake B ro σ Q := by
  refine law08_awake_ok fun hs => ?_
  unfold f_law08_awake
  refine nw_cells (tag := fun _ => 0) 22 hs fun x4 tag1 σ1 st1 r1 => ?_
  have e97 : (⟨#[97]⟩ : ByteArray) = S [97] := rfl
  refine start_ok (tag := tag1) (hs := [[97]]) 10 g (by decide) (by decide) (by decide) (fun tag2 σ2 st2 => (r1.keepC st2 (by decide)).read st2.sep) (by decide) (by simp) fun T tag2 σ2 st2 h2 hi => ?_
  rw [if_neg (by simp)]
  refine nw_cells (tag := tag2) 24 st2.sep fun x12 tag3 σ3 st3 r3 => ?_
  have hops : OpsAt tag3 σ3 24 ⟨some ⟨x12, 0, none⟩, 1, 1⟩ [awakeOp] := by
    refine ⟨[⟨none, 0, 0⟩], rfl, ?_, fun i o d ho hd => ?_⟩
    · rcases r3 with ⟨h, _⟩ | ⟨b, cs, ha, htg, hbk, hln, hcp, hle, hg⟩
      · cases h
      · cases ha
        refine .inr ⟨x12, cs, rfl, htg, hbk, rfl, by simpa using hcp.symm, by simp, by simp [opV], fun i v hv => ?_⟩
        have hv' : [vI 1, Pa.vS [47, 97, 47, 120], Sl.v ⟨none, 0, 0⟩, vI 0, Value.bool false, Value.bool false][i]? = some v := by simpa [opV, awakeOp] using hv
        have hi6 : i < 6 := by
          rcases Nat.lt_or_ge i 6 with h | h
          · exact h
          · rw [List.getElem?_eq_none (by simpa using h)] at hv'; cases hv'
        rw [hg i (by simpa using hi6)]; exact hv'
    · rcases i with _ | i
      · cases ho; cases hd; exact Row.nil _ _
      · cases ho
  have hap := awake_apply
  rw [e97]
  refine apply_ok (b := 1) (q := 24) g (by decide) (by decide) (by decide) (by decide) (by decide) (by decide) (h2.keep (st3 []) (by simp)) hi (by decide) hops (fun o ho => by rw [List.mem_singleton.1 ho]; decide) (by decide) fun rs es tag4 σ4 st4 h4 r4 _ => ?_
  obtain ⟨a1, a2, a3, a4⟩ := hap
  rw [a3] at r4
  refine nw_st (tag := tag4) 22 st4.sep rfl (by simp [storable, Sl.v]) fun x2 tag5 σ5 st5 r5 => ?_
  have r45 := r4.keep (st5 []) (by simp)
  obtain ⟨p5, hp5, hg5⟩ := r5.ptr (st5 []).sep (by simp)
  cases hp5
  rw [a1, if_pos rfl]
  refine ⟨_, hg5 2 _ rfl, ?_⟩
  rw [a2, show decide ((-1 : Int) = -1) = true from rfl]
  unfold j7_law08_awake
  rw [if_pos rfl]
  refine ⟨rs, hg5 0 _ rfl, ?_⟩
  rw [show decide ((rs.len : Int) = 1) = true from by rw [r45.len]; rfl]
  unfold j9_law08_awake
  rw [if_pos rfl]
  obtain ⟨b, hb, _, hget⟩ := r45.get (st5 []).sep (j := 0) rfl
  refine ⟨rs, hg5 0 _ rfl, _, hb, by decide, by rw [r45.len]; decide, S [47, 97, 47, 120], hget 0 _ rfl, ?_⟩
  rw [show decide (S [47, 97, 47, 120] = (⟨#[47, 97, 47, 120]⟩ : ByteArray)) = true from by decide]
  unfold j11_law08_awake
  rw [if_pos rfl]
  obtain ⟨M, bs, hA⟩ := h4.keep (st5 []) (by simp)
  refine size_ok hA ?_
  unfold j13_law08_awake
  rw [a4]
  exact hQ σ5 (st5 []).sep
end Go.Proofs.YthfpmipeejjogaaGreatDoor.Zt

/- Usage stays within its quota; two blocks lent; scripts while blocks are lent. -/
namespace Go.Proofs.YthfpmipeejjogaaGreatDoor.SL
open Go
variable {ro σ σ' : AH} {tag tag' : Nat → Nat}
theorem acell_ro {ψ τ : AH} {a : Addr} {v : Value} (h : acell ro (fun _ => none) a = some v) : acell (join ro ψ) τ a = some v := by
  unfold acell rd at h ⊢
  cases e : ro a.block with
  | none => rw [e] at h; simp [cellOf] at h
  | some o => rw [e] at h; rw [join_left e]; exact h
theorem cellsAt_ro {ψ τ : AH} {a : Addr} : ∀ {l : List Value} {i : Nat}, cellsAt ro (fun _ => none) a i l → cellsAt (join ro ψ) τ a i l
  | [], _, _ => trivial
  | _ :: _, _, h => ⟨acell_ro h.1, cellsAt_ro h.2⟩
theorem Read.ro' {ψ : AH} {s : Sl} {l : List Value} (h : Read ro (fun _ => none) s l) : Read (join ro ψ) (fun _ => none) s l :=
  ⟨h.1, h.2.1, fun p hp i v hv => acell_ro (h.2.2 p hp i v hv)⟩
theorem StepS.back {C : List Nat} {b : Nat} {τ : AH} (h : StepS C (join ro (one σ b)) tag (del σ b) tag' τ) (hs : Sep ro σ) (hd : Disj (one σ b) τ) (hb : ∃ o, σ b = some o) : StepS C ro tag σ (setTag tag' b (tag b)) (join (one σ b) τ) := by
  obtain ⟨R, h1, h2⟩ := h
  exact ⟨R, h1, h2.back hs hd hb⟩
end Go.Proofs.YthfpmipeejjogaaGreatDoor.SL
namespace Go.Proofs.YthfpmipeejjogaaGreatDoor.Zt
open Go Go.Proofs.YthfpmipeejjogaaGreatDoor.SL Go.Proofs.YthfpmipeejjogaaGreatDoor.G Go.Proofs.YthfpmipeejjogaaGreatDoor.Pa
set_option linter.unusedSimpArgs false
set_option linter.unusedVariables false
variable {B : World} {ro σ σ' : AH} {tag tag' : Nat → Nat}

/-! usage -/
/-! scripts -/
theorem OpsR.ro' {ψ : AH} {s : Sl} {ops : List MOp} (h : OpsR ro s ops) : OpsR (join ro ψ) s ops := by
  refine ⟨h.1, fun j o ho => ?_⟩
  obtain ⟨q, ds, h1, h2, h3, h4⟩ := h.2 j o ho
  exact ⟨q, ds, h1, fun σ => cellsAt_ro (h2 _), h3.ro', h4⟩
structure Txn where
  home : Str
  owner : Int
  qn : Int
  qb : Int
  ops : List MOp
  sweep : Bool
/-- a transaction as it came in, its values -/
def txV (t : Txn) (s : Sl) : List Value := [.string (S t.home), .int .i64 t.owner, .int .i64 t.qn, .int .i64 t.qb, Sl.v s, .bool t.sweep]
def TxsR (ro : AH) (s : Sl) (txs : List Txn) : Prop := s.len = txs.length ∧ ∀ j t, txs[j]? = some t → ∃ q os, s.a = some q ∧ (∀ σ, SL.cellsAt ro σ (q.add (j * 6)) 0 (txV t os)) ∧ t.home.length ≤ reachBytes ∧ OpsR ro os t.ops ∧ t.ops.length ≤ 2199023255488
/-- a tree, with one block of another role lent -/
theorem TreeIs.del' {r T b x : Nat} {st : St} (h : TreeIs tag σ r T st) (hb : tag b = x) (hx : x < 64) (hr : r < 64) (hxr : x ≠ r) (hx6 : x ≠ 6) : TreeIs tag (SL.del σ b) r T st := by
  obtain ⟨M, bs, h⟩ := h
  refine ⟨M, bs, h.keys, h.len, h.nd, h.cell.del hb (Ne.symm hxr), h.map.del (by rw [hb]; omega), fun i c p hc hp => ?_⟩
  obtain ⟨s, h1, h2⟩ := h.nodes i c p hc hp
  exact ⟨s, h1.del hb (by omega), h2.del hb (by omega)⟩
end Go.Proofs.YthfpmipeejjogaaGreatDoor.Zt

/- results compared -/
namespace Go.Proofs.YthfpmipeejjogaaGreatDoor.Zt
open Go Go.Proofs.YthfpmipeejjogaaGreatDoor.SL Go.Proofs.YthfpmipeejjogaaGreatDoor.G Go.Proofs.YthfpmipeejjogaaGreatDoor.Pa
set_option linter.unusedSimpArgs false
set_option linter.unusedVariables false
set_option maxRecDepth 100000
variable {B : World} {ro σ σ' : AH} {tag tag' : Nat → Nat}
theorem aread_bind {α β : Type} {P : Program} (s : Sem α) (f : α → Sem β) {τ : AH} {a : α} (h : aread P ro s τ = some a) : aread P ro (Sem.bind s f) τ = aread P ro (f a) τ := by
  induction s with
  | pure x => cases h; rfl
  | load m x k ih =>
    simp only [aread] at h
    simp only [Sem.bind, aread]
    split at h
    · exact ih _ h
    · cases h
  | program k ih => exact ih _ h
  | mark m k ih => exact ih h
  | _ => cases h
end Go.Proofs.YthfpmipeejjogaaGreatDoor.Zt

/- Several changes are as one by one; a transaction read from a block that is lent. -/
namespace Go.Proofs.YthfpmipeejjogaaGreatDoor.Zt
open Go Go.Proofs.YthfpmipeejjogaaGreatDoor.SL Go.Proofs.YthfpmipeejjogaaGreatDoor.G Go.Proofs.YthfpmipeejjogaaGreatDoor.Pa
set_option linter.unusedSimpArgs false
set_option linter.unusedVariables false
variable {B : World} {ro σ σ' : AH} {tag tag' : Nat → Nat}

/-! the same on trees that are the same but for their order -/
/-! a block lent -/
theorem RowW.back {r : Nat} {e : TypeId} {w : Nat} {s : Sl} {l : List (List Value)} {b r' : Nat} {τ : AH} (h : RowW tag' τ r e w s l) (hd : Disj (SL.one σ b) τ) (hb : ∃ o, σ b = some o) : RowW (setTag tag' b r') (join (SL.one σ b) τ) r e w s l := by
  rcases h with h | ⟨c, cs, ha, ht, hs, hx⟩
  · exact .inl h
  · have hcb : c ≠ b := fun e => by
      obtain ⟨o, ho⟩ := hb
      have := hd b o (by unfold SL.one; rw [if_pos rfl]; exact ho)
      rw [← e, hs] at this; cases this
    exact .inr ⟨c, cs, ha, by unfold setTag; rw [if_neg hcb]; exact ht, by unfold join SL.one; rw [if_neg hcb]; exact hs, hx⟩
theorem region_back {X : Nat} {C : List Nat} {tag1 : Nat → Nat} {σ1 : AH} (hs : SL.Sep ro σ) (hX : ∃ o, σ X = some o) (hd : Disj (SL.one σ X) σ1) (st : StepS C (join ro (SL.one σ X)) tag (SL.del σ X) tag1 σ1) :
    ∃ tag2, StepS C ro tag σ tag2 (join (SL.one σ X) σ1) ∧ (∀ r T st, TreeIs tag1 σ1 r T st → TreeIs tag2 (join (SL.one σ X) σ1) r T st) ∧ (∀ r e w s l, RowW tag1 σ1 r e w s l → RowW tag2 (join (SL.one σ X) σ1) r e w s l) ∧ (∀ r e s l, Row tag1 σ1 r e s l → Row tag2 (join (SL.one σ X) σ1) r e s l) :=
  ⟨_, StepS.back st hs hd hX, fun r T st h => h.back hd hX, fun r e w s l h => RowW.back h hd hX, fun r e s l h => h.back hd hX⟩
set_option maxRecDepth 100000 in
/-- a transaction applied, itself in a block of role 29 that is lent -/
theorem txn_in {r T b X : Nat} {st : St} {t : Txn} {os : Sl} {K : Sl → Sl → Int → Int → AH → AH → Prop} (g : Glob ro) (hs : SL.Sep ro σ) (hr : r < 64) (hrD : r ∉ DA) (hr6 : r ≠ 6) (hr63 : r ≠ 63) (hrX : r ∉ [0, 24, 28, 29]) (hT : TreeIs tag σ r T st) (hi : InvB b st) (hb : b ≤ 1073741824)
    (hX : Row tag σ 29 72 ⟨some ⟨X, 0, none⟩, 6, 6⟩ (txV t os)) (hO : OpsR ro os t.ops) (hol : t.ops.length ≤ 2199023255488) (hhl : t.home.length ≤ 4611686018427387903)
    (hK : ∀ rs es tag1 σ1, StepS (0 :: 24 :: 28 :: r :: DA) (join ro (SL.one σ X)) tag (SL.del σ X) tag1 σ1 → TreeIs tag1 σ1 r T (applyE st t.home t.owner t.qn t.qb t.ops).st → RowW tag1 σ1 14 84 2 rs ((applyE st t.home t.owner t.qn t.qb t.ops).res.map resV) → RowW tag1 σ1 15 108 2 es ((applyE st t.home t.owner t.qn t.qb t.ops).eff.map effV) →
      K rs es (applyE st t.home t.owner t.qn t.qb t.ops).bad (applyE st t.home t.owner t.qn t.qb t.ops).err (SL.one σ X) σ1) :
    lent σ fun ψ σ => ∃ x1 : ByteArray, acell (join ro ψ) (fun _ => none) ⟨X, 0, none⟩ = some (.string x1) ∧
      ∃ x2 : Int, acell (join ro ψ) (fun _ => none) ((⟨X, 0, none⟩ : Addr).add 1) = some (.int .i64 x2) ∧
      ∃ (x3 x4 : Int), cellsAt (join ro ψ) (fun _ => none) ((⟨X, 0, none⟩ : Addr).add 2) 0 [.int .i64 x3, .int .i64 x4] ∧
      ∃ x5 : Sl, acell (join ro ψ) σ ((⟨X, 0, none⟩ : Addr).add 4) = some (Sl.v x5) ∧
      c_law08_copied B (join ro ψ) x5 σ fun x6 σ =>
      c_multi_Apply B (join ro ψ) (some ⟨T, 0, none⟩) x1 x2 x3 x4 x6 σ fun rs es bad err σ => K rs es bad err ψ σ := by
  refine lent_block X ?_
  obtain ⟨tX, o1, hX'⟩ := hX.tagOf
  have cX : ∀ τ i v, (txV t os)[i]? = some v → acell (join ro (SL.one σ X)) τ ((⟨X, 0, none⟩ : Addr).add i) = some v := fun τ i v hv => by
    have := hX.lend hs (τ := τ) hv
    rwa [Nat.mul_one] at this
  simp only [List.mem_cons, List.not_mem_nil, or_false, not_or] at hrX
  have hA := hT.del' tX (by decide) hr (by omega) (by decide) (b := X)
  refine ⟨S t.home, cX _ 0 _ rfl, t.owner, cX _ 1 _ rfl, t.qn, t.qb, cellsAt_of 0 fun i v hv => ?_, os, cX _ 4 _ rfl, ?_⟩
  · have := cX (fun _ => none) (2 + i) v (by
      rcases i with _ | _ | i
      · exact hv
      · exact hv
      · cases hv)
    rw [add_add] at this ⊢
    rw [add_add, Nat.zero_add, Nat.zero_add]
    rwa [Nat.zero_add] at this
  refine copied_ok (tag := tag) hO.ro' hol fun s9 tag9 σ9 st9 ho9 => ?_
  have h9 := hA.keepS st9 (by rw [Nat.mod_eq_of_lt hr]; simp; omega) (by decide)
  refine apply_ok (b := b) (q := 24) (glob_lent g) hr hrD hr6 hr63 (by decide) (by decide) h9 hi hb ho9 hO.data hhl fun rs es tag10 σ10 st10 h10 r14 r15 => ?_
  exact hK rs es tag10 σ10 ((st9.mono (by simp)).trans (st10.mono (fun c hc => List.mem_cons_of_mem _ (List.mem_cons_of_mem _ (List.mem_cons_of_mem _ hc))))) h10 r14 r15
end Go.Proofs.YthfpmipeejjogaaGreatDoor.Zt

/- The document's tree in memory: its blocks, and Get. -/
namespace Go.Proofs.YthfpmipeejjogaaGreatDoor.SL
open Go
variable {ro σ σ' : AH} {tag tag' : Nat → Nat}
theorem acell_lent (b : Nat) (a : Addr) : acell (join ro (one σ b)) (SL.del σ b) a = acell ro σ a := by unfold acell; rw [rd_lent]
end Go.Proofs.YthfpmipeejjogaaGreatDoor.SL
namespace Go.Proofs.YthfpmipeejjogaaGreatDoor.Zt
open Go Go.Proofs.YthfpmipeejjogaaGreatDoor.SL Go.Proofs.YthfpmipeejjogaaGreatDoor.G Go.Proofs.YthfpmipeejjogaaGreatDoor.Pa
set_option linter.unusedSimpArgs false
set_option linter.unusedVariables false
variable {B : World} {ro σ σ' : AH} {tag tag' : Nat → Nat}

/-- the document's tree: its block (role r), its nodes (role r + 64), their data in rows of data -/
def RefIs (tag : Nat → Nat) (σ : AH) (r T : Nat) (l : St) : Prop := ∃ (s : Sl) (ds : List Sl), ds.length = l.length ∧ Row tag σ r 157 ⟨some ⟨T, 0, none⟩, 1, 1⟩ [Sl.v s] ∧ RowW tag σ (r + 64) 159 5 s (List.zipWith nodeV l ds) ∧
  ∀ (i : Nat) (p : Str × Nd) (d : Sl), l[i]? = some p → ds[i]? = some d → Row tag σ 6 5 d (p.2.data.map vU)
theorem RefIs.keepS {C : List Nat} {r T : Nat} {l : St} (h : RefIs tag σ r T l) (k : StepS C ro tag σ tag' σ') (hr : r % 64 ∉ C) (h6 : 6 ∉ C) : RefIs tag' σ' r T l := by
  obtain ⟨s, ds, h1, h2, h3, h4⟩ := h
  exact ⟨s, ds, h1, h2.keepS k hr, RowW.keepS h3 k (by rw [show (r + 64) % 64 = r % 64 by omega]; exact hr), fun i p d hp hd => (h4 i p d hp hd).keepS k h6⟩
theorem RefIs.m {r T : Nat} {l : St} (h : RefIs tag σ r T l) (hs : SL.Sep ro σ) : RefM ro σ T l := by
  obtain ⟨s, ds, h1, h2, h3, h4⟩ := h
  obtain ⟨p, hp, hg⟩ := h2.ptr hs (by simp)
  cases hp
  have hl := h3.len
  rw [List.length_zipWith, h1, Nat.min_self] at hl
  refine ⟨s, by have := hg 0 _ rfl; rwa [Nat.zero_mul, add_zero] at this, hl, fun j p hj => ?_⟩
  have hjl : j < l.length := by
    rcases Nat.lt_or_ge j l.length with h | h
    · exact h
    · rw [List.getElem?_eq_none h] at hj; cases hj
  have hd : ds[j]? = some ds[j] := List.getElem?_eq_getElem (by omega)
  obtain ⟨b, ha, _, hc⟩ := RowW.get h3 hs (j := j) (x := nodeV p ds[j]) (by rw [List.getElem?_zipWith, hj, hd])
  exact ⟨b, ds[j], ha, hc, (h4 j p _ hj hd).read hs⟩
theorem RefM.lent {T : Nat} {l : St} (b : Nat) (h : RefM ro σ T l) : RefM (join ro (SL.one σ b)) (SL.del σ b) T l := by
  obtain ⟨s, h1, h2, h3⟩ := h
  refine ⟨s, by rw [acell_lent]; exact h1, h2, fun j p hj => ?_⟩
  obtain ⟨c, d, ha, hc, hd⟩ := h3 j p hj
  exact ⟨c, d, ha, fun i v hv => by rw [acell_lent]; exact hc i v hv, hd.lent b⟩
end Go.Proofs.YthfpmipeejjogaaGreatDoor.Zt

/- The document's tree: Children, Paths. -/
namespace Go.Proofs.YthfpmipeejjogaaGreatDoor.Zt
open Go Go.Proofs.YthfpmipeejjogaaGreatDoor.SL Go.Proofs.YthfpmipeejjogaaGreatDoor.G Go.Proofs.YthfpmipeejjogaaGreatDoor.Pa
set_option linter.unusedSimpArgs false
set_option linter.unusedVariables false
variable {B : World} {ro σ σ' : AH} {tag tag' : Nat → Nat}

theorem RefM.row {T j : Nat} {l : St} {p : Str × Nd} (h : RefM ro σ T l) (hj : l[j]? = some p) : ∃ (s : Sl) (b : Nat) (d : Sl), acell ro σ ⟨T, 0, none⟩ = some (Sl.v s) ∧ s.len = l.length ∧ s.a = some ⟨b, 0, none⟩ ∧ ∀ (i : Nat) (v : Value), (nodeV p d)[i]? = some v → acell ro σ (((⟨b, 0, none⟩ : Addr).add (Int.toNat (j : Int) * 5)).add i) = some v := by
  obtain ⟨s, h1, h2, h3⟩ := h
  obtain ⟨b, d, ha, hc, _⟩ := h3 j p hj
  exact ⟨s, b, d, h1, h2, ha, fun i v hv => by rw [Int.toNat_natCast, add_add, add_add, Nat.zero_add]; exact hc i v hv⟩
theorem RefM.len {T : Nat} {l : St} (h : RefM ro σ T l) : ∃ s : Sl, acell ro σ ⟨T, 0, none⟩ = some (Sl.v s) ∧ s.len = l.length := by
  obtain ⟨s, h1, h2, _⟩ := h
  exact ⟨s, h1, h2⟩
end Go.Proofs.YthfpmipeejjogaaGreatDoor.Zt

/- The nodes of owners: the tree's list and the document's. -/
namespace Go.Proofs.YthfpmipeejjogaaGreatDoor.Zt
open Go Go.Proofs.YthfpmipeejjogaaGreatDoor.SL Go.Proofs.YthfpmipeejjogaaGreatDoor.G Go.Proofs.YthfpmipeejjogaaGreatDoor.Pa
set_option linter.unusedSimpArgs false
set_option linter.unusedVariables false
variable {B : World} {ro σ σ' : AH} {tag tag' : Nat → Nat}

theorem contains_ok {s : Sl} {ws : List Int} {n : Int} {Q : Bool → AH → Prop} (h : SL.Read ro σ s (ws.map vI)) (hl : ws.length ≤ 4611686018427387903) (hQ : Q (decide (n ∈ ws)) σ) : c_slices_Contains_int_int B ro s n σ Q := by
  refine slices_Contains_int_int_ok fun _ => ?_
  unfold f_slices_Contains_int_int
  refine slices_Index_int_int_ok fun _ => ?_
  unfold f_slices_Index_int_int
  obtain ⟨a1, a2, a3⟩ := h
  rw [List.length_map] at a1
  suffices ∀ m j, j + m = ws.length → (∀ i, i < j → ws[i]? ≠ some n) → lfpD (l2_slices_Index_int_int B ro s n fun x7_1 σ => Q (decide (0 ≤ x7_1)) σ) (j : Int) σ from this _ 0 (Nat.zero_add _) fun i h => absurd h (Nat.not_lt_zero _)
  intro m
  induction m with
  | zero =>
    intro j hj hno
    refine lfpD.intro ?_
    unfold l2_slices_Index_int_int
    rw [if_neg (by omega)]
    unfold j1_slices_Index_int_int
    rw [decide_eq_false (fun hm => ?_)] at hQ
    · exact hQ
    · obtain ⟨i, hi, e⟩ := List.getElem_of_mem hm
      exact hno i (by omega) (by rw [List.getElem?_eq_getElem hi, e])
  | succ m ih =>
    intro j hj hno
    have hjl : j < ws.length := by omega
    obtain ⟨p, hp⟩ : ∃ p, s.a = some p := by
      cases e : s.a with
      | none => have := a2 e; simp at this; rw [this] at hjl; simp at hjl
      | some p => exact ⟨p, rfl⟩
    refine lfpD.intro ?_
    unfold l2_slices_Index_int_int
    rw [if_pos (by omega)]
    refine ⟨p, hp, by omega, by omega, ws[j], by rw [Int.toNat_natCast, Nat.mul_one]; exact a3 p hp j _ (by rw [List.getElem?_map, List.getElem?_eq_getElem hjl]; rfl), ?_⟩
    by_cases c : n = ws[j]
    · rw [if_pos c]
      rw [decide_eq_true (by rw [c]; exact List.getElem_mem hjl)] at hQ
      rw [decide_eq_true (by omega)]; exact hQ
    · rw [if_neg c, Pa.inc j (by omega)]
      refine ih (j + 1) (by omega) fun i hi => ?_
      rcases Nat.lt_or_ge i j with h | h
      · exact hno i h
      · obtain rfl : i = j := by omega
        rw [List.getElem?_eq_getElem hjl]
        exact fun e => c (Option.some.inj e).symm
/-- the paths that one of the owners has -/
def isOwned (st : St) (ws : List Int) (k : Str) : Bool := match st.lookup k with
  | some n => decide (n.own ≠ 0 ∧ n.own ∈ ws)
  | none => false
set_option maxRecDepth 100000 in
theorem owned_ok {r T q : Nat} {st : St} {a1 : Sl} {ws : List Int} {Q : Sl → AH → Prop} (hr : r < 64) (hr0 : r ≠ 0) (hq : q < 64) (hqr : q ≠ r) (hq6 : q ≠ 6) (h : TreeIs tag σ r T st) (hs : ∀ p ∈ st, p.1.length ≤ 128) (hn : st.length ≤ 4294967296) (hw : SL.Read ro (fun _ => none) a1 (ws.map vI)) (hwl : ws.length ≤ 4611686018427387903)
    (hQ : ∀ (s : Sl) (tag' : Nat → Nat) (σ' : AH) (ks : List Str), StepS [0, q] ro tag σ tag' σ' → ks.Perm (st.map (·.1)) → ks.Pairwise (· ≤ ·) → Row tag' σ' q 9 s ((ks.filter fun k => isOwned st ws k).map Pa.vS) → Q s σ') : c_ztree_Tree_Owned B ro (some ⟨T, 0, none⟩) a1 σ Q := by
  obtain ⟨M, bs, hA⟩ := h
  refine ztree_Tree_Owned_ok fun hsep => ?_
  unfold f_ztree_Tree_Owned
  refine paths_ok (q := q + 64) hA hs (by omega) fun s tag2 σ2 ks st2 hpm hsrt hr2 => ?_
  have hln : s.len = ks.length := by rw [hr2.len, List.length_map]
  have hkl : ks.length = st.length := by rw [hpm.length_eq, List.length_map]
  suffices ∀ m j (so : Sl) tag3 σ3, j + m = ks.length → Step [q] ro tag2 σ2 tag3 σ3 → Row tag3 σ3 q 9 so (((ks.take j).filter fun k => isOwned st ws k).map Pa.vS) → lfpD (l4_ztree_Tree_Owned B ro (some ⟨T, 0, none⟩) a1 s Q) (so, (j : Int)) σ3 from
    this _ 0 ⟨none, 0, 0⟩ tag2 σ2 (Nat.zero_add _) (Step.refl (st2 []).sep) (Row.nil q 9)
  intro m
  induction m with
  | zero =>
    intro j so tag3 σ3 hj st3 hso
    refine lfpD.intro ?_
    unfold l4_ztree_Tree_Owned
    simp only
    rw [if_neg (by omega)]
    unfold j1_ztree_Tree_Owned
    rw [List.take_of_length_le (by omega)] at hso
    exact hQ so tag3 σ3 ks (((st2 []).s (by simp)).trans (st3.s (by simp [Nat.mod_eq_of_lt hq]))) hpm hsrt hso
  | succ m ih =>
    intro j so tag3 σ3 hj st3 hso
    have hjl : j < ks.length := by omega
    have hs3 := hr2.keep st3 (by simp)
    obtain ⟨pp, hpp, _, hget⟩ := Row.sget hs3 st3.sep hjl
    have hA3 := (hA.keep (st2 []) (by simp)).keep st3 (by simp; omega)
    have etk : ks.take (j + 1) = ks.take j ++ [ks[j]] := by rw [List.take_add_one, List.getElem?_eq_getElem hjl]; rfl
    have hnl : ((ks.take j).filter fun x => isOwned st ws x).length ≤ j := by
      refine Nat.le_trans (List.length_filter_le _ _) ?_
      rw [List.length_take]; omega
    refine lfpD.intro ?_
    unfold l4_ztree_Tree_Owned
    simp only
    rw [if_pos (by omega)]
    refine ⟨pp, hpp, by omega, by omega, S ks[j], hget j hjl, _, rfl, _, Row.cell1 hA3.cell st3.sep, ?_⟩
    refine awp_lookup_str hA3.map st3.sep u126 u9 ty129 ?_
    rcases kv_lookup st bs ks[j] hA.len with ⟨a, e⟩ | ⟨i, b, n, a1', a2', a3', e⟩
    · exact absurd (hpm.mem_iff.1 (List.getElem_mem hjl)) (lookup_none a)
    rw [e]
    obtain ⟨ds, hnd, _⟩ := hA3.nodes i b _ a1' a2'
    obtain ⟨pb, hpb, hgb⟩ := hnd.ptr st3.sep (by simp)
    cases hpb
    refine ⟨some ⟨b, 0, none⟩, rfl, _, rfl, n.own, hgb 2 _ rfl, ?_⟩
    have hio : isOwned st ws ks[j] = decide (n.own ≠ 0 ∧ n.own ∈ ws) := by unfold isOwned; rw [a3']
    have go : ∀ x : Bool, x = isOwned st ws ks[j] → j16_ztree_Tree_Owned B ro (some ⟨T, 0, none⟩) a1 so s (j : Int) (S ks[j]) Q (lfpD (l4_ztree_Tree_Owned B ro (some ⟨T, 0, none⟩) a1 s Q)) x σ3 := fun x hx => by
      unfold j16_ztree_Tree_Owned
      cases x with
      | true =>
        rw [if_pos rfl]
        refine nw_cells (tag := tag3) 0 st3.sep fun X tag4 σ4 st4 r4 => ?_
        refine awp_append1 (hso.keep (st4 []) (by simp)) (st4 []).sep Pa.t25 ty9 rfl rfl (Row.cell1 r4 (st4 []).sep) rfl (by rw [List.length_map]; omega) (by decide) fun s' tag5 σ5 st5 r5 => ?_
        refine ⟨s', rfl, ?_⟩
        unfold j7_ztree_Tree_Owned
        rw [Pa.inc j (by omega)]
        refine ih (j + 1) s' tag5 σ5 (by omega) (st3.trans ((st4 _).trans st5)) ?_
        rw [etk, List.filter_append, List.filter_cons_of_pos hx.symm, List.filter_nil, List.map_append]
        exact r5
      | false =>
        rw [if_neg (by simp)]
        unfold j7_ztree_Tree_Owned
        rw [Pa.inc j (by omega)]
        refine ih (j + 1) so tag3 σ3 (by omega) st3 ?_
        rw [etk, List.filter_append, List.filter_cons_of_neg (by rw [← hx]; simp), List.filter_nil, List.append_nil]
        exact hso
    by_cases c0 : n.own = 0
    · rw [if_neg (by simpa using c0)]
      exact go false (by rw [hio]; simp [c0])
    · rw [if_pos c0]
      refine contains_ok hw.keep hwl ?_
      exact go _ (by rw [hio]; simp [c0])
end Go.Proofs.YthfpmipeejjogaaGreatDoor.Zt

/- multi.Sweep: what it does to a tree. -/
namespace Go.Proofs.YthfpmipeejjogaaGreatDoor.Pa
open Go Go.Proofs.YthfpmipeejjogaaGreatDoor.SL Go.Proofs.YthfpmipeejjogaaGreatDoor.G
set_option linter.unusedSimpArgs false
set_option linter.unusedVariables false
variable {B : World} {ro σ σ' : AH} {tag tag' : Nat → Nat}
set_option maxRecDepth 100000 in
/-- a path's parts, and no slice where there are none -/
theorem partsN_ok {s : ByteArray} {Q : Sl → Int → AH → Prop} (r : Nat) (g : Glob ro) (hnone : parts (L s) = none → ∀ σ', Q ⟨none, 0, 0⟩ 20 σ')
    (hsome : ∀ ps, parts (L s) = some ps → ∀ sl tag' σ', Step [] ro tag σ tag' σ' → Row tag' σ' r 9 sl (ps.map vS) → Q sl 0 σ') : c_path_Parts B ro s σ Q := by
  refine path_Parts_ok fun hs => ?_
  unfold f_path_Parts
  by_cases h1 : s = ⟨#[47]⟩
  · rw [if_pos h1]
    refine hsome [] ?_ _ tag σ (Step.refl hs) (Row.nil r 9)
    subst h1; rfl
  · have hne : L s ≠ [47] := fun h => h1 (L_inj h)
    rw [if_neg h1]
    by_cases h2 : 128 < (s.size : Int)
    · rw [if_pos h2]
      unfold j1_path_Parts
      rw [if_pos rfl]
      refine hnone ?_ _
      unfold parts; rw [if_neg hne, if_neg]
      intro h; have := h.1; rw [L_len] at this; omega
    · rw [if_neg h2]
      refine hasPrefix_ok ?_
      unfold j1_path_Parts
      by_cases h3 : (L s).head? = some 47
      · obtain ⟨t, ht⟩ : ∃ t, L s = 47 :: t := by
          cases h : L s with
          | nil => rw [h] at h3; cases h3
          | cons c t => rw [h] at h3; cases h3; exact ⟨t, rfl⟩
        have hp : (L (⟨#[47]⟩ : ByteArray)).isPrefixOf (L s) = true := by rw [ht]; rfl
        rw [hp, if_neg (by decide)]
        have hsz : s.size = t.length + 1 := by rw [← L_len, ht]; rfl
        refine ⟨⟨trivial, ⟨by omega, by show (1 : Int) ≤ (s.size : Int); omega⟩⟩, ?_⟩
        have hex : s.extract (Int.toNat 1) s.size = S t := by
          conv => lhs; rw [← S_L s]
          rw [S_extract, S_size, List.take_length, ht]; rfl
        rw [hex]
        refine split_ok (tag := tag) r g (by simp; omega) fun sl tag1 σ1 st1 r1 => ?_
        rw [L_S] at r1
        have hln : sl.len = (cut t).length := by rw [r1.len, List.length_map]
        have hdrop : (L s).drop 1 = t := by rw [ht]; rfl
        by_cases h4 : (cut t).length ≤ 8
        · rw [if_neg (by omega)]
          suffices ∀ m j, j + m = (cut t).length → (∀ i (hi : i < (cut t).length), i < j → nameOk (cut t)[i] = true) → lfpD (l5_path_Parts B ro sl Q) (j : Int) σ1 from
            this _ 0 (Nat.zero_add _) (fun i hi h => absurd h (Nat.not_lt_zero _))
          intro m
          induction m with
          | zero =>
            intro j hj hk
            refine lfpD.intro ?_
            unfold l5_path_Parts
            rw [if_neg (by omega)]
            unfold j4_path_Parts
            refine hsome (cut t) ?_ sl tag1 σ1 (st1 _) r1
            unfold parts
            rw [if_neg hne, hdrop, if_pos]
            refine ⟨by rw [L_len]; omega, h3, h4, ?_⟩
            rw [List.all_eq_true]
            intro x hx
            obtain ⟨i, hi, e⟩ := List.getElem_of_mem hx
            rw [← e]; exact hk i hi (by omega)
          | succ m ih =>
            intro j hj hk
            have hjl : j < (cut t).length := by omega
            obtain ⟨p, hp, _, hg⟩ := Row.sget r1 (st1 []).sep hjl
            refine lfpD.intro ?_
            unfold l5_path_Parts
            rw [if_pos (by omega)]
            refine ⟨p, hp, by omega, by omega, _, hg j hjl, ?_⟩
            refine name_ok ?_
            rw [L_S]
            by_cases h5 : nameOk (cut t)[j] = true
            · rw [if_neg (by simpa using h5), inc j (by omega)]
              refine ih (j + 1) (by omega) fun i hi hij => ?_
              rcases Nat.lt_or_ge i j with h | h
              · exact hk i hi h
              · have : i = j := by omega
                subst this; exact h5
            · rw [if_pos (by simpa using h5)]
              refine hnone ?_ _
              unfold parts
              rw [if_neg hne, hdrop, if_neg]
              intro h
              have := List.all_eq_true.1 h.2.2.2 _ (List.getElem_mem hjl)
              exact h5 this
        · rw [if_pos (by omega)]
          refine hnone ?_ _
          unfold parts
          rw [if_neg hne, hdrop, if_neg]
          intro h; exact h4 h.2.2.1
      · have hp : (L (⟨#[47]⟩ : ByteArray)).isPrefixOf (L s) = false := by
          rw [Bool.eq_false_iff]
          intro h
          apply h3
          cases hl : L s with
          | nil => rw [hl] at h; cases h
          | cons c t =>
            rw [hl] at h
            have : ([47] : Str).isPrefixOf (c :: t) = true := h
            simp at this
            rw [← this]; rfl
        rw [hp, if_pos (by decide)]
        refine hnone ?_ _
        unfold parts
        rw [if_neg hne, if_neg]
        intro h; exact h3 h.2.1

end Go.Proofs.YthfpmipeejjogaaGreatDoor.Pa
namespace Go.Proofs.YthfpmipeejjogaaGreatDoor.Zt
open Go Go.Proofs.YthfpmipeejjogaaGreatDoor.SL Go.Proofs.YthfpmipeejjogaaGreatDoor.G Go.Proofs.YthfpmipeejjogaaGreatDoor.Pa
set_option linter.unusedSimpArgs false
set_option linter.unusedVariables false
variable {B : World} {ro σ σ' : AH} {tag tag' : Nat → Nat}
theorem partsN2_ok {s : ByteArray} {Q : Sl → Int → AH → Prop} (r : Nat) (g : Glob ro) (hs : SL.Sep ro σ) (hnone : parts (L s) = none → ∀ tag' σ', Step [] ro tag σ tag' σ' → Q ⟨none, 0, 0⟩ 20 σ')
    (hsome : ∀ ps, parts (L s) = some ps → ∀ sl tag' σ', Step [] ro tag σ tag' σ' → Row tag' σ' r 9 sl (ps.map Pa.vS) → Q sl 0 σ') : c_path_Parts B ro s σ Q := by
  have base : c_path_Parts B ro s (fun _ => none) (fun sl e σ' => (parts (L s) = none ∧ e = 20 ∧ sl = ⟨none, 0, 0⟩) ∨ ∃ ps tag', parts (L s) = some ps ∧ e = 0 ∧ Row tag' σ' r 9 sl (ps.map Pa.vS)) :=
    Pa.partsN_ok (tag := fun _ => 0) r g (fun h _ => .inl ⟨h, rfl, rfl⟩) fun ps h sl tag' σ' _ hr => .inr ⟨ps, tag', h, rfl, hr⟩
  have fr := c_path_Parts_frame (ψ := σ) base (fun b o h => by cases h)
  have e : join (fun _ => none) σ = σ := by funext b; rfl
  rw [e] at fr
  refine c_path_Parts_mono fr ?_
  rintro sl ev σ' hsep ⟨τ, rfl, hd, hq⟩
  have keep : ∀ (tg : Nat → Nat), (∀ b, τ b = none → tg b = tag b) → Step [] ro tag σ tg (join τ σ) := fun tg htg => by
    have hn : ∀ b o, σ b = some o → τ b = none := fun b o ho => by
      cases h : τ b with
      | none => rfl
      | some x => have := hd b x h; rw [ho] at this; cases this
    refine ⟨fun b o ho _ => ⟨htg b (hn b o ho), join_right hd ho⟩, fun b o ho => ⟨htg b (hn b o ho), o, join_right hd ho⟩, hsep⟩
  rcases hq with ⟨h, rfl, rfl⟩ | ⟨ps, tg, h, rfl, hr⟩
  · exact hnone h tag _ (keep tag fun _ _ => rfl)
  · refine hsome ps h sl (fun b => if (τ b).isSome then tg b else tag b) _ (keep _ fun b hb => by simp [hb]) ?_
    rcases hr with h | ⟨b, cs, ha, ht, hb, hx⟩
    · exact .inl h
    · exact .inr ⟨b, cs, ha, by simp [hb, ht], by unfold join; rw [hb], hx⟩

/-- Home of whatever text -/
theorem homeX_ok {s : ByteArray} {Q : ByteArray → Int → AH → Prop} (g : Glob ro) (hQ : ∀ e tag' σ', Step [] ro tag σ tag' σ' → Q (S ((homeOf (L s)).getD [])) e σ') : c_path_Home B ro s σ Q := by
  cases hp : parts (L s) with
  | some ps => exact home_ok g hp fun tag' σ' st => hQ 0 tag' σ' st
  | none =>
    refine path_Home_ok fun hs => ?_
    unfold f_path_Home
    refine partsN2_ok (tag := tag) 0 g hs (fun h tag1 σ1 st1 => ?_) fun ps' h => by rw [hp] at h; cases h
    rw [if_pos (by rfl)]
    have := hQ 20 tag1 σ1 st1
    unfold homeOf at this
    rw [hp] at this
    exact this
set_option maxRecDepth 100000 in
/-- Delete, the map's block told -/
theorem deleteM_ok {r T M : Nat} {bs : List Nat} {st : St} {p : ByteArray} {v : Int} {Q : Int → AH → Prop} (g : Glob ro) (hr : r < 64) (hr6 : r ≠ 6) (hr0 : r ≠ 0) (hA : TreeAt tag σ r T M bs st)
    (hup : ∀ u n, parent (L p) = some u → st.lookup (L p) = some n → ∃ m, st.lookup u = some m)
    (hQ : ∀ tag' σ' bs', StepC r ro tag σ tag' σ' → TreeAt tag' σ' r T M bs' (remove st (L p) v).1 → Q (remove st (L p) v).2 σ') : c_ztree_Tree_Delete B ro (some ⟨T, 0, none⟩) p v σ Q := by
  refine ztree_Tree_Delete_ok fun hs => ?_
  unfold f_ztree_Tree_Delete
  have same : ∀ e : Int, remove st (L p) v = (st, e) → Q e σ := fun e he => by
    have := hQ tag σ bs (StepC.refl hs) (by rw [he]; exact hA)
    rw [he] at this; exact this
  have hgood : L p ≠ [47] → ∀ ps, parts (L p) = some ps → ¬ (L p = [47] ∨ parts (L p) = none) := fun h1 ps h2 h3 => by
    rcases h3 with h3 | h3
    · exact h1 h3
    · rw [h2] at h3; cases h3
  refine zcheck_ok g hA hs (fun hb => ?_) (fun hne ps hps hl => ?_) (fun hne ps n hps hl hv1 hv2 => ?_) (fun hne ps i b n hps hb hp hl hv => ?_)
  · rw [if_pos (by decide)]
    exact same 20 (by unfold remove; rw [if_pos hb])
  · rw [if_pos (by decide)]
    exact same 70 (by unfold remove; rw [if_neg (hgood hne ps hps), hl])
  · rw [if_pos (by decide)]
    exact same 72 (by unfold remove; rw [if_neg (hgood hne ps hps), hl]; simp only; rw [if_pos ⟨hv1, hv2⟩])
  · rw [if_neg (by decide)]
    have hre : remove st (L p) v = if 0 < n.kids then (st, (73 : Int)) else match parent (L p) with
        | none => (st, (20 : Int))
        | some u => (delK (modN st u less) (L p), (0 : Int)) := by
      unfold remove; rw [if_neg (hgood hne ps hps), hl]; simp only; rw [if_neg (by omega)]; all_goals (cases parent (L p) <;> rfl)
    obtain ⟨s, hn, hd⟩ := hA.nodes i b _ hb hp
    obtain ⟨q, hq, hg⟩ := hn.ptr hs (by simp)
    cases hq
    refine ⟨_, rfl, n.kids, hg 3 _ rfl, ?_⟩
    by_cases h1 : 0 < n.kids
    · rw [if_pos h1]
      exact same 73 (by rw [hre, if_pos h1])
    · rw [if_neg h1]
      rw [if_neg h1] at hre
      refine parent_ok g (fun hnone => ?_) (fun u hu => ?_)
      · obtain ⟨u, hu⟩ := parent_some hps hne
        rw [hu] at hnone; cases hnone
      · rw [hu] at hre
        simp only at hre
        obtain ⟨m, hm⟩ := hup u n hu hl
        refine ⟨_, rfl, _, Row.cell1 hA.cell hs, ?_⟩
        refine awp_lookup_str hA.map hs u126 u9 ty129 ?_
        rcases kv_lookup st bs u hA.len with ⟨a, e⟩ | ⟨j, c, m', c1, c2, c3, e⟩
        · rw [hm] at a; cases a
        · rw [e]
          refine ⟨some ⟨c, 0, none⟩, rfl, ?_⟩
          obtain ⟨s2, hn2, hd2⟩ := hA.nodes j c _ c1 c2
          obtain ⟨q2, hq2, hg2⟩ := hn2.ptr hs (by simp)
          cases hq2
          refine ⟨_, rfl, m'.kids, hg2 3 _ rfl, _, rfl, ?_⟩
          refine hn2.st (i := 3) hs rfl (by simp) rfl fun σ1 st1 r1 => ?_
          have hA1 := hA.write (n' := less m') hr hr6 c1 c2 st1 ⟨s2, r1, hd2.keep st1 (by simp; omega)⟩
          rw [← modN_set hA.keys c2 less] at hA1
          refine ⟨_, rfl, _, Row.cell1 hA1.cell st1.sep, ?_⟩
          rw [← S_L p]
          refine awp_delete_str hA1.map st1.sep u126 u9 fun σ2 st2 m2 => ⟨rfl, ?_⟩
          have hA2 := hA1.rem hr hr6 hb (modN_get hp (parent_ne hu)) st2 m2
          have hres := hQ tag σ2 _ ((st1.c (by simp; omega)).trans (st2.c (by simp; omega))) (by rw [hre]; exact hA2)
          rw [hre] at hres
          exact hres

end Go.Proofs.YthfpmipeejjogaaGreatDoor.Zt
