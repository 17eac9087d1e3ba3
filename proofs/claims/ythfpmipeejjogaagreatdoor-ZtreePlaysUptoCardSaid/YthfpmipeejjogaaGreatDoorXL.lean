/- GR7 -/
import Derived.Test.YthfpmipeejjogaaGreatDoorXK
/- Functions as predicate transformers, and the proofs that the code does what they tell: printed by wip/tools/gen.py. -/
namespace Go.Proofs.YthfpmipeejjogaaGreatDoor.G
open Go Go.Proofs.YthfpmipeejjogaaGreatDoor.SL
set_option linter.unusedVariables false
set_option linter.unusedSimpArgs false

def f_ref07_New (B : World) (ro : AH) (σ : AH) (Q : Option Addr → AH → Prop) : Prop :=
 nw ro σ (.cells #[.string (⟨#[47]⟩ : ByteArray), Sl.v (⟨none, 0, 0⟩ : Sl), .int .i64 0, .int .i64 0, .int .i64 0] 159) fun x2_1 σ =>
 nw ro σ (.cells #[Sl.v (⟨some ⟨x2_1, 0, none⟩, 1, 1⟩ : Sl)] 157) fun x4_2 σ =>
 Q (some ⟨x4_2, 0, none⟩) σ

set_option maxRecDepth 100000 in
set_option maxHeartbeats 4000000 in
theorem ref07_New_ok {B : World} {ro : AH} {σ : AH} {Q : Option Addr → AH → Prop} (h : Sep ro σ → f_ref07_New B ro σ Q) : c_ref07_New B ro σ Q := by
  refine ACalls.of_sep fun hsep => ?_
  replace h := h hsep
  refine ACalls.of_body (args := []) Tryz.func31 rfl (by rw [Tryz.ntmps31]; simp) ?_
  rw [Tryz.ntmps31]
  unfold f_ref07_New at h
  refine AW.seq ?_
  refine AW.reg ?_
  refine Lp (V_asg rfl rfl) rfl rfl ?_
  refine Lnil ?_
  refine thenN ?_
  refine AW.seq ?_
  refine AW.reg ?_
  refine Lp (V_bld (vs := [(0, .string (⟨#[47]⟩ : ByteArray))]) (cs := #[.string (⟨#[47]⟩ : ByteArray), Sl.v (⟨none, 0, 0⟩ : Sl), .int .i64 0, .int .i64 0, .int .i64 0]) rfl Tryz.underlying159 ty159 pl159 rfl rfl) rfl rfl ?_
  refine Ls rfl rfl (X_new (A_bsl (vs := [(0, .agg #[.string (⟨#[47]⟩ : ByteArray), Sl.v (⟨none, 0, 0⟩ : Sl), .int .i64 0, .int .i64 0, .int .i64 0])]) (cs := #[.string (⟨#[47]⟩ : ByteArray), Sl.v (⟨none, 0, 0⟩ : Sl), .int .i64 0, .int .i64 0, .int .i64 0]) rfl Tryz.underlying155 ty159 (by decide) rfl rfl) fun x2_1 g1 g2 => ?_)
  replace h := h x2_1 g1 g2
  refine Lp (V_bld (vs := [(0, Sl.v (⟨some ⟨x2_1, 0, none⟩, 1, 1⟩ : Sl))]) (cs := #[Sl.v (⟨some ⟨x2_1, 0, none⟩, 1, 1⟩ : Sl)]) rfl Tryz.underlying157 ty157 pl157 rfl rfl) rfl rfl ?_
  refine Ls rfl rfl (X_new (A_box rfl rfl) fun x4_2 g1 g2 => ?_)
  replace h := h x4_2 g1 g2
  refine Lp (V_asg rfl rfl) rfl rfl ?_
  refine Lnil ?_
  refine thenN ?_
  refine AW.ret ?_
  exact bR1 Tryz.results31 rfl ⟨_, rfl, h⟩

def j24_ref07_Tree_Create (B : World) (ro : AH) (a0 : Option Addr) (x1_14 : ByteArray) (Q : ByteArray → Int → AH → Prop) (x15_25 : Sl) (σ : AH) : Prop :=
 ∃ p137_26 : Addr, a0 = some p137_26 ∧
 stN p137_26 (fun σ =>
  Q x1_14 0 σ) [Sl.v x15_25] 0 σ

def j21_ref07_Tree_Create (B : World) (ro : AH) (a0 : Option Addr) (a2 : Sl) (a3 : Int) (x1_14 : ByteArray) (Q : ByteArray → Int → AH → Prop) (x15_22 : Sl) (x16_23 : Bool) (σ : AH) : Prop :=
 if ¬ (x16_23 = true) then
  c_ref01_Copy B ro a2 σ fun x130_27 σ =>
  nw ro σ (.cells #[.string x1_14, Sl.v x130_27, .int .i64 0, .int .i64 0, .int .i64 a3] 159) fun x133_28 σ =>
  awp Tryz.prog ro (Builtin.append_ #[155, 155] 155 #[Sl.v x15_22, Sl.v (⟨some ⟨x133_28, 0, none⟩, 1, 1⟩ : Sl)]) (fun v σ => ∃ (x134_29 : Sl), v = Sl.v x134_29 ∧
   j24_ref07_Tree_Create B ro a0 x1_14 Q x134_29 σ) σ
 else
 j24_ref07_Tree_Create B ro a0 x1_14 Q x15_22 σ

def j36_ref07_Tree_Create (B : World) (ro : AH) (a0 : Option Addr) (a2 : Sl) (a3 : Int) (x1_14 : ByteArray) (x17_33 : Int) (Q : ByteArray → Int → AH → Prop) (Y30 : (Sl × Bool × Int) → AH → Prop) (x15_37 : Sl) (x16_38 : Bool) (σ : AH) : Prop :=
 ∃ p117_39 : Addr, a0 = some p117_39 ∧
 ∃ (x119_40 : Sl), acell ro σ p117_39 = some (Sl.v x119_40) ∧
 ∃ p121_41 : Addr, x119_40.a = some p121_41 ∧ (0 : Int) ≤ x17_33 ∧ x17_33 < (x119_40.len : Int) ∧
 ∃ (x122_42a : ByteArray) (x122_42b : Sl) (x122_42c : Int) (x122_42d : Int) (x122_42e : Int), cellsAt ro σ (p121_41.add (Int.toNat x17_33 * 5)) 0 [.string x122_42a, Sl.v x122_42b, .int .i64 x122_42c, .int .i64 x122_42d, .int .i64 x122_42e] ∧
 nw ro σ (.cells #[.string x122_42a, Sl.v x122_42b, .int .i64 x122_42c, .int .i64 x122_42d, .int .i64 x122_42e] 159) fun x123_43 σ =>
 awp Tryz.prog ro (Builtin.append_ #[155, 155] 155 #[Sl.v x15_37, Sl.v (⟨some ⟨x123_43, 0, none⟩, 1, 1⟩ : Sl)]) (fun v σ => ∃ (x124_44 : Sl), v = Sl.v x124_44 ∧
  Y30 (x124_44, x16_38, IntKind.i64.wrap (x17_33 + 1)) σ) σ

def j45_ref07_Tree_Create (B : World) (ro : AH) (a0 : Option Addr) (a2 : Sl) (a3 : Int) (x1_14 : ByteArray) (x15_31 : Sl) (x16_32 : Bool) (x17_33 : Int) (Q : ByteArray → Int → AH → Prop) (Y30 : (Sl × Bool × Int) → AH → Prop) (x106_46 : Bool) (σ : AH) : Prop :=
 if x106_46 = true then
  c_ref01_Copy B ro a2 σ fun x110_47 σ =>
  nw ro σ (.cells #[.string x1_14, Sl.v x110_47, .int .i64 0, .int .i64 0, .int .i64 a3] 159) fun x113_48 σ =>
  awp Tryz.prog ro (Builtin.append_ #[155, 155] 155 #[Sl.v x15_31, Sl.v (⟨some ⟨x113_48, 0, none⟩, 1, 1⟩ : Sl)]) (fun v σ => ∃ (x114_49 : Sl), v = Sl.v x114_49 ∧
   j36_ref07_Tree_Create B ro a0 a2 a3 x1_14 x17_33 Q Y30 x114_49 true σ) σ
 else
 j36_ref07_Tree_Create B ro a0 a2 a3 x1_14 x17_33 Q Y30 x15_31 x16_32 σ

def l30_ref07_Tree_Create (B : World) (ro : AH) (a0 : Option Addr) (a2 : Sl) (a3 : Int) (x1_14 : ByteArray) (Q : ByteArray → Int → AH → Prop) : (Sl × Bool × Int) → AH → ((Sl × Bool × Int) → AH → Prop) → Prop := fun ⟨x15_31, x16_32, x17_33⟩ σ Y30 =>
 ∃ p86_34 : Addr, a0 = some p86_34 ∧
 ∃ (x88_35 : Sl), acell ro σ p86_34 = some (Sl.v x88_35) ∧
 if x17_33 < (x88_35.len : Int) then
  if ¬ (x16_32 = true) then
   ∃ p98_50 : Addr, a0 = some p98_50 ∧
   ∃ (x100_51 : Sl), acell ro σ p98_50 = some (Sl.v x100_51) ∧
   ∃ p102_52 : Addr, x100_51.a = some p102_52 ∧ (0 : Int) ≤ x17_33 ∧ x17_33 < (x100_51.len : Int) ∧
   ∃ (x104_53 : ByteArray), acell ro σ (p102_52.add (Int.toNat x17_33 * 5)) = some (.string x104_53) ∧
   j45_ref07_Tree_Create B ro a0 a2 a3 x1_14 x15_31 x16_32 x17_33 Q Y30 (lessS x1_14 x104_53) σ
  else
  j45_ref07_Tree_Create B ro a0 a2 a3 x1_14 x15_31 x16_32 x17_33 Q Y30 false σ
 else
 j21_ref07_Tree_Create B ro a0 a2 a3 x1_14 Q x15_31 x16_32 σ

def j13_ref07_Tree_Create (B : World) (ro : AH) (a0 : Option Addr) (a2 : Sl) (a3 : Int) (x32_4 : Int) (Q : ByteArray → Int → AH → Prop) (x1_14 : ByteArray) (σ : AH) : Prop :=
 c_ref07_Tree_Find B ro a0 x1_14 σ fun x71_15 σ =>
 if 0 ≤ x71_15 then
  Q (⟨#[]⟩ : ByteArray) 71 σ
 else
 ∃ p74_16 : Addr, a0 = some p74_16 ∧
 ∃ (x76_17 : Sl), acell ro σ p74_16 = some (Sl.v x76_17) ∧
 ∃ p78_18 : Addr, x76_17.a = some p78_18 ∧ (0 : Int) ≤ x32_4 ∧ x32_4 < (x76_17.len : Int) ∧
 ∃ (x80_19 : Int), acell ro σ ((p78_18.add (Int.toNat x32_4 * 5)).add 3) = some (.int .i64 x80_19) ∧
 ∃ p82_20 : Addr, x76_17.a = some p82_20 ∧ (0 : Int) ≤ x32_4 ∧ x32_4 < (x76_17.len : Int) ∧
 stN ((p82_20.add (Int.toNat x32_4 * 5)).add 3) (fun σ =>
  lfpD (l30_ref07_Tree_Create B ro a0 a2 a3 x1_14 Q ) ((⟨none, 0, 0⟩ : Sl), false, 0) σ) [.int .i64 (IntKind.i64.wrap (x80_19 + 1))] 0 σ

def f_ref07_Tree_Create (B : World) (ro : AH) (a0 : Option Addr) (a1 : ByteArray) (a2 : Sl) (a3 : Int) (a4 : Bool) (σ : AH) (Q : ByteArray → Int → AH → Prop) : Prop :=
 c_ref02_Parent B ro a1 σ fun x20_1 x20_2 σ =>
 if ¬ (x20_2 = true) then
  Q (⟨#[]⟩ : ByteArray) 20 σ
 else
 if 256 < (a2.len : Int) then
  Q (⟨#[]⟩ : ByteArray) 75 σ
 else
 c_ref01_Bad B ro a3 σ fun x29_3 σ =>
 if x29_3 = true then
  Q (⟨#[]⟩ : ByteArray) 10 σ
 else
 c_ref07_Tree_Find B ro a0 x20_1 σ fun x32_4 σ =>
 if x32_4 < 0 then
  Q (⟨#[]⟩ : ByteArray) 70 σ
 else
 ∃ p36_5 : Addr, a0 = some p36_5 ∧
 ∃ (x38_6 : Sl), acell ro σ p36_5 = some (Sl.v x38_6) ∧
 ∃ p40_7 : Addr, x38_6.a = some p40_7 ∧ (0 : Int) ≤ x32_4 ∧ x32_4 < (x38_6.len : Int) ∧
 ∃ (x42_8 : Int), acell ro σ ((p40_7.add (Int.toNat x32_4 * 5)).add 4) = some (.int .i64 x42_8) ∧
 if ¬ (x42_8 = 0) then
  Q (⟨#[]⟩ : ByteArray) 74 σ
 else
 ∃ p45_9 : Addr, a0 = some p45_9 ∧
 ∃ (x47_10 : Sl), acell ro σ p45_9 = some (Sl.v x47_10) ∧
 ∃ p49_11 : Addr, x47_10.a = some p49_11 ∧ (0 : Int) ≤ x32_4 ∧ x32_4 < (x47_10.len : Int) ∧
 ∃ (x51_12 : Int), acell ro σ ((p49_11.add (Int.toNat x32_4 * 5)).add 3) = some (.int .i64 x51_12) ∧
 if 9999999999 < x51_12 then
  Q (⟨#[]⟩ : ByteArray) 76 σ
 else
 if a4 = true then
  ∃ p57_54 : Addr, a0 = some p57_54 ∧
  ∃ (x59_55 : Sl), acell ro σ p57_54 = some (Sl.v x59_55) ∧
  ∃ p61_56 : Addr, x59_55.a = some p61_56 ∧ (0 : Int) ≤ x32_4 ∧ x32_4 < (x59_55.len : Int) ∧
  ∃ (x63_57 : Int), acell ro σ ((p61_56.add (Int.toNat x32_4 * 5)).add 3) = some (.int .i64 x63_57) ∧
  c_ref02_Suffix B ro a1 x63_57 σ fun x64_58 x64_59 σ =>
  if ¬ (x64_59 = true) then
   Q (⟨#[]⟩ : ByteArray) 20 σ
  else
  j13_ref07_Tree_Create B ro a0 a2 a3 x32_4 Q x64_58 σ
 else
 j13_ref07_Tree_Create B ro a0 a2 a3 x32_4 Q a1 σ

set_option maxRecDepth 100000 in
set_option maxHeartbeats 4000000 in
theorem ref07_Tree_Create_ok {B : World} {ro : AH} {a0 : Option Addr} {a1 : ByteArray} {a2 : Sl} {a3 : Int} {a4 : Bool} {σ : AH} {Q : ByteArray → Int → AH → Prop} (h : Sep ro σ → f_ref07_Tree_Create B ro a0 a1 a2 a3 a4 σ Q) : c_ref07_Tree_Create B ro a0 a1 a2 a3 a4 σ Q := by
  refine ACalls.of_sep fun hsep => ?_
  replace h := h hsep
  refine ACalls.of_body (args := [.pointer a0, .string a1, Sl.v a2, .int .i64 a3, .bool a4]) Tryz.func32 rfl (by rw [Tryz.ntmps32]; simp) ?_
  rw [Tryz.ntmps32]
  unfold f_ref07_Tree_Create at h
  refine AW.seq ?_
  refine AW.reg ?_
  refine Lp (V_asg rfl rfl) rfl rfl ?_
  refine Lp (V_asg rfl rfl) rfl rfl ?_
  refine Lnil ?_
  refine thenN ?_
  refine AW.seq ?_
  refine AW.reg ?_
  refine Lp (V_move rfl rfl) rfl rfl ?_
  refine Ls rfl rfl (X_call rfl Tryz.func19 rfl rfl rfl (ACalls.mono h ?_))
  rintro v σ ⟨x20_1, x20_2, rfl, h⟩
  refine Lp (V_move rfl rfl) rfl rfl ?_
  refine Lp (V_ext rfl rfl rfl) rfl rfl ?_
  refine Lp (V_ext rfl rfl rfl) rfl rfl ?_
  refine Lp (V_asg rfl rfl) rfl rfl ?_
  refine Lp (V_asg rfl rfl) rfl rfl ?_
  refine Lnil ?_
  refine thenN ?_
  refine AW.seq ?_
  refine AW.seq ?_
  refine AW.reg ?_
  refine Lp (V_move rfl rfl) rfl rfl ?_
  refine Lp (V_not rfl rfl) rfl rfl ?_
  refine Lnil ?_
  refine thenN ?_
  refine AW.iff rfl (bnot_iff Iff.rfl) h (fun h => ?_) (fun h => ?_)
  · refine AW.seq ?_
    refine AW.reg ?_
    refine Lp (V_asg rfl rfl) rfl rfl ?_
    refine Lp (V_asg rfl rfl) rfl rfl ?_
    refine Lnil ?_
    refine thenN ?_
    refine AW.ret ?_
    refine thenR ?_
    exact bR2 Tryz.results32 rfl rfl ⟨_, _, rfl, h⟩
  refine AW.skip ?_
  refine thenN ?_
  refine AW.seq ?_
  refine AW.seq ?_
  refine AW.reg ?_
  refine Lp (V_move rfl rfl) rfl rfl ?_
  refine Lp (V_lenL rfl rfl Tryz.underlying30 rfl rfl) rfl rfl ?_
  refine Lp (V_gtr rfl rfl rfl) rfl rfl ?_
  refine Lnil ?_
  refine thenN ?_
  refine AW.iff rfl decide_eq_true_iff h (fun h => ?_) (fun h => ?_)
  · refine AW.seq ?_
    refine AW.reg ?_
    refine Lp (V_asg rfl rfl) rfl rfl ?_
    refine Lp (V_asg rfl rfl) rfl rfl ?_
    refine Lnil ?_
    refine thenN ?_
    refine AW.ret ?_
    refine thenR ?_
    exact bR2 Tryz.results32 rfl rfl ⟨_, _, rfl, h⟩
  refine AW.skip ?_
  refine thenN ?_
  refine AW.seq ?_
  refine AW.seq ?_
  refine AW.reg ?_
  refine Lp (V_move rfl rfl) rfl rfl ?_
  refine Ls rfl rfl (X_call rfl Tryz.func92 rfl rfl rfl (ACalls.mono h ?_))
  rintro v σ ⟨x29_3, rfl, h⟩
  refine Lnil ?_
  refine thenN ?_
  refine AW.iff rfl Iff.rfl h (fun h => ?_) (fun h => ?_)
  · refine AW.seq ?_
    refine AW.reg ?_
    refine Lp (V_asg rfl rfl) rfl rfl ?_
    refine Lp (V_asg rfl rfl) rfl rfl ?_
    refine Lnil ?_
    refine thenN ?_
    refine AW.ret ?_
    refine thenR ?_
    exact bR2 Tryz.results32 rfl rfl ⟨_, _, rfl, h⟩
  refine AW.skip ?_
  refine thenN ?_
  refine AW.seq ?_
  refine AW.reg ?_
  refine Lp (V_move rfl rfl) rfl rfl ?_
  refine Lp (V_move rfl rfl) rfl rfl ?_
  refine Ls rfl rfl (X_call rfl Tryz.func84 rfl rfl rfl (ACalls.mono h ?_))
  rintro v σ ⟨x32_4, rfl, h⟩
  refine Lp (V_asg rfl rfl) rfl rfl ?_
  refine Lnil ?_
  refine thenN ?_
  refine AW.seq ?_
  refine AW.seq ?_
  refine AW.reg ?_
  refine Lp (V_move rfl rfl) rfl rfl ?_
  refine Lp (V_lss rfl rfl rfl) rfl rfl ?_
  refine Lnil ?_
  refine thenN ?_
  refine AW.iff rfl decide_eq_true_iff h (fun h => ?_) (fun h => ?_)
  · refine AW.seq ?_
    refine AW.reg ?_
    refine Lp (V_asg rfl rfl) rfl rfl ?_
    refine Lp (V_asg rfl rfl) rfl rfl ?_
    refine Lnil ?_
    refine thenN ?_
    refine AW.ret ?_
    refine thenR ?_
    exact bR2 Tryz.results32 rfl rfl ⟨_, _, rfl, h⟩
  refine AW.skip ?_
  refine thenN ?_
  refine AW.seq ?_
  refine AW.seq ?_
  refine AW.reg ?_
  refine Lp (V_move rfl rfl) rfl rfl ?_
  obtain ⟨p36_5, hc, h⟩ := h
  refine Lp (V_nil rfl (by rw [← hc]; rfl)) rfl rfl ?_
  refine Lp (V_fld rfl Tryz.underlying157 rfl ty155 (by decide) rfl) rfl rfl ?_
  obtain ⟨x38_6, hc, h⟩ := h
  refine Ls rfl rfl (X_ld rfl Tryz.underlying155 rfl rfl hc ?_)
  refine Lp (V_move rfl rfl) rfl rfl ?_
  obtain ⟨p40_7, ha, h0, h1, h⟩ := h
  refine Lp (V_ixA rfl Tryz.underlying155 ty159 (ixL rfl ha) rfl h0 h1) rfl rfl ?_
  refine Lp (V_fld rfl Tryz.underlying159 rfl ty3 (by decide) rfl) rfl rfl ?_
  obtain ⟨x42_8, hc, h⟩ := h
  refine Ls rfl rfl (X_ld rfl Tryz.underlying3 rfl rfl hc ?_)
  refine Lp (V_neq rfl rfl rfl) rfl rfl ?_
  refine Lnil ?_
  refine thenN ?_
  refine AW.iff rfl (bnot_iff decide_eq_true_iff) h (fun h => ?_) (fun h => ?_)
  · refine AW.seq ?_
    refine AW.reg ?_
    refine Lp (V_asg rfl rfl) rfl rfl ?_
    refine Lp (V_asg rfl rfl) rfl rfl ?_
    refine Lnil ?_
    refine thenN ?_
    refine AW.ret ?_
    refine thenR ?_
    exact bR2 Tryz.results32 rfl rfl ⟨_, _, rfl, h⟩
  refine AW.skip ?_
  refine thenN ?_
  refine AW.seq ?_
  refine AW.seq ?_
  refine AW.reg ?_
  refine Lp (V_move rfl rfl) rfl rfl ?_
  obtain ⟨p45_9, hc, h⟩ := h
  refine Lp (V_nil rfl (by rw [← hc]; rfl)) rfl rfl ?_
  refine Lp (V_fld rfl Tryz.underlying157 rfl ty155 (by decide) rfl) rfl rfl ?_
  obtain ⟨x47_10, hc, h⟩ := h
  refine Ls rfl rfl (X_ld rfl Tryz.underlying155 rfl rfl hc ?_)
  refine Lp (V_move rfl rfl) rfl rfl ?_
  obtain ⟨p49_11, ha, h0, h1, h⟩ := h
  refine Lp (V_ixA rfl Tryz.underlying155 ty159 (ixL rfl ha) rfl h0 h1) rfl rfl ?_
  refine Lp (V_fld rfl Tryz.underlying159 rfl ty3 (by decide) rfl) rfl rfl ?_
  obtain ⟨x51_12, hc, h⟩ := h
  refine Ls rfl rfl (X_ld rfl Tryz.underlying3 rfl rfl hc ?_)
  refine Lp (V_gtr rfl rfl rfl) rfl rfl ?_
  refine Lnil ?_
  refine thenN ?_
  refine AW.iff rfl decide_eq_true_iff h (fun h => ?_) (fun h => ?_)
  · refine AW.seq ?_
    refine AW.reg ?_
    refine Lp (V_asg rfl rfl) rfl rfl ?_
    refine Lp (V_asg rfl rfl) rfl rfl ?_
    refine Lnil ?_
    refine thenN ?_
    refine AW.ret ?_
    refine thenR ?_
    exact bR2 Tryz.results32 rfl rfl ⟨_, _, rfl, h⟩
  refine AW.skip ?_
  refine thenN ?_
  refine AW.seqJ (fun fr σ => ∃ (x1_14 : ByteArray), FrLe [(0, .pointer a0), (2, Sl.v a2), (3, .int .i64 a3), (14, .int .i64 x32_4), (1, .string x1_14)] fr ∧ j13_ref07_Tree_Create B ro a0 a2 a3 x32_4 Q x1_14 σ) ?_ ?_
  rotate_left
  · refine AW.seq ?_
    refine AW.reg ?_
    refine Lp (V_move rfl rfl) rfl rfl ?_
    refine Lnil ?_
    refine thenN ?_
    refine AW.iff rfl Iff.rfl h (fun h => ?_) (fun h => ?_)
    rotate_left
    · refine AW.skip ?_
      refine thenN ?_
      exact ⟨_, (FrLe.cons rfl (FrLe.cons rfl (FrLe.cons rfl (FrLe.cons rfl (FrLe.cons rfl (FrLe.nil _)))))), h⟩
    refine AW.seq ?_
    refine AW.reg ?_
    refine Lp (V_move rfl rfl) rfl rfl ?_
    refine Lp (V_move rfl rfl) rfl rfl ?_
    obtain ⟨p57_54, hc, h⟩ := h
    refine Lp (V_nil rfl (by rw [← hc]; rfl)) rfl rfl ?_
    refine Lp (V_fld rfl Tryz.underlying157 rfl ty155 (by decide) rfl) rfl rfl ?_
    obtain ⟨x59_55, hc, h⟩ := h
    refine Ls rfl rfl (X_ld rfl Tryz.underlying155 rfl rfl hc ?_)
    refine Lp (V_move rfl rfl) rfl rfl ?_
    obtain ⟨p61_56, ha, h0, h1, h⟩ := h
    refine Lp (V_ixA rfl Tryz.underlying155 ty159 (ixL rfl ha) rfl h0 h1) rfl rfl ?_
    refine Lp (V_fld rfl Tryz.underlying159 rfl ty3 (by decide) rfl) rfl rfl ?_
    obtain ⟨x63_57, hc, h⟩ := h
    refine Ls rfl rfl (X_ld rfl Tryz.underlying3 rfl rfl hc ?_)
    refine Ls rfl rfl (X_call rfl Tryz.func93 rfl rfl rfl (ACalls.mono h ?_))
    rintro v σ ⟨x64_58, x64_59, rfl, h⟩
    refine Lp (V_move rfl rfl) rfl rfl ?_
    refine Lp (V_ext rfl rfl rfl) rfl rfl ?_
    refine Lp (V_ext rfl rfl rfl) rfl rfl ?_
    refine Lp (V_asg rfl rfl) rfl rfl ?_
    refine Lp (V_asg rfl rfl) rfl rfl ?_
    refine Lnil ?_
    refine thenN ?_
    refine AW.seq ?_
    refine AW.reg ?_
    refine Lp (V_move rfl rfl) rfl rfl ?_
    refine Lp (V_not rfl rfl) rfl rfl ?_
    refine Lnil ?_
    refine thenN ?_
    refine AW.iff rfl (bnot_iff Iff.rfl) h (fun h => ?_) (fun h => ?_)
    rotate_left
    · refine AW.skip ?_
      refine thenN ?_
      exact ⟨_, (FrLe.cons rfl (FrLe.cons rfl (FrLe.cons rfl (FrLe.cons rfl (FrLe.cons rfl (FrLe.nil _)))))), h⟩
    refine AW.seq ?_
    refine AW.reg ?_
    refine Lp (V_asg rfl rfl) rfl rfl ?_
    refine Lp (V_asg rfl rfl) rfl rfl ?_
    refine Lnil ?_
    refine thenN ?_
    refine AW.ret ?_
    refine thenR ?_
    exact bR2 Tryz.results32 rfl rfl ⟨_, _, rfl, h⟩
  rintro fr σ ⟨x1_14, hl, h⟩
  refine AW.weaken ?_ hl (HLe.refl _)
  unfold j13_ref07_Tree_Create at h
  refine AW.seq ?_
  refine AW.seq ?_
  refine AW.reg ?_
  refine Lp (V_move rfl rfl) rfl rfl ?_
  refine Lp (V_move rfl rfl) rfl rfl ?_
  refine Ls rfl rfl (X_call rfl Tryz.func84 rfl rfl rfl (ACalls.mono h ?_))
  rintro v σ ⟨x71_15, rfl, h⟩
  refine Lp (V_geq rfl rfl rfl) rfl rfl ?_
  refine Lnil ?_
  refine thenN ?_
  refine AW.iff rfl decide_eq_true_iff h (fun h => ?_) (fun h => ?_)
  · refine AW.seq ?_
    refine AW.reg ?_
    refine Lp (V_asg rfl rfl) rfl rfl ?_
    refine Lp (V_asg rfl rfl) rfl rfl ?_
    refine Lnil ?_
    refine thenN ?_
    refine AW.ret ?_
    refine thenR ?_
    exact bR2 Tryz.results32 rfl rfl ⟨_, _, rfl, h⟩
  refine AW.skip ?_
  refine thenN ?_
  refine AW.seq ?_
  refine AW.reg ?_
  refine Lp (V_move rfl rfl) rfl rfl ?_
  obtain ⟨p74_16, hc, h⟩ := h
  refine Lp (V_nil rfl (by rw [← hc]; rfl)) rfl rfl ?_
  refine Lp (V_fld rfl Tryz.underlying157 rfl ty155 (by decide) rfl) rfl rfl ?_
  obtain ⟨x76_17, hc, h⟩ := h
  refine Ls rfl rfl (X_ld rfl Tryz.underlying155 rfl rfl hc ?_)
  refine Lp (V_move rfl rfl) rfl rfl ?_
  obtain ⟨p78_18, ha, h0, h1, h⟩ := h
  refine Lp (V_ixA rfl Tryz.underlying155 ty159 (ixL rfl ha) rfl h0 h1) rfl rfl ?_
  refine Lp (V_fld rfl Tryz.underlying159 rfl ty3 (by decide) rfl) rfl rfl ?_
  obtain ⟨x80_19, hc, h⟩ := h
  refine Ls rfl rfl (X_ld rfl Tryz.underlying3 rfl rfl hc ?_)
  refine Lp (V_add rfl rfl rfl) rfl rfl ?_
  obtain ⟨p82_20, ha, h0, h1, h⟩ := h
  refine Lp (V_ixA rfl Tryz.underlying155 ty159 (ixL rfl ha) rfl h0 h1) rfl rfl ?_
  refine Lp (V_fld rfl Tryz.underlying159 rfl ty3 (by decide) rfl) rfl rfl ?_
  refine Ls rfl rfl (X_st rfl ty3 rfl rfl rfl rfl (stN_mono h fun σ h => ?_))
  refine Lnil ?_
  refine thenN ?_
  refine AW.seq ?_
  refine AW.reg ?_
  refine Lp (V_asg rfl rfl) rfl rfl ?_
  refine Lnil ?_
  refine thenN ?_
  refine AW.seq ?_
  refine AW.reg ?_
  refine Lp (V_asg rfl rfl) rfl rfl ?_
  refine Lnil ?_
  refine thenN ?_
  refine AW.seqJ (fun fr σ => ∃ (x15_22 : Sl) (x16_23 : Bool), FrLe [(0, .pointer a0), (1, .string x1_14), (2, Sl.v a2), (3, .int .i64 a3), (15, Sl.v x15_22), (16, .bool x16_23)] fr ∧ j21_ref07_Tree_Create B ro a0 a2 a3 x1_14 Q x15_22 x16_23 σ) ?_ ?_
  · rintro fr σ ⟨x15_22, x16_23, hl, h⟩
    refine AW.weaken ?_ hl (HLe.refl _)
    unfold j21_ref07_Tree_Create at h
    refine AW.seqJ (fun fr σ => ∃ (x15_25 : Sl), FrLe [(0, .pointer a0), (1, .string x1_14), (15, Sl.v x15_25)] fr ∧ j24_ref07_Tree_Create B ro a0 x1_14 Q x15_25 σ) ?_ ?_
    · rintro fr σ ⟨x15_25, hl, h⟩
      refine AW.weaken ?_ hl (HLe.refl _)
      unfold j24_ref07_Tree_Create at h
      refine AW.seq ?_
      refine AW.reg ?_
      refine Lp (V_move rfl rfl) rfl rfl ?_
      refine Lp (V_move rfl rfl) rfl rfl ?_
      obtain ⟨p137_26, hc, h⟩ := h
      refine Lp (V_nil rfl (by rw [← hc]; rfl)) rfl rfl ?_
      refine Lp (V_fld rfl Tryz.underlying157 rfl ty155 (by decide) rfl) rfl rfl ?_
      refine Ls rfl rfl (X_st rfl ty155 rfl rfl rfl rfl (stN_mono h fun σ h => ?_))
      refine Lnil ?_
      refine thenN ?_
      refine AW.seq ?_
      refine AW.reg ?_
      refine Lp (V_move rfl rfl) rfl rfl ?_
      refine Lp (V_asg rfl rfl) rfl rfl ?_
      refine Lp (V_asg rfl rfl) rfl rfl ?_
      refine Lnil ?_
      refine thenN ?_
      refine AW.ret ?_
      exact bR2 Tryz.results32 rfl rfl ⟨_, _, rfl, h⟩
    refine AW.seq ?_
    refine AW.reg ?_
    refine Lp (V_move rfl rfl) rfl rfl ?_
    refine Lp (V_not rfl rfl) rfl rfl ?_
    refine Lnil ?_
    refine thenN ?_
    refine AW.iff rfl (bnot_iff Iff.rfl) h (fun h => ?_) (fun h => ?_)
    rotate_left
    · refine AW.skip ?_
      refine thenN ?_
      exact ⟨_, (FrLe.cons rfl (FrLe.cons rfl (FrLe.cons rfl (FrLe.nil _)))), h⟩
    refine AW.reg ?_
    refine Lp (V_move rfl rfl) rfl rfl ?_
    refine Lp (V_move rfl rfl) rfl rfl ?_
    refine Lp (V_move rfl rfl) rfl rfl ?_
    refine Ls rfl rfl (X_call rfl Tryz.func23 rfl rfl rfl (ACalls.mono h ?_))
    rintro v σ ⟨x130_27, rfl, h⟩
    refine Lp (V_move rfl rfl) rfl rfl ?_
    refine Lp (V_bld (vs := [(0, .string x1_14), (1, Sl.v x130_27), (4, .int .i64 a3)]) (cs := #[.string x1_14, Sl.v x130_27, .int .i64 0, .int .i64 0, .int .i64 a3]) rfl Tryz.underlying159 ty159 pl159 rfl rfl) rfl rfl ?_
    refine Ls rfl rfl (X_new (A_bsl (vs := [(0, .agg #[.string x1_14, Sl.v x130_27, .int .i64 0, .int .i64 0, .int .i64 a3])]) (cs := #[.string x1_14, Sl.v x130_27, .int .i64 0, .int .i64 0, .int .i64 a3]) rfl Tryz.underlying155 ty159 (by decide) rfl rfl) fun x133_28 g1 g2 => ?_)
    replace h := h x133_28 g1 g2
    refine Ls rfl rfl (X_bi (s := Builtin.append_ #[155, 155] 155 #[Sl.v x15_22, Sl.v (⟨some ⟨x133_28, 0, none⟩, 1, 1⟩ : Sl)]) rfl rfl (fun _ => rfl) (awp_mono _ h ?_))
    rintro v σ ⟨x134_29, rfl, h⟩
    refine Lp (V_asg rfl rfl) rfl rfl ?_
    refine Lnil ?_
    refine thenN ?_
    exact ⟨_, (FrLe.cons rfl (FrLe.cons rfl (FrLe.cons rfl (FrLe.nil _)))), h⟩
  refine AW.seq ?_
  refine AW.reg ?_
  refine Lp (V_asg rfl rfl) rfl rfl ?_
  refine Lnil ?_
  refine thenN ?_
  refine AW.block ?_
  refine ARound.loop (fr' := [(0, .pointer a0), (1, .string x1_14), (2, Sl.v a2), (3, .int .i64 a3), (15, Sl.v (⟨none, 0, 0⟩ : Sl)), (16, .bool false), (17, .int .i64 0)]) ?_ (FrLe.cons rfl (FrLe.cons rfl (FrLe.cons rfl (FrLe.cons rfl (FrLe.cons rfl (FrLe.cons rfl (FrLe.cons rfl (FrLe.nil _))))))))
  refine h (fun ⟨x15_31, x16_32, x17_33⟩ σ => ARound _ _ _ _ _ _ [(0, .pointer a0), (1, .string x1_14), (2, Sl.v a2), (3, .int .i64 a3), (15, Sl.v x15_31), (16, .bool x16_32), (17, .int .i64 x17_33)] σ) ?_
  rintro ⟨x15_31, x16_32, x17_33⟩ σ Y30 hY30 h
  show AW _ _ _ _ _ _ _ _
  unfold l30_ref07_Tree_Create at h
  dsimp only at h
  refine AW.seq ?_
  refine AW.seq ?_
  refine AW.reg ?_
  refine Lp (V_move rfl rfl) rfl rfl ?_
  refine Lp (V_move rfl rfl) rfl rfl ?_
  obtain ⟨p86_34, hc, h⟩ := h
  refine Lp (V_nil rfl (by rw [← hc]; rfl)) rfl rfl ?_
  refine Lp (V_fld rfl Tryz.underlying157 rfl ty155 (by decide) rfl) rfl rfl ?_
  obtain ⟨x88_35, hc, h⟩ := h
  refine Ls rfl rfl (X_ld rfl Tryz.underlying155 rfl rfl hc ?_)
  refine Lp (V_lenL rfl rfl Tryz.underlying155 rfl rfl) rfl rfl ?_
  refine Lp (V_lss rfl rfl rfl) rfl rfl ?_
  refine Lnil ?_
  refine thenN ?_
  refine AW.iff rfl decide_eq_true_iff h (fun h => ?_) (fun h => ?_)
  rotate_left
  · refine AW.exit ?_
    refine thenE ?_
    refine thenE ?_
    refine blockE ?_
    refine thenN ?_
    exact ⟨_, _, (FrLe.cons rfl (FrLe.cons rfl (FrLe.cons rfl (FrLe.cons rfl (FrLe.cons rfl (FrLe.cons rfl (FrLe.nil _))))))), h⟩
  refine AW.skip ?_
  refine thenN ?_
  refine AW.seq ?_
  refine AW.block ?_
  refine AW.seqJ (fun fr σ => ∃ (x15_37 : Sl) (x16_38 : Bool), FrLe [(0, .pointer a0), (1, .string x1_14), (2, Sl.v a2), (3, .int .i64 a3), (17, .int .i64 x17_33), (15, Sl.v x15_37), (16, .bool x16_38)] fr ∧ j36_ref07_Tree_Create B ro a0 a2 a3 x1_14 x17_33 Q Y30 x15_37 x16_38 σ) ?_ ?_
  · rintro fr σ ⟨x15_37, x16_38, hl, h⟩
    refine AW.weaken ?_ hl (HLe.refl _)
    unfold j36_ref07_Tree_Create at h
    refine AW.reg ?_
    refine Lp (V_move rfl rfl) rfl rfl ?_
    refine Lp (V_move rfl rfl) rfl rfl ?_
    obtain ⟨p117_39, hc, h⟩ := h
    refine Lp (V_nil rfl (by rw [← hc]; rfl)) rfl rfl ?_
    refine Lp (V_fld rfl Tryz.underlying157 rfl ty155 (by decide) rfl) rfl rfl ?_
    obtain ⟨x119_40, hc, h⟩ := h
    refine Ls rfl rfl (X_ld rfl Tryz.underlying155 rfl rfl hc ?_)
    refine Lp (V_move rfl rfl) rfl rfl ?_
    obtain ⟨p121_41, ha, h0, h1, h⟩ := h
    refine Lp (V_ixA rfl Tryz.underlying155 ty159 (ixL rfl ha) rfl h0 h1) rfl rfl ?_
    obtain ⟨x122_42a, x122_42b, x122_42c, x122_42d, x122_42e, hc, h⟩ := h
    refine Ls rfl rfl (X_lda rfl Tryz.underlying159 rfl ty159 rfl hc ?_)
    refine Ls rfl rfl (X_new (A_bsl (vs := [(0, .agg #[.string x122_42a, Sl.v x122_42b, .int .i64 x122_42c, .int .i64 x122_42d, .int .i64 x122_42e])]) (cs := #[.string x122_42a, Sl.v x122_42b, .int .i64 x122_42c, .int .i64 x122_42d, .int .i64 x122_42e]) rfl Tryz.underlying155 ty159 (by decide) rfl rfl) fun x123_43 g1 g2 => ?_)
    replace h := h x123_43 g1 g2
    refine Ls rfl rfl (X_bi (s := Builtin.append_ #[155, 155] 155 #[Sl.v x15_37, Sl.v (⟨some ⟨x123_43, 0, none⟩, 1, 1⟩ : Sl)]) rfl rfl (fun _ => rfl) (awp_mono _ h ?_))
    rintro v σ ⟨x124_44, rfl, h⟩
    refine Lp (V_asg rfl rfl) rfl rfl ?_
    refine Lnil ?_
    refine blockN ?_
    refine thenN ?_
    refine AW.reg ?_
    refine Lp (V_move rfl rfl) rfl rfl ?_
    refine Lp (V_add rfl rfl rfl) rfl rfl ?_
    refine Lp (V_asg rfl rfl) rfl rfl ?_
    refine Lnil ?_
    refine thenN ?_
    refine ARound.head (fr' := [(0, .pointer a0), (1, .string x1_14), (2, Sl.v a2), (3, .int .i64 a3), (15, Sl.v x124_44), (16, .bool x16_38), (17, .int .i64 (IntKind.i64.wrap (x17_33 + 1)))]) ?_ (FrLe.cons rfl (FrLe.cons rfl (FrLe.cons rfl (FrLe.cons rfl (FrLe.cons rfl (FrLe.cons rfl (FrLe.cons rfl (FrLe.nil _))))))))
    exact hY30 _ _ h
  refine AW.seq ?_
  refine AW.reg ?_
  refine Lp (V_move rfl rfl) rfl rfl ?_
  refine Lp (V_not rfl rfl) rfl rfl ?_
  refine Lp (V_move rfl rfl) rfl rfl ?_
  refine LsplitJ 11 (!x16_32) (bnot_iff Iff.rfl) h (fun fr σ => ∃ (x106_46 : Bool), FrLe [(0, .pointer a0), (1, .string x1_14), (2, Sl.v a2), (3, .int .i64 a3), (15, Sl.v x15_31), (16, .bool x16_32), (17, .int .i64 x17_33), (106, .bool x106_46)] fr ∧ j45_ref07_Tree_Create B ro a0 a2 a3 x1_14 x15_31 x16_32 x17_33 Q Y30 x106_46 σ) ?_ ?_ ?_
  · intro h e2 hk2
    refine Lypb (V_move rfl rfl) rfl rfl rfl rfl e2 ?_
    refine Lypb (V_move rfl rfl) rfl rfl rfl rfl e2 ?_
    obtain ⟨p98_50, hc, h⟩ := h
    refine Lypb (V_nil rfl (by rw [← hc]; rfl)) rfl rfl rfl rfl e2 ?_
    refine Lypb (V_fld rfl Tryz.underlying157 rfl ty155 (by decide) rfl) rfl rfl rfl rfl e2 ?_
    obtain ⟨x100_51, hc, h⟩ := h
    refine Lyb rfl rfl rfl rfl e2 (X_ld rfl Tryz.underlying155 rfl rfl hc ?_)
    refine Lypb (V_move rfl rfl) rfl rfl rfl rfl e2 ?_
    obtain ⟨p102_52, ha, h0, h1, h⟩ := h
    refine Lypb (V_ixA rfl Tryz.underlying155 ty159 (ixL rfl ha) rfl h0 h1) rfl rfl rfl rfl e2 ?_
    refine Lypb (V_fld rfl Tryz.underlying159 rfl ty9 (by decide) rfl) rfl rfl rfl rfl e2 ?_
    obtain ⟨x104_53, hc, h⟩ := h
    refine Lyb rfl rfl rfl rfl e2 (X_ld rfl Tryz.underlying9 rfl rfl hc ?_)
    refine Lypb (V_lssS rfl rfl rfl) rfl rfl rfl rfl e2 ?_
    refine Lp (V_pickT rfl (evb e2) rfl) rfl rfl ?_
    exact hk2 _ _ ⟨_, (FrLe.cons rfl (FrLe.cons rfl (FrLe.cons rfl (FrLe.cons rfl (FrLe.cons rfl (FrLe.cons rfl (FrLe.cons rfl (FrLe.cons rfl (FrLe.nil _))))))))), h⟩
  · intro h e2 hk2
    refine Ln rfl rfl rfl rfl (.inl (by rw [e2]; rfl)) ?_
    refine Ln rfl rfl rfl rfl (.inl (by rw [e2]; rfl)) ?_
    refine Ln rfl rfl rfl rfl (.inl (by rw [e2]; rfl)) ?_
    refine Ln rfl rfl rfl rfl (.inl (by rw [e2]; rfl)) ?_
    refine Ln rfl rfl rfl rfl (.inl (by rw [e2]; rfl)) ?_
    refine Ln rfl rfl rfl rfl (.inl (by rw [e2]; rfl)) ?_
    refine Ln rfl rfl rfl rfl (.inl (by rw [e2]; rfl)) ?_
    refine Ln rfl rfl rfl rfl (.inl (by rw [e2]; rfl)) ?_
    refine Ln rfl rfl rfl rfl (.inl (by rw [e2]; rfl)) ?_
    refine Ln rfl rfl rfl rfl (.inl (by rw [e2]; rfl)) ?_
    refine Lp (V_pickF rfl (evb e2) rfl) rfl rfl ?_
    exact hk2 _ _ ⟨_, (FrLe.cons rfl (FrLe.cons rfl (FrLe.cons rfl (FrLe.cons rfl (FrLe.cons rfl (FrLe.cons rfl (FrLe.cons rfl (FrLe.cons rfl (FrLe.nil _))))))))), h⟩
  rintro fr σ ⟨x106_46, hl, h⟩
  unfold j45_ref07_Tree_Create at h
  refine Lfr hl ?_
  refine Lnil ?_
  refine thenN ?_
  refine AW.iff rfl Iff.rfl h (fun h => ?_) (fun h => ?_)
  rotate_left
  · refine AW.skip ?_
    refine thenN ?_
    exact ⟨_, _, (FrLe.cons rfl (FrLe.cons rfl (FrLe.cons rfl (FrLe.cons rfl (FrLe.cons rfl (FrLe.cons rfl (FrLe.cons rfl (FrLe.nil _)))))))), h⟩
  refine AW.seq ?_
  refine AW.reg ?_
  refine Lp (V_move rfl rfl) rfl rfl ?_
  refine Lp (V_move rfl rfl) rfl rfl ?_
  refine Lp (V_move rfl rfl) rfl rfl ?_
  refine Ls rfl rfl (X_call rfl Tryz.func23 rfl rfl rfl (ACalls.mono h ?_))
  rintro v σ ⟨x110_47, rfl, h⟩
  refine Lp (V_move rfl rfl) rfl rfl ?_
  refine Lp (V_bld (vs := [(0, .string x1_14), (1, Sl.v x110_47), (4, .int .i64 a3)]) (cs := #[.string x1_14, Sl.v x110_47, .int .i64 0, .int .i64 0, .int .i64 a3]) rfl Tryz.underlying159 ty159 pl159 rfl rfl) rfl rfl ?_
  refine Ls rfl rfl (X_new (A_bsl (vs := [(0, .agg #[.string x1_14, Sl.v x110_47, .int .i64 0, .int .i64 0, .int .i64 a3])]) (cs := #[.string x1_14, Sl.v x110_47, .int .i64 0, .int .i64 0, .int .i64 a3]) rfl Tryz.underlying155 ty159 (by decide) rfl rfl) fun x113_48 g1 g2 => ?_)
  replace h := h x113_48 g1 g2
  refine Ls rfl rfl (X_bi (s := Builtin.append_ #[155, 155] 155 #[Sl.v x15_31, Sl.v (⟨some ⟨x113_48, 0, none⟩, 1, 1⟩ : Sl)]) rfl rfl (fun _ => rfl) (awp_mono _ h ?_))
  rintro v σ ⟨x114_49, rfl, h⟩
  refine Lp (V_asg rfl rfl) rfl rfl ?_
  refine Lnil ?_
  refine thenN ?_
  refine AW.reg ?_
  refine Lp (V_asg rfl rfl) rfl rfl ?_
  refine Lnil ?_
  refine thenN ?_
  exact ⟨_, _, (FrLe.cons rfl (FrLe.cons rfl (FrLe.cons rfl (FrLe.cons rfl (FrLe.cons rfl (FrLe.cons rfl (FrLe.cons rfl (FrLe.nil _)))))))), h⟩

def f_ref07_Tree_Delete (B : World) (ro : AH) (a0 : Option Addr) (a1 : ByteArray) (a2 : Int) (σ : AH) (Q : Int → AH → Prop) : Prop :=
 c_ref07_bad B ro a1 σ fun x11_1 σ =>
 if x11_1 = true then
  Q 20 σ
 else
 c_ref07_Tree_node B ro a0 a1 a2 σ fun x16_2 x16_3 σ =>
 if ¬ (x16_3 = 0) then
  Q x16_3 σ
 else
 c_ref07_Tree_below B ro a0 a1 σ fun x24_4 σ =>
 if 0 < x24_4 then
  Q 73 σ
 else
 ∃ p28_5 : Addr, a0 = some p28_5 ∧
 ∃ (x30_6 : Sl), acell ro σ p28_5 = some (Sl.v x30_6) ∧
 cutOk none (some x16_2) x30_6.len x30_6.cap ∧
 awp Tryz.prog ro (Builtin.append_ #[155, 155] 155 #[Sl.v (⟨none, 0, 0⟩ : Sl), Sl.v (⟨cutA x30_6.a (0) x30_6.cap 5, Int.toNat x16_2 - 0, x30_6.cap - 0⟩ : Sl)]) (fun v σ => ∃ (x33_7 : Sl), v = Sl.v x33_7 ∧
  ∃ p37_8 : Addr, a0 = some p37_8 ∧
  ∃ (x39_9 : Sl), acell ro σ p37_8 = some (Sl.v x39_9) ∧
  cutOk (some (IntKind.i64.wrap (x16_2 + 1))) none x39_9.len x39_9.cap ∧
  awp Tryz.prog ro (Builtin.append_ #[155, 155] 155 #[Sl.v x33_7, Sl.v (⟨cutA x39_9.a (Int.toNat (IntKind.i64.wrap (x16_2 + 1))) x39_9.cap 5, x39_9.len - Int.toNat (IntKind.i64.wrap (x16_2 + 1)), x39_9.cap - Int.toNat (IntKind.i64.wrap (x16_2 + 1))⟩ : Sl)]) (fun v σ => ∃ (x43_10 : Sl), v = Sl.v x43_10 ∧
   ∃ p44_11 : Addr, a0 = some p44_11 ∧
   stN p44_11 (fun σ =>
    Q 0 σ) [Sl.v x43_10] 0 σ) σ) σ

set_option maxRecDepth 100000 in
set_option maxHeartbeats 4000000 in
theorem ref07_Tree_Delete_ok {B : World} {ro : AH} {a0 : Option Addr} {a1 : ByteArray} {a2 : Int} {σ : AH} {Q : Int → AH → Prop} (h : Sep ro σ → f_ref07_Tree_Delete B ro a0 a1 a2 σ Q) : c_ref07_Tree_Delete B ro a0 a1 a2 σ Q := by
  refine ACalls.of_sep fun hsep => ?_
  replace h := h hsep
  refine ACalls.of_body (args := [.pointer a0, .string a1, .int .i64 a2]) Tryz.func33 rfl (by rw [Tryz.ntmps33]; simp) ?_
  rw [Tryz.ntmps33]
  unfold f_ref07_Tree_Delete at h
  refine AW.seq ?_
  refine AW.reg ?_
  refine Lp (V_asg rfl rfl) rfl rfl ?_
  refine Lnil ?_
  refine thenN ?_
  refine AW.seq ?_
  refine AW.seq ?_
  refine AW.reg ?_
  refine Lp (V_move rfl rfl) rfl rfl ?_
  refine Ls rfl rfl (X_call rfl Tryz.func94 rfl rfl rfl (ACalls.mono h ?_))
  rintro v σ ⟨x11_1, rfl, h⟩
  refine Lnil ?_
  refine thenN ?_
  refine AW.iff rfl Iff.rfl h (fun h => ?_) (fun h => ?_)
  · refine AW.seq ?_
    refine AW.reg ?_
    refine Lp (V_asg rfl rfl) rfl rfl ?_
    refine Lnil ?_
    refine thenN ?_
    refine AW.ret ?_
    refine thenR ?_
    exact bR1 Tryz.results33 rfl ⟨_, rfl, h⟩
  refine AW.skip ?_
  refine thenN ?_
  refine AW.seq ?_
  refine AW.reg ?_
  refine Lp (V_move rfl rfl) rfl rfl ?_
  refine Lp (V_move rfl rfl) rfl rfl ?_
  refine Lp (V_move rfl rfl) rfl rfl ?_
  refine Ls rfl rfl (X_call rfl Tryz.func95 rfl rfl rfl (ACalls.mono h ?_))
  rintro v σ ⟨x16_2, x16_3, rfl, h⟩
  refine Lp (V_move rfl rfl) rfl rfl ?_
  refine Lp (V_ext rfl rfl rfl) rfl rfl ?_
  refine Lp (V_ext rfl rfl rfl) rfl rfl ?_
  refine Lp (V_asg rfl rfl) rfl rfl ?_
  refine Lp (V_asg rfl rfl) rfl rfl ?_
  refine Lnil ?_
  refine thenN ?_
  refine AW.seq ?_
  refine AW.seq ?_
  refine AW.reg ?_
  refine Lp (V_move rfl rfl) rfl rfl ?_
  refine Lp (V_neq rfl rfl rfl) rfl rfl ?_
  refine Lnil ?_
  refine thenN ?_
  refine AW.iff rfl (bnot_iff decide_eq_true_iff) h (fun h => ?_) (fun h => ?_)
  · refine AW.seq ?_
    refine AW.reg ?_
    refine Lp (V_move rfl rfl) rfl rfl ?_
    refine Lp (V_asg rfl rfl) rfl rfl ?_
    refine Lnil ?_
    refine thenN ?_
    refine AW.ret ?_
    refine thenR ?_
    exact bR1 Tryz.results33 rfl ⟨_, rfl, h⟩
  refine AW.skip ?_
  refine thenN ?_
  refine AW.seq ?_
  refine AW.seq ?_
  refine AW.reg ?_
  refine Lp (V_move rfl rfl) rfl rfl ?_
  refine Lp (V_move rfl rfl) rfl rfl ?_
  refine Ls rfl rfl (X_call rfl Tryz.func85 rfl rfl rfl (ACalls.mono h ?_))
  rintro v σ ⟨x24_4, rfl, h⟩
  refine Lp (V_gtr rfl rfl rfl) rfl rfl ?_
  refine Lnil ?_
  refine thenN ?_
  refine AW.iff rfl decide_eq_true_iff h (fun h => ?_) (fun h => ?_)
  · refine AW.seq ?_
    refine AW.reg ?_
    refine Lp (V_asg rfl rfl) rfl rfl ?_
    refine Lnil ?_
    refine thenN ?_
    refine AW.ret ?_
    refine thenR ?_
    exact bR1 Tryz.results33 rfl ⟨_, rfl, h⟩
  refine AW.skip ?_
  refine thenN ?_
  refine AW.seq ?_
  refine AW.reg ?_
  refine Lp (V_asg rfl rfl) rfl rfl ?_
  refine Lnil ?_
  refine thenN ?_
  refine AW.seq ?_
  refine AW.reg ?_
  refine Lp (V_move rfl rfl) rfl rfl ?_
  refine Lp (V_move rfl rfl) rfl rfl ?_
  obtain ⟨p28_5, hc, h⟩ := h
  refine Lp (V_nil rfl (by rw [← hc]; rfl)) rfl rfl ?_
  refine Lp (V_fld rfl Tryz.underlying157 rfl ty155 (by decide) rfl) rfl rfl ?_
  obtain ⟨x30_6, hc, h⟩ := h
  refine Ls rfl rfl (X_ld rfl Tryz.underlying155 rfl rfl hc ?_)
  refine Lp (V_move rfl rfl) rfl rfl ?_
  obtain ⟨hc, h⟩ := h
  refine Lp (V_slL (lo := none) (hi := (some x16_2)) rfl Tryz.underlying155 ty159 rfl optI_none (optI_some rfl) hc) rfl rfl ?_
  refine Ls rfl rfl (X_bi (s := Builtin.append_ #[155, 155] 155 #[Sl.v (⟨none, 0, 0⟩ : Sl), Sl.v (⟨cutA x30_6.a (0) x30_6.cap 5, Int.toNat x16_2 - 0, x30_6.cap - 0⟩ : Sl)]) rfl rfl (fun _ => rfl) (awp_mono _ h ?_))
  rintro v σ ⟨x33_7, rfl, h⟩
  refine Lp (V_asg rfl rfl) rfl rfl ?_
  refine Lnil ?_
  refine thenN ?_
  refine AW.seq ?_
  refine AW.reg ?_
  refine Lp (V_move rfl rfl) rfl rfl ?_
  refine Lp (V_move rfl rfl) rfl rfl ?_
  refine Lp (V_move rfl rfl) rfl rfl ?_
  obtain ⟨p37_8, hc, h⟩ := h
  refine Lp (V_nil rfl (by rw [← hc]; rfl)) rfl rfl ?_
  refine Lp (V_fld rfl Tryz.underlying157 rfl ty155 (by decide) rfl) rfl rfl ?_
  obtain ⟨x39_9, hc, h⟩ := h
  refine Ls rfl rfl (X_ld rfl Tryz.underlying155 rfl rfl hc ?_)
  refine Lp (V_move rfl rfl) rfl rfl ?_
  refine Lp (V_add rfl rfl rfl) rfl rfl ?_
  obtain ⟨hc, h⟩ := h
  refine Lp (V_slL (lo := (some (IntKind.i64.wrap (x16_2 + 1)))) (hi := none) rfl Tryz.underlying155 ty159 rfl (optI_some rfl) optI_none hc) rfl rfl ?_
  refine Ls rfl rfl (X_bi (s := Builtin.append_ #[155, 155] 155 #[Sl.v x33_7, Sl.v (⟨cutA x39_9.a (Int.toNat (IntKind.i64.wrap (x16_2 + 1))) x39_9.cap 5, x39_9.len - Int.toNat (IntKind.i64.wrap (x16_2 + 1)), x39_9.cap - Int.toNat (IntKind.i64.wrap (x16_2 + 1))⟩ : Sl)]) rfl rfl (fun _ => rfl) (awp_mono _ h ?_))
  rintro v σ ⟨x43_10, rfl, h⟩
  obtain ⟨p44_11, hc, h⟩ := h
  refine Lp (V_nil rfl (by rw [← hc]; rfl)) rfl rfl ?_
  refine Lp (V_fld rfl Tryz.underlying157 rfl ty155 (by decide) rfl) rfl rfl ?_
  refine Ls rfl rfl (X_st rfl ty155 rfl rfl rfl rfl (stN_mono h fun σ h => ?_))
  refine Lnil ?_
  refine thenN ?_
  refine AW.seq ?_
  refine AW.reg ?_
  refine Lp (V_asg rfl rfl) rfl rfl ?_
  refine Lnil ?_
  refine thenN ?_
  refine AW.ret ?_
  exact bR1 Tryz.results33 rfl ⟨_, rfl, h⟩

def f_ref07_Tree_Set (B : World) (ro : AH) (a0 : Option Addr) (a1 : ByteArray) (a2 : Sl) (a3 : Int) (σ : AH) (Q : Int → Int → AH → Prop) : Prop :=
 c_ref07_bad B ro a1 σ fun x13_1 σ =>
 if x13_1 = true then
  Q 0 20 σ
 else
 if 256 < (a2.len : Int) then
  Q 0 75 σ
 else
 c_ref07_Tree_node B ro a0 a1 a3 σ fun x21_2 x21_3 σ =>
 if ¬ (x21_3 = 0) then
  Q 0 x21_3 σ
 else
 lent σ fun ψ σ =>
  ∃ p28_4 : Addr, a0 = some p28_4 ∧
  ∃ (x30_5 : Sl), acell (join ro ψ) (fun _ => none) p28_4 = some (Sl.v x30_5) ∧
  c_ref01_Copy B (join ro ψ) a2 σ fun x33_6 σ =>
  ∃ p34_7 : Addr, x30_5.a = some p34_7 ∧ (0 : Int) ≤ x21_2 ∧ x21_2 < (x30_5.len : Int) ∧
  stN ((p34_7.add (Int.toNat x21_2 * 5)).add 1) (fun σ =>
   (Disj ψ σ → (fun σ => 
    ∃ p37_8 : Addr, a0 = some p37_8 ∧
    ∃ (x39_9 : Sl), acell ro σ p37_8 = some (Sl.v x39_9) ∧
    ∃ p41_10 : Addr, x39_9.a = some p41_10 ∧ (0 : Int) ≤ x21_2 ∧ x21_2 < (x39_9.len : Int) ∧
    ∃ (x43_11 : Int), acell ro σ ((p41_10.add (Int.toNat x21_2 * 5)).add 2) = some (.int .i64 x43_11) ∧
    ∃ p45_12 : Addr, x39_9.a = some p45_12 ∧ (0 : Int) ≤ x21_2 ∧ x21_2 < (x39_9.len : Int) ∧
    stN ((p45_12.add (Int.toNat x21_2 * 5)).add 2) (fun σ =>
     ∃ p48_13 : Addr, a0 = some p48_13 ∧
     ∃ (x50_14 : Sl), acell ro σ p48_13 = some (Sl.v x50_14) ∧
     ∃ p52_15 : Addr, x50_14.a = some p52_15 ∧ (0 : Int) ≤ x21_2 ∧ x21_2 < (x50_14.len : Int) ∧
     ∃ (x54_16 : Int), acell ro σ ((p52_15.add (Int.toNat x21_2 * 5)).add 2) = some (.int .i64 x54_16) ∧
     Q x54_16 0 σ) [.int .i64 (IntKind.i64.wrap (x43_11 + 1))] 0 σ) (join ψ σ))) [Sl.v x33_6] 0 σ

set_option maxRecDepth 100000 in
set_option maxHeartbeats 4000000 in
theorem ref07_Tree_Set_ok {B : World} {ro : AH} {a0 : Option Addr} {a1 : ByteArray} {a2 : Sl} {a3 : Int} {σ : AH} {Q : Int → Int → AH → Prop} (h : Sep ro σ → f_ref07_Tree_Set B ro a0 a1 a2 a3 σ Q) : c_ref07_Tree_Set B ro a0 a1 a2 a3 σ Q := by
  refine ACalls.of_sep fun hsep => ?_
  replace h := h hsep
  refine ACalls.of_body (args := [.pointer a0, .string a1, Sl.v a2, .int .i64 a3]) Tryz.func34 rfl (by rw [Tryz.ntmps34]; simp) ?_
  rw [Tryz.ntmps34]
  unfold f_ref07_Tree_Set at h
  refine AW.seq ?_
  refine AW.reg ?_
  refine Lp (V_asg rfl rfl) rfl rfl ?_
  refine Lp (V_asg rfl rfl) rfl rfl ?_
  refine Lnil ?_
  refine thenN ?_
  refine AW.seq ?_
  refine AW.seq ?_
  refine AW.reg ?_
  refine Lp (V_move rfl rfl) rfl rfl ?_
  refine Ls rfl rfl (X_call rfl Tryz.func94 rfl rfl rfl (ACalls.mono h ?_))
  rintro v σ ⟨x13_1, rfl, h⟩
  refine Lnil ?_
  refine thenN ?_
  refine AW.iff rfl Iff.rfl h (fun h => ?_) (fun h => ?_)
  · refine AW.seq ?_
    refine AW.reg ?_
    refine Lp (V_asg rfl rfl) rfl rfl ?_
    refine Lp (V_asg rfl rfl) rfl rfl ?_
    refine Lnil ?_
    refine thenN ?_
    refine AW.ret ?_
    refine thenR ?_
    exact bR2 Tryz.results34 rfl rfl ⟨_, _, rfl, h⟩
  refine AW.skip ?_
  refine thenN ?_
  refine AW.seq ?_
  refine AW.seq ?_
  refine AW.reg ?_
  refine Lp (V_move rfl rfl) rfl rfl ?_
  refine Lp (V_lenL rfl rfl Tryz.underlying30 rfl rfl) rfl rfl ?_
  refine Lp (V_gtr rfl rfl rfl) rfl rfl ?_
  refine Lnil ?_
  refine thenN ?_
  refine AW.iff rfl decide_eq_true_iff h (fun h => ?_) (fun h => ?_)
  · refine AW.seq ?_
    refine AW.reg ?_
    refine Lp (V_asg rfl rfl) rfl rfl ?_
    refine Lp (V_asg rfl rfl) rfl rfl ?_
    refine Lnil ?_
    refine thenN ?_
    refine AW.ret ?_
    refine thenR ?_
    exact bR2 Tryz.results34 rfl rfl ⟨_, _, rfl, h⟩
  refine AW.skip ?_
  refine thenN ?_
  refine AW.seq ?_
  refine AW.reg ?_
  refine Lp (V_move rfl rfl) rfl rfl ?_
  refine Lp (V_move rfl rfl) rfl rfl ?_
  refine Lp (V_move rfl rfl) rfl rfl ?_
  refine Ls rfl rfl (X_call rfl Tryz.func95 rfl rfl rfl (ACalls.mono h ?_))
  rintro v σ ⟨x21_2, x21_3, rfl, h⟩
  refine Lp (V_move rfl rfl) rfl rfl ?_
  refine Lp (V_ext rfl rfl rfl) rfl rfl ?_
  refine Lp (V_ext rfl rfl rfl) rfl rfl ?_
  refine Lp (V_asg rfl rfl) rfl rfl ?_
  refine Lp (V_asg rfl rfl) rfl rfl ?_
  refine Lnil ?_
  refine thenN ?_
  refine AW.seq ?_
  refine AW.seq ?_
  refine AW.reg ?_
  refine Lp (V_move rfl rfl) rfl rfl ?_
  refine Lp (V_neq rfl rfl rfl) rfl rfl ?_
  refine Lnil ?_
  refine thenN ?_
  refine AW.iff rfl (bnot_iff decide_eq_true_iff) h (fun h => ?_) (fun h => ?_)
  · refine AW.seq ?_
    refine AW.reg ?_
    refine Lp (V_move rfl rfl) rfl rfl ?_
    refine Lp (V_asg rfl rfl) rfl rfl ?_
    refine Lp (V_asg rfl rfl) rfl rfl ?_
    refine Lnil ?_
    refine thenN ?_
    refine AW.ret ?_
    refine thenR ?_
    exact bR2 Tryz.results34 rfl rfl ⟨_, _, rfl, h⟩
  refine AW.skip ?_
  refine thenN ?_
  refine AW.seq ?_
  refine AW.drawnL (fun i => ([0, 0, 0, 0, 0, 0, 2, 0, 0, 2] : List Nat).getD i 2) [] [0, 1, 2, 3, 4, 5, 6, 7, 8, 9] Tryz.mixed h (by decide +kernel) ?_
  clear h
  intro ψ σ h
  refine Dp rfl rfl rfl rfl (V_move rfl rfl) ?_
  obtain ⟨p28_4, hc, h⟩ := h
  refine Dp rfl rfl rfl rfl (V_nil rfl (by rw [← hc]; rfl)) ?_
  refine Dp rfl rfl rfl rfl (V_fld rfl Tryz.underlying157 rfl ty155 (by decide) rfl) ?_
  obtain ⟨x30_5, hc, h⟩ := h
  refine Dp rfl rfl rfl rfl (V_ld rfl Tryz.underlying155 rfl rfl hc) ?_
  refine Dp rfl rfl rfl rfl (V_move rfl rfl) ?_
  refine Dp rfl rfl rfl rfl (V_move rfl rfl) ?_
  refine Dg rfl rfl rfl rfl (X_call rfl Tryz.func23 rfl rfl rfl (ACalls.mono h ?_))
  rintro v σ ⟨x33_6, rfl, h⟩
  obtain ⟨p34_7, ha, h0, h1, h⟩ := h
  refine Dp rfl rfl rfl rfl (V_ixA rfl Tryz.underlying155 ty159 (ixL rfl ha) rfl h0 h1) ?_
  refine Dp rfl rfl rfl rfl (V_fld rfl Tryz.underlying159 rfl ty30 (by decide) rfl) ?_
  refine Dg rfl rfl rfl rfl (X_st rfl ty30 rfl rfl rfl rfl (stN_mono h fun σ h => ?_))
  refine ⟨_, FrEq.refl _, fun hdj => ?_⟩
  replace h := h hdj
  refine thenN ?_
  refine AW.seq ?_
  refine AW.reg ?_
  refine Lp (V_move rfl rfl) rfl rfl ?_
  obtain ⟨p37_8, hc, h⟩ := h
  refine Lp (V_nil rfl (by rw [← hc]; rfl)) rfl rfl ?_
  refine Lp (V_fld rfl Tryz.underlying157 rfl ty155 (by decide) rfl) rfl rfl ?_
  obtain ⟨x39_9, hc, h⟩ := h
  refine Ls rfl rfl (X_ld rfl Tryz.underlying155 rfl rfl hc ?_)
  refine Lp (V_move rfl rfl) rfl rfl ?_
  obtain ⟨p41_10, ha, h0, h1, h⟩ := h
  refine Lp (V_ixA rfl Tryz.underlying155 ty159 (ixL rfl ha) rfl h0 h1) rfl rfl ?_
  refine Lp (V_fld rfl Tryz.underlying159 rfl ty3 (by decide) rfl) rfl rfl ?_
  obtain ⟨x43_11, hc, h⟩ := h
  refine Ls rfl rfl (X_ld rfl Tryz.underlying3 rfl rfl hc ?_)
  refine Lp (V_add rfl rfl rfl) rfl rfl ?_
  obtain ⟨p45_12, ha, h0, h1, h⟩ := h
  refine Lp (V_ixA rfl Tryz.underlying155 ty159 (ixL rfl ha) rfl h0 h1) rfl rfl ?_
  refine Lp (V_fld rfl Tryz.underlying159 rfl ty3 (by decide) rfl) rfl rfl ?_
  refine Ls rfl rfl (X_st rfl ty3 rfl rfl rfl rfl (stN_mono h fun σ h => ?_))
  refine Lnil ?_
  refine thenN ?_
  refine AW.seq ?_
  refine AW.reg ?_
  refine Lp (V_move rfl rfl) rfl rfl ?_
  obtain ⟨p48_13, hc, h⟩ := h
  refine Lp (V_nil rfl (by rw [← hc]; rfl)) rfl rfl ?_
  refine Lp (V_fld rfl Tryz.underlying157 rfl ty155 (by decide) rfl) rfl rfl ?_
  obtain ⟨x50_14, hc, h⟩ := h
  refine Ls rfl rfl (X_ld rfl Tryz.underlying155 rfl rfl hc ?_)
  refine Lp (V_move rfl rfl) rfl rfl ?_
  obtain ⟨p52_15, ha, h0, h1, h⟩ := h
  refine Lp (V_ixA rfl Tryz.underlying155 ty159 (ixL rfl ha) rfl h0 h1) rfl rfl ?_
  refine Lp (V_fld rfl Tryz.underlying159 rfl ty3 (by decide) rfl) rfl rfl ?_
  obtain ⟨x54_16, hc, h⟩ := h
  refine Ls rfl rfl (X_ld rfl Tryz.underlying3 rfl rfl hc ?_)
  refine Lp (V_asg rfl rfl) rfl rfl ?_
  refine Lp (V_asg rfl rfl) rfl rfl ?_
  refine Lnil ?_
  refine thenN ?_
  refine AW.ret ?_
  exact bR2 Tryz.results34 rfl rfl ⟨_, _, rfl, h⟩

def j2_ref07_Tree_Encode (B : World) (ro : AH) (Q : Sl → AH → Prop) (x3_3 : Sl) (σ : AH) : Prop :=
 Q x3_3 σ

def l4_ref07_Tree_Encode (B : World) (ro : AH) (a0 : Option Addr) (Q : Sl → AH → Prop) : (Sl × Int) → AH → ((Sl × Int) → AH → Prop) → Prop := fun ⟨x3_5, x4_6⟩ σ Y4 =>
 ∃ p9_7 : Addr, a0 = some p9_7 ∧
 ∃ (x11_8 : Sl), acell ro σ p9_7 = some (Sl.v x11_8) ∧
 if x4_6 < (x11_8.len : Int) then
  ∃ p17_9 : Addr, a0 = some p17_9 ∧
  ∃ (x19_10 : Sl), acell ro σ p17_9 = some (Sl.v x19_10) ∧
  ∃ p21_11 : Addr, x19_10.a = some p21_11 ∧ (0 : Int) ≤ x4_6 ∧ x4_6 < (x19_10.len : Int) ∧
  ∃ (x22_12a : ByteArray) (x22_12b : Sl) (x22_12c : Int) (x22_12d : Int) (x22_12e : Int), cellsAt ro σ (p21_11.add (Int.toNat x4_6 * 5)) 0 [.string x22_12a, Sl.v x22_12b, .int .i64 x22_12c, .int .i64 x22_12d, .int .i64 x22_12e] ∧
  nw ro σ (.cells #[.string ByteArray.empty, Sl.v (⟨none, 0, 0⟩ : Sl), .int .i64 0, .int .i64 0, .int .i64 0] 159) fun x5_13 σ =>
  stN ⟨x5_13, 0, none⟩ (fun σ =>
   lent σ fun ψ σ =>
    ∃ (x29_14 : Sl), acell (join ro ψ) (fun _ => none) ((⟨x5_13, 0, none⟩ : Addr).add 1) = some (Sl.v x29_14) ∧
    ∃ (x32_15 : Int), acell (join ro ψ) (fun _ => none) ((⟨x5_13, 0, none⟩ : Addr).add 2) = some (.int .i64 x32_15) ∧
    ∃ (x35_16 : Int), acell (join ro ψ) (fun _ => none) ((⟨x5_13, 0, none⟩ : Addr).add 3) = some (.int .i64 x35_16) ∧
    ∃ (x38_17 : Int), acell (join ro ψ) (fun _ => none) ((⟨x5_13, 0, none⟩ : Addr).add 4) = some (.int .i64 x38_17) ∧
    ∃ (x25_18 : ByteArray), acell (join ro ψ) σ ⟨x5_13, 0, none⟩ = some (.string x25_18) ∧
    awp Tryz.prog (join ro ψ) (convert 9 30 (.string x25_18)) (fun v σ =>
     (∃ (x26_19 : Sl), v = Sl.v x26_19 ∧
      c_ref01_Blob B (join ro ψ) x26_19 σ fun x27_20 σ =>
      c_ref01_Blob B (join ro ψ) x29_14 σ fun x30_21 σ =>
      c_ref01_Put B (join ro ψ) x32_15 σ fun x33_22 σ =>
      c_ref01_Put B (join ro ψ) x35_16 σ fun x36_23 σ =>
      c_ref01_Put B (join ro ψ) x38_17 σ fun x39_24 σ =>
      nw (join ro ψ) σ (.cells #[Sl.v x3_5, Sl.v x27_20, Sl.v x30_21, Sl.v x33_22, Sl.v x36_23, Sl.v x39_24] 30) fun x40_25 σ =>
      c_ref01_Join B (join ro ψ) (⟨some ⟨x40_25, 0, none⟩, 6, 6⟩ : Sl) σ fun x41_26 σ =>
      (Disj ψ σ → (fun σ => 
       Y4 (x41_26, IntKind.i64.wrap (x4_6 + 1)) σ) (join ψ σ)))) σ) [.string x22_12a, Sl.v x22_12b, .int .i64 x22_12c, .int .i64 x22_12d, .int .i64 x22_12e] 0 σ
 else
 j2_ref07_Tree_Encode B ro Q x3_5 σ

def f_ref07_Tree_Encode (B : World) (ro : AH) (a0 : Option Addr) (σ : AH) (Q : Sl → AH → Prop) : Prop :=
 nw ro σ (.cells #[] 5) fun x6_1 σ =>
 lfpD (l4_ref07_Tree_Encode B ro a0 Q ) ((⟨some ⟨x6_1, 0, none⟩, 0, 0⟩ : Sl), 0) σ

set_option maxRecDepth 100000 in
set_option maxHeartbeats 4000000 in
theorem ref07_Tree_Encode_ok {B : World} {ro : AH} {a0 : Option Addr} {σ : AH} {Q : Sl → AH → Prop} (h : Sep ro σ → f_ref07_Tree_Encode B ro a0 σ Q) : c_ref07_Tree_Encode B ro a0 σ Q := by
  refine ACalls.of_sep fun hsep => ?_
  replace h := h hsep
  refine ACalls.of_body (args := [.pointer a0]) Tryz.func48 rfl (by rw [Tryz.ntmps48]; simp) ?_
  rw [Tryz.ntmps48]
  unfold f_ref07_Tree_Encode at h
  refine AW.seq ?_
  refine AW.reg ?_
  refine Lp (V_asg rfl rfl) rfl rfl ?_
  refine Lnil ?_
  refine thenN ?_
  refine AW.seq ?_
  refine AW.reg ?_
  refine Ls rfl rfl (X_new (A_bsl (vs := []) (cs := #[]) rfl Tryz.underlying30 ty5 (by decide) rfl rfl) fun x6_1 g1 g2 => ?_)
  replace h := h x6_1 g1 g2
  refine Lp (V_asg rfl rfl) rfl rfl ?_
  refine Lnil ?_
  refine thenN ?_
  refine AW.seqJ (fun fr σ => ∃ (x3_3 : Sl), FrLe [(3, Sl.v x3_3)] fr ∧ j2_ref07_Tree_Encode B ro Q x3_3 σ) ?_ ?_
  · rintro fr σ ⟨x3_3, hl, h⟩
    refine AW.weaken ?_ hl (HLe.refl _)
    unfold j2_ref07_Tree_Encode at h
    refine AW.seq ?_
    refine AW.reg ?_
    refine Lp (V_move rfl rfl) rfl rfl ?_
    refine Lp (V_asg rfl rfl) rfl rfl ?_
    refine Lnil ?_
    refine thenN ?_
    refine AW.ret ?_
    exact bR1 Tryz.results48 rfl ⟨_, rfl, h⟩
  refine AW.seq ?_
  refine AW.reg ?_
  refine Lp (V_asg rfl rfl) rfl rfl ?_
  refine Lnil ?_
  refine thenN ?_
  refine AW.block ?_
  refine ARound.loop (fr' := [(0, .pointer a0), (3, Sl.v (⟨some ⟨x6_1, 0, none⟩, 0, 0⟩ : Sl)), (4, .int .i64 0)]) ?_ (FrLe.cons rfl (FrLe.cons rfl (FrLe.cons rfl (FrLe.nil _))))
  refine h (fun ⟨x3_5, x4_6⟩ σ => ARound _ _ _ _ _ _ [(0, .pointer a0), (3, Sl.v x3_5), (4, .int .i64 x4_6)] σ) ?_
  rintro ⟨x3_5, x4_6⟩ σ Y4 hY4 h
  show AW _ _ _ _ _ _ _ _
  unfold l4_ref07_Tree_Encode at h
  dsimp only at h
  refine AW.seq ?_
  refine AW.seq ?_
  refine AW.reg ?_
  refine Lp (V_move rfl rfl) rfl rfl ?_
  refine Lp (V_move rfl rfl) rfl rfl ?_
  obtain ⟨p9_7, hc, h⟩ := h
  refine Lp (V_nil rfl (by rw [← hc]; rfl)) rfl rfl ?_
  refine Lp (V_fld rfl Tryz.underlying157 rfl ty155 (by decide) rfl) rfl rfl ?_
  obtain ⟨x11_8, hc, h⟩ := h
  refine Ls rfl rfl (X_ld rfl Tryz.underlying155 rfl rfl hc ?_)
  refine Lp (V_lenL rfl rfl Tryz.underlying155 rfl rfl) rfl rfl ?_
  refine Lp (V_lss rfl rfl rfl) rfl rfl ?_
  refine Lnil ?_
  refine thenN ?_
  refine AW.iff rfl decide_eq_true_iff h (fun h => ?_) (fun h => ?_)
  rotate_left
  · refine AW.exit ?_
    refine thenE ?_
    refine thenE ?_
    refine blockE ?_
    refine thenN ?_
    exact ⟨_, (FrLe.cons rfl (FrLe.nil _)), h⟩
  refine AW.skip ?_
  refine thenN ?_
  refine AW.seq ?_
  refine AW.block ?_
  refine AW.seq ?_
  refine AW.reg ?_
  refine Lp (V_move rfl rfl) rfl rfl ?_
  obtain ⟨p17_9, hc, h⟩ := h
  refine Lp (V_nil rfl (by rw [← hc]; rfl)) rfl rfl ?_
  refine Lp (V_fld rfl Tryz.underlying157 rfl ty155 (by decide) rfl) rfl rfl ?_
  obtain ⟨x19_10, hc, h⟩ := h
  refine Ls rfl rfl (X_ld rfl Tryz.underlying155 rfl rfl hc ?_)
  refine Lp (V_move rfl rfl) rfl rfl ?_
  obtain ⟨p21_11, ha, h0, h1, h⟩ := h
  refine Lp (V_ixA rfl Tryz.underlying155 ty159 (ixL rfl ha) rfl h0 h1) rfl rfl ?_
  obtain ⟨x22_12a, x22_12b, x22_12c, x22_12d, x22_12e, hc, h⟩ := h
  refine Ls rfl rfl (X_lda rfl Tryz.underlying159 rfl ty159 rfl hc ?_)
  refine Ls rfl rfl (X_new (A_alloc rfl ty159) fun x5_13 g1 g2 => ?_)
  replace h := h x5_13 g1 g2
  refine Ls rfl rfl (X_st rfl ty159 rfl rfl rfl rfl (stN_mono h fun σ h => ?_))
  refine Lnil ?_
  refine thenN ?_
  refine AW.drawnL (fun i => ([0, 0, 3, 2, 2, 0, 0, 2, 0, 0, 2, 0, 0, 2, 0, 0, 2, 1, 2, 0] : List Nat).getD i 2) [(2, 3), (2, 4), (2, 7), (2, 10), (2, 13), (2, 16), (2, 17), (2, 18), (3, 4), (3, 7), (3, 10), (3, 13), (3, 16), (3, 17), (3, 18), (4, 7), (4, 10), (4, 13), (4, 16), (4, 17), (4, 18), (7, 10), (7, 13), (7, 16), (7, 17), (7, 18), (10, 13), (10, 16), (10, 17), (10, 18), (13, 17), (13, 18)] [0, 1, 5, 6, 8, 9, 11, 12, 14, 15, 2, 3, 4, 7, 10, 13, 16, 17, 18, 19] Tryz.mixed h (by decide +kernel) ?_
  clear h
  intro ψ σ h
  refine Dp rfl rfl rfl rfl (V_move rfl rfl) ?_
  refine Dp rfl rfl rfl rfl (V_fld rfl Tryz.underlying159 rfl ty9 (by decide) rfl) ?_
  refine Dp rfl rfl rfl rfl (V_fld rfl Tryz.underlying159 rfl ty30 (by decide) rfl) ?_
  obtain ⟨x29_14, hc, h⟩ := h
  refine Dp rfl rfl rfl rfl (V_ld rfl Tryz.underlying30 rfl rfl hc) ?_
  refine Dp rfl rfl rfl rfl (V_fld rfl Tryz.underlying159 rfl ty3 (by decide) rfl) ?_
  obtain ⟨x32_15, hc, h⟩ := h
  refine Dp rfl rfl rfl rfl (V_ld rfl Tryz.underlying3 rfl rfl hc) ?_
  refine Dp rfl rfl rfl rfl (V_fld rfl Tryz.underlying159 rfl ty3 (by decide) rfl) ?_
  obtain ⟨x35_16, hc, h⟩ := h
  refine Dp rfl rfl rfl rfl (V_ld rfl Tryz.underlying3 rfl rfl hc) ?_
  refine Dp rfl rfl rfl rfl (V_fld rfl Tryz.underlying159 rfl ty3 (by decide) rfl) ?_
  obtain ⟨x38_17, hc, h⟩ := h
  refine Dp rfl rfl rfl rfl (V_ld rfl Tryz.underlying3 rfl rfl hc) ?_
  obtain ⟨x25_18, hc, h⟩ := h
  refine Dr rfl rfl rfl rfl (R_ld rfl Tryz.underlying9 rfl rfl hc) ?_
  refine Dg rfl rfl rfl rfl (X_cvt rfl rfl (awp_mono _ h ?_))
  rintro v σ ⟨x26_19, rfl, h⟩
  refine Dg rfl rfl rfl rfl (X_call rfl Tryz.func103 rfl rfl rfl (ACalls.mono h ?_))
  rintro v σ ⟨x27_20, rfl, h⟩
  refine Dg rfl rfl rfl rfl (X_call rfl Tryz.func103 rfl rfl rfl (ACalls.mono h ?_))
  rintro v σ ⟨x30_21, rfl, h⟩
  refine Dg rfl rfl rfl rfl (X_call rfl Tryz.func104 rfl rfl rfl (ACalls.mono h ?_))
  rintro v σ ⟨x33_22, rfl, h⟩
  refine Dg rfl rfl rfl rfl (X_call rfl Tryz.func104 rfl rfl rfl (ACalls.mono h ?_))
  rintro v σ ⟨x36_23, rfl, h⟩
  refine Dg rfl rfl rfl rfl (X_call rfl Tryz.func104 rfl rfl rfl (ACalls.mono h ?_))
  rintro v σ ⟨x39_24, rfl, h⟩
  refine Da rfl rfl rfl rfl (A_bsl (vs := [(0, Sl.v x3_5), (1, Sl.v x27_20), (2, Sl.v x30_21), (3, Sl.v x33_22), (4, Sl.v x36_23), (5, Sl.v x39_24)]) (cs := #[Sl.v x3_5, Sl.v x27_20, Sl.v x30_21, Sl.v x33_22, Sl.v x36_23, Sl.v x39_24]) rfl Tryz.underlying208 ty30 (by decide) rfl rfl) fun x40_25 g1 g2 => ?_
  replace h := h x40_25 g1 g2
  refine Dg rfl rfl rfl rfl (X_call rfl Tryz.func72 rfl rfl rfl (ACalls.mono h ?_))
  rintro v σ ⟨x41_26, rfl, h⟩
  refine Dp rfl rfl rfl rfl (V_asg rfl rfl) ?_
  refine ⟨_, FrEq.refl _, fun hdj => ?_⟩
  replace h := h hdj
  refine blockN ?_
  refine thenN ?_
  refine AW.reg ?_
  refine Lp (V_move rfl rfl) rfl rfl ?_
  refine Lp (V_add rfl rfl rfl) rfl rfl ?_
  refine Lp (V_asg rfl rfl) rfl rfl ?_
  refine Lnil ?_
  refine thenN ?_
  refine ARound.head (fr' := [(0, .pointer a0), (3, Sl.v x41_26), (4, .int .i64 (IntKind.i64.wrap (x4_6 + 1)))]) ?_ (FrLe.cons rfl (FrLe.cons rfl (FrLe.cons rfl (FrLe.nil _))))
  exact hY4 _ _ h

def j1_ref07_Tree_Find (B : World) (ro : AH) (Q : Int → AH → Prop) (σ : AH) : Prop :=
 Q (-1) σ

def l2_ref07_Tree_Find (B : World) (ro : AH) (a0 : Option Addr) (a1 : ByteArray) (Q : Int → AH → Prop) : (Int) → AH → ((Int) → AH → Prop) → Prop := fun x5_3 σ Y2 =>
 ∃ p8_4 : Addr, a0 = some p8_4 ∧
 ∃ (x10_5 : Sl), acell ro σ p8_4 = some (Sl.v x10_5) ∧
 if x5_3 < (x10_5.len : Int) then
  ∃ p16_6 : Addr, a0 = some p16_6 ∧
  ∃ (x18_7 : Sl), acell ro σ p16_6 = some (Sl.v x18_7) ∧
  ∃ p20_8 : Addr, x18_7.a = some p20_8 ∧ (0 : Int) ≤ x5_3 ∧ x5_3 < (x18_7.len : Int) ∧
  ∃ (x22_9 : ByteArray), acell ro σ (p20_8.add (Int.toNat x5_3 * 5)) = some (.string x22_9) ∧
  if x22_9 = a1 then
   Q x5_3 σ
  else
  Y2 (IntKind.i64.wrap (x5_3 + 1)) σ
 else
 j1_ref07_Tree_Find B ro Q σ

def f_ref07_Tree_Find (B : World) (ro : AH) (a0 : Option Addr) (a1 : ByteArray) (σ : AH) (Q : Int → AH → Prop) : Prop :=
 lfpD (l2_ref07_Tree_Find B ro a0 a1 Q ) (0) σ

set_option maxRecDepth 100000 in
set_option maxHeartbeats 4000000 in
theorem ref07_Tree_Find_ok {B : World} {ro : AH} {a0 : Option Addr} {a1 : ByteArray} {σ : AH} {Q : Int → AH → Prop} (h : Sep ro σ → f_ref07_Tree_Find B ro a0 a1 σ Q) : c_ref07_Tree_Find B ro a0 a1 σ Q := by
  refine ACalls.of_sep fun hsep => ?_
  replace h := h hsep
  refine ACalls.of_body (args := [.pointer a0, .string a1]) Tryz.func84 rfl (by rw [Tryz.ntmps84]; simp) ?_
  rw [Tryz.ntmps84]
  unfold f_ref07_Tree_Find at h
  refine AW.seq ?_
  refine AW.reg ?_
  refine Lp (V_asg rfl rfl) rfl rfl ?_
  refine Lnil ?_
  refine thenN ?_
  refine AW.seqJ (fun fr σ => FrLe [] fr ∧ j1_ref07_Tree_Find B ro Q σ) ?_ ?_
  · rintro fr σ ⟨hl, h⟩
    refine AW.weaken ?_ hl (HLe.refl _)
    unfold j1_ref07_Tree_Find at h
    refine AW.seq ?_
    refine AW.reg ?_
    refine Lp (V_asg rfl rfl) rfl rfl ?_
    refine Lnil ?_
    refine thenN ?_
    refine AW.ret ?_
    exact bR1 Tryz.results84 rfl ⟨_, rfl, h⟩
  refine AW.seq ?_
  refine AW.reg ?_
  refine Lp (V_asg rfl rfl) rfl rfl ?_
  refine Lnil ?_
  refine thenN ?_
  refine AW.block ?_
  refine ARound.loop (fr' := [(0, .pointer a0), (1, .string a1), (5, .int .i64 0)]) ?_ (FrLe.cons rfl (FrLe.cons rfl (FrLe.cons rfl (FrLe.nil _))))
  refine h (fun x5_3 σ => ARound _ _ _ _ _ _ [(0, .pointer a0), (1, .string a1), (5, .int .i64 x5_3)] σ) ?_
  rintro x5_3 σ Y2 hY2 h
  show AW _ _ _ _ _ _ _ _
  unfold l2_ref07_Tree_Find at h
  refine AW.seq ?_
  refine AW.seq ?_
  refine AW.reg ?_
  refine Lp (V_move rfl rfl) rfl rfl ?_
  refine Lp (V_move rfl rfl) rfl rfl ?_
  obtain ⟨p8_4, hc, h⟩ := h
  refine Lp (V_nil rfl (by rw [← hc]; rfl)) rfl rfl ?_
  refine Lp (V_fld rfl Tryz.underlying157 rfl ty155 (by decide) rfl) rfl rfl ?_
  obtain ⟨x10_5, hc, h⟩ := h
  refine Ls rfl rfl (X_ld rfl Tryz.underlying155 rfl rfl hc ?_)
  refine Lp (V_lenL rfl rfl Tryz.underlying155 rfl rfl) rfl rfl ?_
  refine Lp (V_lss rfl rfl rfl) rfl rfl ?_
  refine Lnil ?_
  refine thenN ?_
  refine AW.iff rfl decide_eq_true_iff h (fun h => ?_) (fun h => ?_)
  rotate_left
  · refine AW.exit ?_
    refine thenE ?_
    refine thenE ?_
    refine blockE ?_
    refine thenN ?_
    exact ⟨(FrLe.nil _), h⟩
  refine AW.skip ?_
  refine thenN ?_
  refine AW.seq ?_
  refine AW.block ?_
  refine AW.seq ?_
  refine AW.reg ?_
  refine Lp (V_move rfl rfl) rfl rfl ?_
  obtain ⟨p16_6, hc, h⟩ := h
  refine Lp (V_nil rfl (by rw [← hc]; rfl)) rfl rfl ?_
  refine Lp (V_fld rfl Tryz.underlying157 rfl ty155 (by decide) rfl) rfl rfl ?_
  obtain ⟨x18_7, hc, h⟩ := h
  refine Ls rfl rfl (X_ld rfl Tryz.underlying155 rfl rfl hc ?_)
  refine Lp (V_move rfl rfl) rfl rfl ?_
  obtain ⟨p20_8, ha, h0, h1, h⟩ := h
  refine Lp (V_ixA rfl Tryz.underlying155 ty159 (ixL rfl ha) rfl h0 h1) rfl rfl ?_
  refine Lp (V_fld rfl Tryz.underlying159 rfl ty9 (by decide) rfl) rfl rfl ?_
  obtain ⟨x22_9, hc, h⟩ := h
  refine Ls rfl rfl (X_ld rfl Tryz.underlying9 rfl rfl hc ?_)
  refine Lp (V_move rfl rfl) rfl rfl ?_
  refine Lp (V_eqlS rfl rfl rfl) rfl rfl ?_
  refine Lnil ?_
  refine thenN ?_
  refine AW.iff rfl decide_eq_true_iff h (fun h => ?_) (fun h => ?_)
  · refine AW.seq ?_
    refine AW.reg ?_
    refine Lp (V_move rfl rfl) rfl rfl ?_
    refine Lp (V_asg rfl rfl) rfl rfl ?_
    refine Lnil ?_
    refine thenN ?_
    refine AW.ret ?_
    refine blockR ?_
    refine thenR ?_
    refine thenR ?_
    refine blockR ?_
    refine thenR ?_
    exact bR1 Tryz.results84 rfl ⟨_, rfl, h⟩
  refine AW.skip ?_
  refine blockN ?_
  refine thenN ?_
  refine AW.reg ?_
  refine Lp (V_move rfl rfl) rfl rfl ?_
  refine Lp (V_add rfl rfl rfl) rfl rfl ?_
  refine Lp (V_asg rfl rfl) rfl rfl ?_
  refine Lnil ?_
  refine thenN ?_
  refine ARound.head (fr' := [(0, .pointer a0), (1, .string a1), (5, .int .i64 (IntKind.i64.wrap (x5_3 + 1)))]) ?_ (FrLe.cons rfl (FrLe.cons rfl (FrLe.cons rfl (FrLe.nil _))))
  exact hY2 _ _ h

def j1_ref07_Tree_below (B : World) (ro : AH) (Q : Int → AH → Prop) (x5_2 : Int) (σ : AH) : Prop :=
 Q x5_2 σ

def j8_ref07_Tree_below (B : World) (ro : AH) (a0 : Option Addr) (a1 : ByteArray) (x6_5 : Int) (Q : Int → AH → Prop) (Y3 : (Int × Int) → AH → Prop) (x5_9 : Int) (σ : AH) : Prop :=
 Y3 (x5_9, IntKind.i64.wrap (x6_5 + 1)) σ

def l3_ref07_Tree_below (B : World) (ro : AH) (a0 : Option Addr) (a1 : ByteArray) (Q : Int → AH → Prop) : (Int × Int) → AH → ((Int × Int) → AH → Prop) → Prop := fun ⟨x5_4, x6_5⟩ σ Y3 =>
 ∃ p11_6 : Addr, a0 = some p11_6 ∧
 ∃ (x13_7 : Sl), acell ro σ p11_6 = some (Sl.v x13_7) ∧
 if x6_5 < (x13_7.len : Int) then
  ∃ p20_10 : Addr, a0 = some p20_10 ∧
  ∃ (x22_11 : Sl), acell ro σ p20_10 = some (Sl.v x22_11) ∧
  ∃ p24_12 : Addr, x22_11.a = some p24_12 ∧ (0 : Int) ≤ x6_5 ∧ x6_5 < (x22_11.len : Int) ∧
  ∃ (x26_13 : ByteArray), acell ro σ (p24_12.add (Int.toNat x6_5 * 5)) = some (.string x26_13) ∧
  c_ref02_Parent B ro x26_13 σ fun x27_14 x27_15 σ =>
  if (x27_15 = true) ∧ (x27_14 = a1) then
   j8_ref07_Tree_below B ro a0 a1 x6_5 Q Y3 (IntKind.i64.wrap (x5_4 + 1)) σ
  else
  j8_ref07_Tree_below B ro a0 a1 x6_5 Q Y3 x5_4 σ
 else
 j1_ref07_Tree_below B ro Q x5_4 σ

def f_ref07_Tree_below (B : World) (ro : AH) (a0 : Option Addr) (a1 : ByteArray) (σ : AH) (Q : Int → AH → Prop) : Prop :=
 lfpD (l3_ref07_Tree_below B ro a0 a1 Q ) (0, 0) σ

set_option maxRecDepth 100000 in
set_option maxHeartbeats 4000000 in
theorem ref07_Tree_below_ok {B : World} {ro : AH} {a0 : Option Addr} {a1 : ByteArray} {σ : AH} {Q : Int → AH → Prop} (h : Sep ro σ → f_ref07_Tree_below B ro a0 a1 σ Q) : c_ref07_Tree_below B ro a0 a1 σ Q := by
  refine ACalls.of_sep fun hsep => ?_
  replace h := h hsep
  refine ACalls.of_body (args := [.pointer a0, .string a1]) Tryz.func85 rfl (by rw [Tryz.ntmps85]; simp) ?_
  rw [Tryz.ntmps85]
  unfold f_ref07_Tree_below at h
  refine AW.seq ?_
  refine AW.reg ?_
  refine Lp (V_asg rfl rfl) rfl rfl ?_
  refine Lnil ?_
  refine thenN ?_
  refine AW.seq ?_
  refine AW.reg ?_
  refine Lp (V_asg rfl rfl) rfl rfl ?_
  refine Lnil ?_
  refine thenN ?_
  refine AW.seqJ (fun fr σ => ∃ (x5_2 : Int), FrLe [(5, .int .i64 x5_2)] fr ∧ j1_ref07_Tree_below B ro Q x5_2 σ) ?_ ?_
  · rintro fr σ ⟨x5_2, hl, h⟩
    refine AW.weaken ?_ hl (HLe.refl _)
    unfold j1_ref07_Tree_below at h
    refine AW.seq ?_
    refine AW.reg ?_
    refine Lp (V_move rfl rfl) rfl rfl ?_
    refine Lp (V_asg rfl rfl) rfl rfl ?_
    refine Lnil ?_
    refine thenN ?_
    refine AW.ret ?_
    exact bR1 Tryz.results85 rfl ⟨_, rfl, h⟩
  refine AW.seq ?_
  refine AW.reg ?_
  refine Lp (V_asg rfl rfl) rfl rfl ?_
  refine Lnil ?_
  refine thenN ?_
  refine AW.block ?_
  refine ARound.loop (fr' := [(0, .pointer a0), (1, .string a1), (5, .int .i64 0), (6, .int .i64 0)]) ?_ (FrLe.cons rfl (FrLe.cons rfl (FrLe.cons rfl (FrLe.cons rfl (FrLe.nil _)))))
  refine h (fun ⟨x5_4, x6_5⟩ σ => ARound _ _ _ _ _ _ [(0, .pointer a0), (1, .string a1), (5, .int .i64 x5_4), (6, .int .i64 x6_5)] σ) ?_
  rintro ⟨x5_4, x6_5⟩ σ Y3 hY3 h
  show AW _ _ _ _ _ _ _ _
  unfold l3_ref07_Tree_below at h
  dsimp only at h
  refine AW.seq ?_
  refine AW.seq ?_
  refine AW.reg ?_
  refine Lp (V_move rfl rfl) rfl rfl ?_
  refine Lp (V_move rfl rfl) rfl rfl ?_
  obtain ⟨p11_6, hc, h⟩ := h
  refine Lp (V_nil rfl (by rw [← hc]; rfl)) rfl rfl ?_
  refine Lp (V_fld rfl Tryz.underlying157 rfl ty155 (by decide) rfl) rfl rfl ?_
  obtain ⟨x13_7, hc, h⟩ := h
  refine Ls rfl rfl (X_ld rfl Tryz.underlying155 rfl rfl hc ?_)
  refine Lp (V_lenL rfl rfl Tryz.underlying155 rfl rfl) rfl rfl ?_
  refine Lp (V_lss rfl rfl rfl) rfl rfl ?_
  refine Lnil ?_
  refine thenN ?_
  refine AW.iff rfl decide_eq_true_iff h (fun h => ?_) (fun h => ?_)
  rotate_left
  · refine AW.exit ?_
    refine thenE ?_
    refine thenE ?_
    refine blockE ?_
    refine thenN ?_
    exact ⟨_, (FrLe.cons rfl (FrLe.nil _)), h⟩
  refine AW.skip ?_
  refine thenN ?_
  refine AW.seqJ (fun fr σ => ∃ (x5_9 : Int), FrLe [(0, .pointer a0), (1, .string a1), (6, .int .i64 x6_5), (5, .int .i64 x5_9)] fr ∧ j8_ref07_Tree_below B ro a0 a1 x6_5 Q Y3 x5_9 σ) ?_ ?_
  · rintro fr σ ⟨x5_9, hl, h⟩
    refine AW.weaken ?_ hl (HLe.refl _)
    unfold j8_ref07_Tree_below at h
    refine AW.reg ?_
    refine Lp (V_move rfl rfl) rfl rfl ?_
    refine Lp (V_add rfl rfl rfl) rfl rfl ?_
    refine Lp (V_asg rfl rfl) rfl rfl ?_
    refine Lnil ?_
    refine thenN ?_
    refine ARound.head (fr' := [(0, .pointer a0), (1, .string a1), (5, .int .i64 x5_9), (6, .int .i64 (IntKind.i64.wrap (x6_5 + 1)))]) ?_ (FrLe.cons rfl (FrLe.cons rfl (FrLe.cons rfl (FrLe.cons rfl (FrLe.nil _)))))
    exact hY3 _ _ h
  refine AW.block ?_
  refine AW.seq ?_
  refine AW.reg ?_
  refine Lp (V_move rfl rfl) rfl rfl ?_
  obtain ⟨p20_10, hc, h⟩ := h
  refine Lp (V_nil rfl (by rw [← hc]; rfl)) rfl rfl ?_
  refine Lp (V_fld rfl Tryz.underlying157 rfl ty155 (by decide) rfl) rfl rfl ?_
  obtain ⟨x22_11, hc, h⟩ := h
  refine Ls rfl rfl (X_ld rfl Tryz.underlying155 rfl rfl hc ?_)
  refine Lp (V_move rfl rfl) rfl rfl ?_
  obtain ⟨p24_12, ha, h0, h1, h⟩ := h
  refine Lp (V_ixA rfl Tryz.underlying155 ty159 (ixL rfl ha) rfl h0 h1) rfl rfl ?_
  refine Lp (V_fld rfl Tryz.underlying159 rfl ty9 (by decide) rfl) rfl rfl ?_
  obtain ⟨x26_13, hc, h⟩ := h
  refine Ls rfl rfl (X_ld rfl Tryz.underlying9 rfl rfl hc ?_)
  refine Ls rfl rfl (X_call rfl Tryz.func19 rfl rfl rfl (ACalls.mono h ?_))
  rintro v σ ⟨x27_14, x27_15, rfl, h⟩
  refine Lp (V_move rfl rfl) rfl rfl ?_
  refine Lp (V_ext rfl rfl rfl) rfl rfl ?_
  refine Lp (V_ext rfl rfl rfl) rfl rfl ?_
  refine Lp (V_asg rfl rfl) rfl rfl ?_
  refine Lp (V_asg rfl rfl) rfl rfl ?_
  refine Lnil ?_
  refine thenN ?_
  refine AW.seq ?_
  refine AW.reg ?_
  refine Lp (V_move rfl rfl) rfl rfl ?_
  refine Lp (V_move rfl rfl) rfl rfl ?_
  refine Lsplit 4 x27_15 [(0, .pointer a0), (1, .string a1), (5, .int .i64 x5_4), (6, .int .i64 x6_5), (35, .bool (x27_15 && (decide (x27_14 = a1))))] ?_ ?_ ?_
  · intro e1 hk1
    refine Lypb (V_move rfl rfl) rfl rfl rfl rfl e1 ?_
    refine Lypb (V_move rfl rfl) rfl rfl rfl rfl e1 ?_
    refine Lypb (V_eqlS rfl rfl rfl) rfl rfl rfl rfl e1 ?_
    refine Lp (V_pickT rfl (evb e1) rfl) rfl rfl ?_
    exact hk1 _ (FrLe.cons rfl (FrLe.cons rfl (FrLe.cons rfl (FrLe.cons rfl (FrLe.cons (by rw [e1]; rfl) (FrLe.nil _))))))
  · intro e1 hk1
    refine Ln rfl rfl rfl rfl (.inl (by rw [e1]; rfl)) ?_
    refine Ln rfl rfl rfl rfl (.inl (by rw [e1]; rfl)) ?_
    refine Ln rfl rfl rfl rfl (.inl (by rw [e1]; rfl)) ?_
    refine Lp (V_pickF rfl (evb e1) rfl) rfl rfl ?_
    exact hk1 _ (FrLe.cons rfl (FrLe.cons rfl (FrLe.cons rfl (FrLe.cons rfl (FrLe.cons (by rw [e1]; rfl) (FrLe.nil _))))))
  intro fr hl
  refine Lfr hl ?_
  refine Lnil ?_
  refine thenN ?_
  refine AW.iff rfl (band_iff Iff.rfl decide_eq_true_iff) h (fun h => ?_) (fun h => ?_)
  rotate_left
  · refine AW.skip ?_
    refine blockN ?_
    refine thenN ?_
    exact ⟨_, (FrLe.cons rfl (FrLe.cons rfl (FrLe.cons rfl (FrLe.cons rfl (FrLe.nil _))))), h⟩
  refine AW.reg ?_
  refine Lp (V_move rfl rfl) rfl rfl ?_
  refine Lp (V_add rfl rfl rfl) rfl rfl ?_
  refine Lp (V_asg rfl rfl) rfl rfl ?_
  refine Lnil ?_
  refine blockN ?_
  refine thenN ?_
  exact ⟨_, (FrLe.cons rfl (FrLe.cons rfl (FrLe.cons rfl (FrLe.cons rfl (FrLe.nil _))))), h⟩

def j1_ref07_Tree_Owned (B : World) (ro : AH) (Q : Sl → AH → Prop) (x5_2 : Sl) (σ : AH) : Prop :=
 Q x5_2 σ

def j8_ref07_Tree_Owned (B : World) (ro : AH) (a0 : Option Addr) (a1 : Sl) (x6_5 : Int) (Q : Sl → AH → Prop) (Y3 : (Sl × Int) → AH → Prop) (x5_9 : Sl) (σ : AH) : Prop :=
 Y3 (x5_9, IntKind.i64.wrap (x6_5 + 1)) σ

def j17_ref07_Tree_Owned (B : World) (ro : AH) (a0 : Option Addr) (a1 : Sl) (x5_11 : Sl) (x6_5 : Int) (x7_12 : Int) (Q : Sl → AH → Prop) (Y3 : (Sl × Int) → AH → Prop) (Y10 : (Sl × Int) → AH → Prop) (x41_18 : Bool) (σ : AH) : Prop :=
 if x41_18 = true then
  ∃ p44_19 : Addr, a0 = some p44_19 ∧
  ∃ (x46_20 : Sl), acell ro σ p44_19 = some (Sl.v x46_20) ∧
  ∃ p48_21 : Addr, x46_20.a = some p48_21 ∧ (0 : Int) ≤ x6_5 ∧ x6_5 < (x46_20.len : Int) ∧
  ∃ (x50_22 : ByteArray), acell ro σ (p48_21.add (Int.toNat x6_5 * 5)) = some (.string x50_22) ∧
  nw ro σ (.cells #[.string x50_22] 9) fun x51_23 σ =>
  awp Tryz.prog ro (Builtin.append_ #[25, 25] 25 #[Sl.v x5_11, Sl.v (⟨some ⟨x51_23, 0, none⟩, 1, 1⟩ : Sl)]) (fun v σ => ∃ (x52_24 : Sl), v = Sl.v x52_24 ∧
   j8_ref07_Tree_Owned B ro a0 a1 x6_5 Q Y3 x52_24 σ) σ
 else
 Y10 (x5_11, IntKind.i64.wrap (x7_12 + 1)) σ

def l10_ref07_Tree_Owned (B : World) (ro : AH) (a0 : Option Addr) (a1 : Sl) (x6_5 : Int) (Q : Sl → AH → Prop) (Y3 : (Sl × Int) → AH → Prop) : (Sl × Int) → AH → ((Sl × Int) → AH → Prop) → Prop := fun ⟨x5_11, x7_12⟩ σ Y10 =>
 if x7_12 < (a1.len : Int) then
  ∃ p25_13 : Addr, a0 = some p25_13 ∧
  ∃ (x27_14 : Sl), acell ro σ p25_13 = some (Sl.v x27_14) ∧
  ∃ p29_15 : Addr, x27_14.a = some p29_15 ∧ (0 : Int) ≤ x6_5 ∧ x6_5 < (x27_14.len : Int) ∧
  ∃ (x31_16 : Int), acell ro σ ((p29_15.add (Int.toNat x6_5 * 5)).add 4) = some (.int .i64 x31_16) ∧
  if ¬ (x31_16 = 0) then
   ∃ p38_25 : Addr, a1.a = some p38_25 ∧ (0 : Int) ≤ x7_12 ∧ x7_12 < (a1.len : Int) ∧
   ∃ (x39_26 : Int), acell ro σ (p38_25.add (Int.toNat x7_12 * 1)) = some (.int .i64 x39_26) ∧
   j17_ref07_Tree_Owned B ro a0 a1 x5_11 x6_5 x7_12 Q Y3 Y10 (decide (x31_16 = x39_26)) σ
  else
  j17_ref07_Tree_Owned B ro a0 a1 x5_11 x6_5 x7_12 Q Y3 Y10 false σ
 else
 j8_ref07_Tree_Owned B ro a0 a1 x6_5 Q Y3 x5_11 σ

def l3_ref07_Tree_Owned (B : World) (ro : AH) (a0 : Option Addr) (a1 : Sl) (Q : Sl → AH → Prop) : (Sl × Int) → AH → ((Sl × Int) → AH → Prop) → Prop := fun ⟨x5_4, x6_5⟩ σ Y3 =>
 ∃ p11_6 : Addr, a0 = some p11_6 ∧
 ∃ (x13_7 : Sl), acell ro σ p11_6 = some (Sl.v x13_7) ∧
 if x6_5 < (x13_7.len : Int) then
  lfpD (l10_ref07_Tree_Owned B ro a0 a1 x6_5 Q Y3 ) (x5_4, 0) σ
 else
 j1_ref07_Tree_Owned B ro Q x5_4 σ

def f_ref07_Tree_Owned (B : World) (ro : AH) (a0 : Option Addr) (a1 : Sl) (σ : AH) (Q : Sl → AH → Prop) : Prop :=
 lfpD (l3_ref07_Tree_Owned B ro a0 a1 Q ) ((⟨none, 0, 0⟩ : Sl), 0) σ

set_option maxRecDepth 100000 in
set_option maxHeartbeats 4000000 in
theorem ref07_Tree_Owned_ok {B : World} {ro : AH} {a0 : Option Addr} {a1 : Sl} {σ : AH} {Q : Sl → AH → Prop} (h : Sep ro σ → f_ref07_Tree_Owned B ro a0 a1 σ Q) : c_ref07_Tree_Owned B ro a0 a1 σ Q := by
  refine ACalls.of_sep fun hsep => ?_
  replace h := h hsep
  refine ACalls.of_body (args := [.pointer a0, Sl.v a1]) Tryz.func88 rfl (by rw [Tryz.ntmps88]; simp) ?_
  rw [Tryz.ntmps88]
  unfold f_ref07_Tree_Owned at h
  refine AW.seq ?_
  refine AW.reg ?_
  refine Lp (V_asg rfl rfl) rfl rfl ?_
  refine Lnil ?_
  refine thenN ?_
  refine AW.seq ?_
  refine AW.reg ?_
  refine Lp (V_asg rfl rfl) rfl rfl ?_
  refine Lnil ?_
  refine thenN ?_
  refine AW.seqJ (fun fr σ => ∃ (x5_2 : Sl), FrLe [(5, Sl.v x5_2)] fr ∧ j1_ref07_Tree_Owned B ro Q x5_2 σ) ?_ ?_
  · rintro fr σ ⟨x5_2, hl, h⟩
    refine AW.weaken ?_ hl (HLe.refl _)
    unfold j1_ref07_Tree_Owned at h
    refine AW.seq ?_
    refine AW.reg ?_
    refine Lp (V_move rfl rfl) rfl rfl ?_
    refine Lp (V_asg rfl rfl) rfl rfl ?_
    refine Lnil ?_
    refine thenN ?_
    refine AW.ret ?_
    exact bR1 Tryz.results88 rfl ⟨_, rfl, h⟩
  refine AW.seq ?_
  refine AW.reg ?_
  refine Lp (V_asg rfl rfl) rfl rfl ?_
  refine Lnil ?_
  refine thenN ?_
  refine AW.block ?_
  refine ARound.loop (fr' := [(0, .pointer a0), (1, Sl.v a1), (5, Sl.v (⟨none, 0, 0⟩ : Sl)), (6, .int .i64 0)]) ?_ (FrLe.cons rfl (FrLe.cons rfl (FrLe.cons rfl (FrLe.cons rfl (FrLe.nil _)))))
  refine h (fun ⟨x5_4, x6_5⟩ σ => ARound _ _ _ _ _ _ [(0, .pointer a0), (1, Sl.v a1), (5, Sl.v x5_4), (6, .int .i64 x6_5)] σ) ?_
  rintro ⟨x5_4, x6_5⟩ σ Y3 hY3 h
  show AW _ _ _ _ _ _ _ _
  unfold l3_ref07_Tree_Owned at h
  dsimp only at h
  refine AW.seq ?_
  refine AW.seq ?_
  refine AW.reg ?_
  refine Lp (V_move rfl rfl) rfl rfl ?_
  refine Lp (V_move rfl rfl) rfl rfl ?_
  obtain ⟨p11_6, hc, h⟩ := h
  refine Lp (V_nil rfl (by rw [← hc]; rfl)) rfl rfl ?_
  refine Lp (V_fld rfl Tryz.underlying157 rfl ty155 (by decide) rfl) rfl rfl ?_
  obtain ⟨x13_7, hc, h⟩ := h
  refine Ls rfl rfl (X_ld rfl Tryz.underlying155 rfl rfl hc ?_)
  refine Lp (V_lenL rfl rfl Tryz.underlying155 rfl rfl) rfl rfl ?_
  refine Lp (V_lss rfl rfl rfl) rfl rfl ?_
  refine Lnil ?_
  refine thenN ?_
  refine AW.iff rfl decide_eq_true_iff h (fun h => ?_) (fun h => ?_)
  rotate_left
  · refine AW.exit ?_
    refine thenE ?_
    refine thenE ?_
    refine blockE ?_
    refine thenN ?_
    exact ⟨_, (FrLe.cons rfl (FrLe.nil _)), h⟩
  refine AW.skip ?_
  refine thenN ?_
  refine AW.seqJ (fun fr σ => ∃ (x5_9 : Sl), FrLe [(0, .pointer a0), (1, Sl.v a1), (6, .int .i64 x6_5), (5, Sl.v x5_9)] fr ∧ j8_ref07_Tree_Owned B ro a0 a1 x6_5 Q Y3 x5_9 σ) ?_ ?_
  · rintro fr σ ⟨x5_9, hl, h⟩
    refine AW.weaken ?_ hl (HLe.refl _)
    unfold j8_ref07_Tree_Owned at h
    refine AW.reg ?_
    refine Lp (V_move rfl rfl) rfl rfl ?_
    refine Lp (V_add rfl rfl rfl) rfl rfl ?_
    refine Lp (V_asg rfl rfl) rfl rfl ?_
    refine Lnil ?_
    refine thenN ?_
    refine ARound.head (fr' := [(0, .pointer a0), (1, Sl.v a1), (5, Sl.v x5_9), (6, .int .i64 (IntKind.i64.wrap (x6_5 + 1)))]) ?_ (FrLe.cons rfl (FrLe.cons rfl (FrLe.cons rfl (FrLe.cons rfl (FrLe.nil _)))))
    exact hY3 _ _ h
  refine AW.block ?_
  refine AW.seq ?_
  refine AW.reg ?_
  refine Lp (V_asg rfl rfl) rfl rfl ?_
  refine Lnil ?_
  refine thenN ?_
  refine AW.block ?_
  refine ARound.loop (fr' := [(0, .pointer a0), (1, Sl.v a1), (6, .int .i64 x6_5), (5, Sl.v x5_4), (7, .int .i64 0)]) ?_ (FrLe.cons rfl (FrLe.cons rfl (FrLe.cons rfl (FrLe.cons rfl (FrLe.cons rfl (FrLe.nil _))))))
  refine h (fun ⟨x5_11, x7_12⟩ σ => ARound _ _ _ _ _ _ [(0, .pointer a0), (1, Sl.v a1), (6, .int .i64 x6_5), (5, Sl.v x5_11), (7, .int .i64 x7_12)] σ) ?_
  rintro ⟨x5_11, x7_12⟩ σ Y10 hY10 h
  show AW _ _ _ _ _ _ _ _
  unfold l10_ref07_Tree_Owned at h
  dsimp only at h
  refine AW.seq ?_
  refine AW.seq ?_
  refine AW.reg ?_
  refine Lp (V_move rfl rfl) rfl rfl ?_
  refine Lp (V_move rfl rfl) rfl rfl ?_
  refine Lp (V_lenL rfl rfl Tryz.underlying58 rfl rfl) rfl rfl ?_
  refine Lp (V_lss rfl rfl rfl) rfl rfl ?_
  refine Lnil ?_
  refine thenN ?_
  refine AW.iff rfl decide_eq_true_iff h (fun h => ?_) (fun h => ?_)
  rotate_left
  · refine AW.exit ?_
    refine thenE ?_
    refine thenE ?_
    refine blockE ?_
    refine blockN ?_
    refine thenN ?_
    exact ⟨_, (FrLe.cons rfl (FrLe.cons rfl (FrLe.cons rfl (FrLe.cons rfl (FrLe.nil _))))), h⟩
  refine AW.skip ?_
  refine thenN ?_
  refine AW.seq ?_
  refine AW.block ?_
  refine AW.seq ?_
  refine AW.reg ?_
  refine Lp (V_move rfl rfl) rfl rfl ?_
  obtain ⟨p25_13, hc, h⟩ := h
  refine Lp (V_nil rfl (by rw [← hc]; rfl)) rfl rfl ?_
  refine Lp (V_fld rfl Tryz.underlying157 rfl ty155 (by decide) rfl) rfl rfl ?_
  obtain ⟨x27_14, hc, h⟩ := h
  refine Ls rfl rfl (X_ld rfl Tryz.underlying155 rfl rfl hc ?_)
  refine Lp (V_move rfl rfl) rfl rfl ?_
  obtain ⟨p29_15, ha, h0, h1, h⟩ := h
  refine Lp (V_ixA rfl Tryz.underlying155 ty159 (ixL rfl ha) rfl h0 h1) rfl rfl ?_
  refine Lp (V_fld rfl Tryz.underlying159 rfl ty3 (by decide) rfl) rfl rfl ?_
  obtain ⟨x31_16, hc, h⟩ := h
  refine Ls rfl rfl (X_ld rfl Tryz.underlying3 rfl rfl hc ?_)
  refine Lp (V_asg rfl rfl) rfl rfl ?_
  refine Lnil ?_
  refine thenN ?_
  refine AW.seq ?_
  refine AW.reg ?_
  refine Lp (V_move rfl rfl) rfl rfl ?_
  refine Lp (V_neq rfl rfl rfl) rfl rfl ?_
  refine Lp (V_move rfl rfl) rfl rfl ?_
  refine LsplitJ 7 (!(decide (x31_16 = 0))) (bnot_iff decide_eq_true_iff) h (fun fr σ => ∃ (x41_18 : Bool), FrLe [(0, .pointer a0), (1, Sl.v a1), (5, Sl.v x5_11), (6, .int .i64 x6_5), (7, .int .i64 x7_12), (41, .bool x41_18)] fr ∧ j17_ref07_Tree_Owned B ro a0 a1 x5_11 x6_5 x7_12 Q Y3 Y10 x41_18 σ) ?_ ?_ ?_
  · intro h e2 hk2
    refine Lypb (V_move rfl rfl) rfl rfl rfl rfl e2 ?_
    refine Lypb (V_move rfl rfl) rfl rfl rfl rfl e2 ?_
    refine Lypb (V_move rfl rfl) rfl rfl rfl rfl e2 ?_
    obtain ⟨p38_25, ha, h0, h1, h⟩ := h
    refine Lypb (V_ixA rfl Tryz.underlying58 ty3 (ixL rfl ha) rfl h0 h1) rfl rfl rfl rfl e2 ?_
    obtain ⟨x39_26, hc, h⟩ := h
    refine Lyb rfl rfl rfl rfl e2 (X_ld rfl Tryz.underlying3 rfl rfl hc ?_)
    refine Lypb (V_eql rfl rfl rfl) rfl rfl rfl rfl e2 ?_
    refine Lp (V_pickT rfl (evb e2) rfl) rfl rfl ?_
    exact hk2 _ _ ⟨_, (FrLe.cons rfl (FrLe.cons rfl (FrLe.cons rfl (FrLe.cons rfl (FrLe.cons rfl (FrLe.cons rfl (FrLe.nil _))))))), h⟩
  · intro h e2 hk2
    refine Ln rfl rfl rfl rfl (.inl (by rw [e2]; rfl)) ?_
    refine Ln rfl rfl rfl rfl (.inl (by rw [e2]; rfl)) ?_
    refine Ln rfl rfl rfl rfl (.inl (by rw [e2]; rfl)) ?_
    refine Ln rfl rfl rfl rfl (.inl (by rw [e2]; rfl)) ?_
    refine Ln rfl rfl rfl rfl (.inl (by rw [e2]; rfl)) ?_
    refine Ln rfl rfl rfl rfl (.inl (by rw [e2]; rfl)) ?_
    refine Lp (V_pickF rfl (evb e2) rfl) rfl rfl ?_
    exact hk2 _ _ ⟨_, (FrLe.cons rfl (FrLe.cons rfl (FrLe.cons rfl (FrLe.cons rfl (FrLe.cons rfl (FrLe.cons rfl (FrLe.nil _))))))), h⟩
  rintro fr σ ⟨x41_18, hl, h⟩
  unfold j17_ref07_Tree_Owned at h
  refine Lfr hl ?_
  refine Lnil ?_
  refine thenN ?_
  refine AW.iff rfl Iff.rfl h (fun h => ?_) (fun h => ?_)
  rotate_left
  · refine AW.skip ?_
    refine blockN ?_
    refine thenN ?_
    refine AW.reg ?_
    refine Lp (V_move rfl rfl) rfl rfl ?_
    refine Lp (V_add rfl rfl rfl) rfl rfl ?_
    refine Lp (V_asg rfl rfl) rfl rfl ?_
    refine Lnil ?_
    refine thenN ?_
    refine ARound.head (fr' := [(0, .pointer a0), (1, Sl.v a1), (6, .int .i64 x6_5), (5, Sl.v x5_11), (7, .int .i64 (IntKind.i64.wrap (x7_12 + 1)))]) ?_ (FrLe.cons rfl (FrLe.cons rfl (FrLe.cons rfl (FrLe.cons rfl (FrLe.cons rfl (FrLe.nil _))))))
    exact hY10 _ _ h
  refine AW.seq ?_
  refine AW.reg ?_
  refine Lp (V_move rfl rfl) rfl rfl ?_
  refine Lp (V_move rfl rfl) rfl rfl ?_
  obtain ⟨p44_19, hc, h⟩ := h
  refine Lp (V_nil rfl (by rw [← hc]; rfl)) rfl rfl ?_
  refine Lp (V_fld rfl Tryz.underlying157 rfl ty155 (by decide) rfl) rfl rfl ?_
  obtain ⟨x46_20, hc, h⟩ := h
  refine Ls rfl rfl (X_ld rfl Tryz.underlying155 rfl rfl hc ?_)
  refine Lp (V_move rfl rfl) rfl rfl ?_
  obtain ⟨p48_21, ha, h0, h1, h⟩ := h
  refine Lp (V_ixA rfl Tryz.underlying155 ty159 (ixL rfl ha) rfl h0 h1) rfl rfl ?_
  refine Lp (V_fld rfl Tryz.underlying159 rfl ty9 (by decide) rfl) rfl rfl ?_
  obtain ⟨x50_22, hc, h⟩ := h
  refine Ls rfl rfl (X_ld rfl Tryz.underlying9 rfl rfl hc ?_)
  refine Ls rfl rfl (X_new (A_bsl (vs := [(0, .string x50_22)]) (cs := #[.string x50_22]) rfl Tryz.underlying25 ty9 (by decide) rfl rfl) fun x51_23 g1 g2 => ?_)
  replace h := h x51_23 g1 g2
  refine Ls rfl rfl (X_bi (s := Builtin.append_ #[25, 25] 25 #[Sl.v x5_11, Sl.v (⟨some ⟨x51_23, 0, none⟩, 1, 1⟩ : Sl)]) rfl rfl (fun _ => rfl) (awp_mono _ h ?_))
  rintro v σ ⟨x52_24, rfl, h⟩
  refine Lp (V_asg rfl rfl) rfl rfl ?_
  refine Lnil ?_
  refine thenN ?_
  refine AW.exit ?_
  refine blockO rfl ?_
  refine thenE ?_
  refine thenE ?_
  refine blockE ?_
  refine blockN ?_
  refine thenN ?_
  exact ⟨_, (FrLe.cons rfl (FrLe.cons rfl (FrLe.cons rfl (FrLe.cons rfl (FrLe.nil _))))), h⟩

def f_ref07_Tree_Get (B : World) (ro : AH) (a0 : Option Addr) (a1 : ByteArray) (σ : AH) (Q : ByteArray → Sl → Int → Int → Int → Int → Int → AH → Prop) : Prop :=
 nw ro σ (.cells #[.string ByteArray.empty, Sl.v (⟨none, 0, 0⟩ : Sl), .int .i64 0, .int .i64 0, .int .i64 0] 159) fun x4_1 σ =>
 c_ref02_Parts B ro a1 σ fun x12_2 x12_3 σ =>
 if ¬ (x12_3 = true) then
  stN ⟨x4_1, 0, none⟩ (fun σ =>
   ∃ (x4_4a : ByteArray) (x4_4b : Sl) (x4_4c : Int) (x4_4d : Int) (x4_4e : Int), cellsAt ro σ ⟨x4_1, 0, none⟩ 0 [.string x4_4a, Sl.v x4_4b, .int .i64 x4_4c, .int .i64 x4_4d, .int .i64 x4_4e] ∧
   Q x4_4a x4_4b x4_4c x4_4d x4_4e 0 20 σ) [.string ByteArray.empty, Sl.v (⟨none, 0, 0⟩ : Sl), .int .i64 0, .int .i64 0, .int .i64 0] 0 σ
 else
 c_ref07_Tree_Find B ro a0 a1 σ fun x20_5 σ =>
 if x20_5 < 0 then
  stN ⟨x4_1, 0, none⟩ (fun σ =>
   ∃ (x4_6a : ByteArray) (x4_6b : Sl) (x4_6c : Int) (x4_6d : Int) (x4_6e : Int), cellsAt ro σ ⟨x4_1, 0, none⟩ 0 [.string x4_6a, Sl.v x4_6b, .int .i64 x4_6c, .int .i64 x4_6d, .int .i64 x4_6e] ∧
   Q x4_6a x4_6b x4_6c x4_6d x4_6e 0 70 σ) [.string ByteArray.empty, Sl.v (⟨none, 0, 0⟩ : Sl), .int .i64 0, .int .i64 0, .int .i64 0] 0 σ
 else
 lent σ fun ψ σ =>
  ∃ p25_7 : Addr, a0 = some p25_7 ∧
  ∃ (x27_8 : Sl), acell (join ro ψ) (fun _ => none) p25_7 = some (Sl.v x27_8) ∧
  ∃ p29_9 : Addr, x27_8.a = some p29_9 ∧ (0 : Int) ≤ x20_5 ∧ x20_5 < (x27_8.len : Int) ∧
  ∃ (x30_10a : ByteArray) (x30_10b : Sl) (x30_10c : Int) (x30_10d : Int) (x30_10e : Int), cellsAt (join ro ψ) (fun _ => none) (p29_9.add (Int.toNat x20_5 * 5)) 0 [.string x30_10a, Sl.v x30_10b, .int .i64 x30_10c, .int .i64 x30_10d, .int .i64 x30_10e] ∧
  c_ref07_Tree_below B (join ro ψ) a0 a1 σ fun x33_11 σ =>
  stN ⟨x4_1, 0, none⟩ (fun σ =>
   (Disj ψ σ → (fun σ => 
    ∃ (x4_12a : ByteArray) (x4_12b : Sl) (x4_12c : Int) (x4_12d : Int) (x4_12e : Int), cellsAt ro σ ⟨x4_1, 0, none⟩ 0 [.string x4_12a, Sl.v x4_12b, .int .i64 x4_12c, .int .i64 x4_12d, .int .i64 x4_12e] ∧
    Q x4_12a x4_12b x4_12c x4_12d x4_12e x33_11 0 σ) (join ψ σ))) [.string x30_10a, Sl.v x30_10b, .int .i64 x30_10c, .int .i64 x30_10d, .int .i64 x30_10e] 0 σ

set_option maxRecDepth 100000 in
set_option maxHeartbeats 4000000 in
theorem ref07_Tree_Get_ok {B : World} {ro : AH} {a0 : Option Addr} {a1 : ByteArray} {σ : AH} {Q : ByteArray → Sl → Int → Int → Int → Int → Int → AH → Prop} (h : Sep ro σ → f_ref07_Tree_Get B ro a0 a1 σ Q) : c_ref07_Tree_Get B ro a0 a1 σ Q := by
  refine ACalls.of_sep fun hsep => ?_
  replace h := h hsep
  refine ACalls.of_body (args := [.pointer a0, .string a1]) Tryz.func89 rfl (by rw [Tryz.ntmps89]; simp) ?_
  rw [Tryz.ntmps89]
  unfold f_ref07_Tree_Get at h
  refine AW.seq ?_
  refine AW.reg ?_
  refine Ls rfl rfl (X_new (A_alloc rfl ty159) fun x4_1 g1 g2 => ?_)
  replace h := h x4_1 g1 g2
  refine Lp (V_asg rfl rfl) rfl rfl ?_
  refine Lp (V_asg rfl rfl) rfl rfl ?_
  refine Lnil ?_
  refine thenN ?_
  refine AW.seq ?_
  refine AW.seq ?_
  refine AW.reg ?_
  refine Lp (V_move rfl rfl) rfl rfl ?_
  refine Ls rfl rfl (X_call rfl Tryz.func64 rfl rfl rfl (ACalls.mono h ?_))
  rintro v σ ⟨x12_2, x12_3, rfl, h⟩
  refine Lp (V_move rfl rfl) rfl rfl ?_
  refine Lp (V_ext rfl rfl rfl) rfl rfl ?_
  refine Lp (V_ext rfl rfl rfl) rfl rfl ?_
  refine Lp (V_asg rfl rfl) rfl rfl ?_
  refine Lp (V_asg rfl rfl) rfl rfl ?_
  refine Lnil ?_
  refine thenN ?_
  refine AW.seq ?_
  refine AW.reg ?_
  refine Lp (V_move rfl rfl) rfl rfl ?_
  refine Lp (V_not rfl rfl) rfl rfl ?_
  refine Lnil ?_
  refine thenN ?_
  refine AW.iff rfl (bnot_iff Iff.rfl) h (fun h => ?_) (fun h => ?_)
  · refine AW.seq ?_
    refine AW.reg ?_
    refine Lp (V_bld (vs := []) (cs := #[.string ByteArray.empty, Sl.v (⟨none, 0, 0⟩ : Sl), .int .i64 0, .int .i64 0, .int .i64 0]) rfl Tryz.underlying159 ty159 pl159 rfl rfl) rfl rfl ?_
    refine Ls rfl rfl (X_st rfl ty159 rfl rfl rfl rfl (stN_mono h fun σ h => ?_))
    refine Lp (V_asg rfl rfl) rfl rfl ?_
    refine Lp (V_asg rfl rfl) rfl rfl ?_
    refine Lnil ?_
    refine thenN ?_
    refine AW.ret ?_
    refine thenR ?_
    obtain ⟨x4_4a, x4_4b, x4_4c, x4_4d, x4_4e, hc0, h⟩ := h
    exact bRM Tryz.results89 (rCons (rAgg rfl Tryz.underlying159 rfl ty159 hc0) (rCons (rTmp rfl) (rCons (rTmp rfl) rNil))) ⟨_, _, _, _, _, _, _, rfl, h⟩
  refine AW.skip ?_
  refine thenN ?_
  refine AW.seq ?_
  refine AW.reg ?_
  refine Lp (V_move rfl rfl) rfl rfl ?_
  refine Lp (V_move rfl rfl) rfl rfl ?_
  refine Ls rfl rfl (X_call rfl Tryz.func84 rfl rfl rfl (ACalls.mono h ?_))
  rintro v σ ⟨x20_5, rfl, h⟩
  refine Lp (V_asg rfl rfl) rfl rfl ?_
  refine Lnil ?_
  refine thenN ?_
  refine AW.seq ?_
  refine AW.seq ?_
  refine AW.reg ?_
  refine Lp (V_move rfl rfl) rfl rfl ?_
  refine Lp (V_lss rfl rfl rfl) rfl rfl ?_
  refine Lnil ?_
  refine thenN ?_
  refine AW.iff rfl decide_eq_true_iff h (fun h => ?_) (fun h => ?_)
  · refine AW.seq ?_
    refine AW.reg ?_
    refine Lp (V_bld (vs := []) (cs := #[.string ByteArray.empty, Sl.v (⟨none, 0, 0⟩ : Sl), .int .i64 0, .int .i64 0, .int .i64 0]) rfl Tryz.underlying159 ty159 pl159 rfl rfl) rfl rfl ?_
    refine Ls rfl rfl (X_st rfl ty159 rfl rfl rfl rfl (stN_mono h fun σ h => ?_))
    refine Lp (V_asg rfl rfl) rfl rfl ?_
    refine Lp (V_asg rfl rfl) rfl rfl ?_
    refine Lnil ?_
    refine thenN ?_
    refine AW.ret ?_
    refine thenR ?_
    obtain ⟨x4_6a, x4_6b, x4_6c, x4_6d, x4_6e, hc0, h⟩ := h
    exact bRM Tryz.results89 (rCons (rAgg rfl Tryz.underlying159 rfl ty159 hc0) (rCons (rTmp rfl) (rCons (rTmp rfl) rNil))) ⟨_, _, _, _, _, _, _, rfl, h⟩
  refine AW.skip ?_
  refine thenN ?_
  refine AW.seq ?_
  refine AW.drawnL (fun i => ([0, 0, 0, 0, 0, 0, 0, 0, 0, 2, 2, 0, 0] : List Nat).getD i 2) [] [0, 1, 2, 3, 4, 5, 6, 7, 8, 9, 10, 11, 12] Tryz.mixed h (by decide +kernel) ?_
  clear h
  intro ψ σ h
  refine Dp rfl rfl rfl rfl (V_move rfl rfl) ?_
  obtain ⟨p25_7, hc, h⟩ := h
  refine Dp rfl rfl rfl rfl (V_nil rfl (by rw [← hc]; rfl)) ?_
  refine Dp rfl rfl rfl rfl (V_fld rfl Tryz.underlying157 rfl ty155 (by decide) rfl) ?_
  obtain ⟨x27_8, hc, h⟩ := h
  refine Dp rfl rfl rfl rfl (V_ld rfl Tryz.underlying155 rfl rfl hc) ?_
  refine Dp rfl rfl rfl rfl (V_move rfl rfl) ?_
  obtain ⟨p29_9, ha, h0, h1, h⟩ := h
  refine Dp rfl rfl rfl rfl (V_ixA rfl Tryz.underlying155 ty159 (ixL rfl ha) rfl h0 h1) ?_
  obtain ⟨x30_10a, x30_10b, x30_10c, x30_10d, x30_10e, hc, h⟩ := h
  refine Dp rfl rfl rfl rfl (V_lda rfl Tryz.underlying159 rfl ty159 rfl hc) ?_
  refine Dp rfl rfl rfl rfl (V_move rfl rfl) ?_
  refine Dp rfl rfl rfl rfl (V_move rfl rfl) ?_
  refine Dg rfl rfl rfl rfl (X_call rfl Tryz.func85 rfl rfl rfl (ACalls.mono h ?_))
  rintro v σ ⟨x33_11, rfl, h⟩
  refine Dg rfl rfl rfl rfl (X_st rfl ty159 rfl rfl rfl rfl (stN_mono h fun σ h => ?_))
  refine Dp rfl rfl rfl rfl (V_asg rfl rfl) ?_
  refine Dp rfl rfl rfl rfl (V_asg rfl rfl) ?_
  refine ⟨_, FrEq.refl _, fun hdj => ?_⟩
  replace h := h hdj
  refine thenN ?_
  refine AW.ret ?_
  obtain ⟨x4_12a, x4_12b, x4_12c, x4_12d, x4_12e, hc0, h⟩ := h
  exact bRM Tryz.results89 (rCons (rAgg rfl Tryz.underlying159 rfl ty159 hc0) (rCons (rTmp rfl) (rCons (rTmp rfl) rNil))) ⟨_, _, _, _, _, _, _, rfl, h⟩

def j5_ref07_Tree_Children (B : World) (ro : AH) (Q : Sl → Int → AH → Prop) (x9_6 : Sl) (σ : AH) : Prop :=
 Q x9_6 0 σ

def j12_ref07_Tree_Children (B : World) (ro : AH) (a0 : Option Addr) (a1 : ByteArray) (x10_9 : Int) (Q : Sl → Int → AH → Prop) (Y7 : (Sl × Int) → AH → Prop) (x9_13 : Sl) (σ : AH) : Prop :=
 Y7 (x9_13, IntKind.i64.wrap (x10_9 + 1)) σ

def l7_ref07_Tree_Children (B : World) (ro : AH) (a0 : Option Addr) (a1 : ByteArray) (Q : Sl → Int → AH → Prop) : (Sl × Int) → AH → ((Sl × Int) → AH → Prop) → Prop := fun ⟨x9_8, x10_9⟩ σ Y7 =>
 ∃ p27_10 : Addr, a0 = some p27_10 ∧
 ∃ (x29_11 : Sl), acell ro σ p27_10 = some (Sl.v x29_11) ∧
 if x10_9 < (x29_11.len : Int) then
  ∃ p36_14 : Addr, a0 = some p36_14 ∧
  ∃ (x38_15 : Sl), acell ro σ p36_14 = some (Sl.v x38_15) ∧
  ∃ p40_16 : Addr, x38_15.a = some p40_16 ∧ (0 : Int) ≤ x10_9 ∧ x10_9 < (x38_15.len : Int) ∧
  ∃ (x42_17 : ByteArray), acell ro σ (p40_16.add (Int.toNat x10_9 * 5)) = some (.string x42_17) ∧
  c_ref02_Parent B ro x42_17 σ fun x43_18 x43_19 σ =>
  if (x43_19 = true) ∧ (x43_18 = a1) then
   ∃ p54_20 : Addr, a0 = some p54_20 ∧
   ∃ (x56_21 : Sl), acell ro σ p54_20 = some (Sl.v x56_21) ∧
   ∃ p58_22 : Addr, x56_21.a = some p58_22 ∧ (0 : Int) ≤ x10_9 ∧ x10_9 < (x56_21.len : Int) ∧
   ∃ (x60_23 : ByteArray), acell ro σ (p58_22.add (Int.toNat x10_9 * 5)) = some (.string x60_23) ∧
   c_ref02_Base B ro x60_23 σ fun x61_24 x61_25 σ =>
   nw ro σ (.cells #[.string x61_24] 9) fun x66_26 σ =>
   awp Tryz.prog ro (Builtin.append_ #[25, 25] 25 #[Sl.v x9_8, Sl.v (⟨some ⟨x66_26, 0, none⟩, 1, 1⟩ : Sl)]) (fun v σ => ∃ (x67_27 : Sl), v = Sl.v x67_27 ∧
    j12_ref07_Tree_Children B ro a0 a1 x10_9 Q Y7 x67_27 σ) σ
  else
  j12_ref07_Tree_Children B ro a0 a1 x10_9 Q Y7 x9_8 σ
 else
 j5_ref07_Tree_Children B ro Q x9_8 σ

def f_ref07_Tree_Children (B : World) (ro : AH) (a0 : Option Addr) (a1 : ByteArray) (σ : AH) (Q : Sl → Int → AH → Prop) : Prop :=
 c_ref07_Tree_Get B ro a0 a1 σ fun x18_1a x18_1b x18_1c x18_1d x18_1e x18_2 x18_3 σ =>
 nw ro σ (.cells #[.string ByteArray.empty, Sl.v (⟨none, 0, 0⟩ : Sl), .int .i64 0, .int .i64 0, .int .i64 0] 159) fun x6_4 σ =>
 stN ⟨x6_4, 0, none⟩ (fun σ =>
  if ¬ (x18_3 = 0) then
   Q (⟨none, 0, 0⟩ : Sl) x18_3 σ
  else
  lfpD (l7_ref07_Tree_Children B ro a0 a1 Q ) ((⟨none, 0, 0⟩ : Sl), 0) σ) [.string x18_1a, Sl.v x18_1b, .int .i64 x18_1c, .int .i64 x18_1d, .int .i64 x18_1e] 0 σ

set_option maxRecDepth 100000 in
set_option maxHeartbeats 4000000 in
theorem ref07_Tree_Children_ok {B : World} {ro : AH} {a0 : Option Addr} {a1 : ByteArray} {σ : AH} {Q : Sl → Int → AH → Prop} (h : Sep ro σ → f_ref07_Tree_Children B ro a0 a1 σ Q) : c_ref07_Tree_Children B ro a0 a1 σ Q := by
  refine ACalls.of_sep fun hsep => ?_
  replace h := h hsep
  refine ACalls.of_body (args := [.pointer a0, .string a1]) Tryz.func90 rfl (by rw [Tryz.ntmps90]; simp) ?_
  rw [Tryz.ntmps90]
  unfold f_ref07_Tree_Children at h
  refine AW.seq ?_
  refine AW.reg ?_
  refine Lp (V_asg rfl rfl) rfl rfl ?_
  refine Lp (V_asg rfl rfl) rfl rfl ?_
  refine Lnil ?_
  refine thenN ?_
  refine AW.seq ?_
  refine AW.seq ?_
  refine AW.reg ?_
  refine Lp (V_move rfl rfl) rfl rfl ?_
  refine Lp (V_move rfl rfl) rfl rfl ?_
  refine Ls rfl rfl (X_call rfl Tryz.func89 rfl rfl rfl (ACalls.mono h ?_))
  rintro v σ ⟨x18_1a, x18_1b, x18_1c, x18_1d, x18_1e, x18_2, x18_3, rfl, h⟩
  refine Lp (V_move rfl rfl) rfl rfl ?_
  refine Lp (V_ext rfl rfl rfl) rfl rfl ?_
  refine Lp (V_ext rfl rfl rfl) rfl rfl ?_
  refine Lp (V_ext rfl rfl rfl) rfl rfl ?_
  refine Ls rfl rfl (X_new (A_alloc rfl ty159) fun x6_4 g1 g2 => ?_)
  replace h := h x6_4 g1 g2
  refine Ls rfl rfl (X_st rfl ty159 rfl rfl rfl rfl (stN_mono h fun σ h => ?_))
  refine Lp (V_asg rfl rfl) rfl rfl ?_
  refine Lp (V_asg rfl rfl) rfl rfl ?_
  refine Lnil ?_
  refine thenN ?_
  refine AW.seq ?_
  refine AW.reg ?_
  refine Lp (V_move rfl rfl) rfl rfl ?_
  refine Lp (V_neq rfl rfl rfl) rfl rfl ?_
  refine Lnil ?_
  refine thenN ?_
  refine AW.iff rfl (bnot_iff decide_eq_true_iff) h (fun h => ?_) (fun h => ?_)
  · refine AW.seq ?_
    refine AW.reg ?_
    refine Lp (V_move rfl rfl) rfl rfl ?_
    refine Lp (V_asg rfl rfl) rfl rfl ?_
    refine Lp (V_asg rfl rfl) rfl rfl ?_
    refine Lnil ?_
    refine thenN ?_
    refine AW.ret ?_
    refine thenR ?_
    exact bR2 Tryz.results90 rfl rfl ⟨_, _, rfl, h⟩
  refine AW.skip ?_
  refine thenN ?_
  refine AW.seq ?_
  refine AW.reg ?_
  refine Lp (V_asg rfl rfl) rfl rfl ?_
  refine Lnil ?_
  refine thenN ?_
  refine AW.seqJ (fun fr σ => ∃ (x9_6 : Sl), FrLe [(9, Sl.v x9_6)] fr ∧ j5_ref07_Tree_Children B ro Q x9_6 σ) ?_ ?_
  · rintro fr σ ⟨x9_6, hl, h⟩
    refine AW.weaken ?_ hl (HLe.refl _)
    unfold j5_ref07_Tree_Children at h
    refine AW.seq ?_
    refine AW.reg ?_
    refine Lp (V_move rfl rfl) rfl rfl ?_
    refine Lp (V_asg rfl rfl) rfl rfl ?_
    refine Lp (V_asg rfl rfl) rfl rfl ?_
    refine Lnil ?_
    refine thenN ?_
    refine AW.ret ?_
    exact bR2 Tryz.results90 rfl rfl ⟨_, _, rfl, h⟩
  refine AW.seq ?_
  refine AW.reg ?_
  refine Lp (V_asg rfl rfl) rfl rfl ?_
  refine Lnil ?_
  refine thenN ?_
  refine AW.block ?_
  refine ARound.loop (fr' := [(0, .pointer a0), (1, .string a1), (9, Sl.v (⟨none, 0, 0⟩ : Sl)), (10, .int .i64 0)]) ?_ (FrLe.cons rfl (FrLe.cons rfl (FrLe.cons rfl (FrLe.cons rfl (FrLe.nil _)))))
  refine h (fun ⟨x9_8, x10_9⟩ σ => ARound _ _ _ _ _ _ [(0, .pointer a0), (1, .string a1), (9, Sl.v x9_8), (10, .int .i64 x10_9)] σ) ?_
  rintro ⟨x9_8, x10_9⟩ σ Y7 hY7 h
  show AW _ _ _ _ _ _ _ _
  unfold l7_ref07_Tree_Children at h
  dsimp only at h
  refine AW.seq ?_
  refine AW.seq ?_
  refine AW.reg ?_
  refine Lp (V_move rfl rfl) rfl rfl ?_
  refine Lp (V_move rfl rfl) rfl rfl ?_
  obtain ⟨p27_10, hc, h⟩ := h
  refine Lp (V_nil rfl (by rw [← hc]; rfl)) rfl rfl ?_
  refine Lp (V_fld rfl Tryz.underlying157 rfl ty155 (by decide) rfl) rfl rfl ?_
  obtain ⟨x29_11, hc, h⟩ := h
  refine Ls rfl rfl (X_ld rfl Tryz.underlying155 rfl rfl hc ?_)
  refine Lp (V_lenL rfl rfl Tryz.underlying155 rfl rfl) rfl rfl ?_
  refine Lp (V_lss rfl rfl rfl) rfl rfl ?_
  refine Lnil ?_
  refine thenN ?_
  refine AW.iff rfl decide_eq_true_iff h (fun h => ?_) (fun h => ?_)
  rotate_left
  · refine AW.exit ?_
    refine thenE ?_
    refine thenE ?_
    refine blockE ?_
    refine thenN ?_
    exact ⟨_, (FrLe.cons rfl (FrLe.nil _)), h⟩
  refine AW.skip ?_
  refine thenN ?_
  refine AW.seqJ (fun fr σ => ∃ (x9_13 : Sl), FrLe [(0, .pointer a0), (1, .string a1), (10, .int .i64 x10_9), (9, Sl.v x9_13)] fr ∧ j12_ref07_Tree_Children B ro a0 a1 x10_9 Q Y7 x9_13 σ) ?_ ?_
  · rintro fr σ ⟨x9_13, hl, h⟩
    refine AW.weaken ?_ hl (HLe.refl _)
    unfold j12_ref07_Tree_Children at h
    refine AW.reg ?_
    refine Lp (V_move rfl rfl) rfl rfl ?_
    refine Lp (V_add rfl rfl rfl) rfl rfl ?_
    refine Lp (V_asg rfl rfl) rfl rfl ?_
    refine Lnil ?_
    refine thenN ?_
    refine ARound.head (fr' := [(0, .pointer a0), (1, .string a1), (9, Sl.v x9_13), (10, .int .i64 (IntKind.i64.wrap (x10_9 + 1)))]) ?_ (FrLe.cons rfl (FrLe.cons rfl (FrLe.cons rfl (FrLe.cons rfl (FrLe.nil _)))))
    exact hY7 _ _ h
  refine AW.block ?_
  refine AW.seq ?_
  refine AW.reg ?_
  refine Lp (V_move rfl rfl) rfl rfl ?_
  obtain ⟨p36_14, hc, h⟩ := h
  refine Lp (V_nil rfl (by rw [← hc]; rfl)) rfl rfl ?_
  refine Lp (V_fld rfl Tryz.underlying157 rfl ty155 (by decide) rfl) rfl rfl ?_
  obtain ⟨x38_15, hc, h⟩ := h
  refine Ls rfl rfl (X_ld rfl Tryz.underlying155 rfl rfl hc ?_)
  refine Lp (V_move rfl rfl) rfl rfl ?_
  obtain ⟨p40_16, ha, h0, h1, h⟩ := h
  refine Lp (V_ixA rfl Tryz.underlying155 ty159 (ixL rfl ha) rfl h0 h1) rfl rfl ?_
  refine Lp (V_fld rfl Tryz.underlying159 rfl ty9 (by decide) rfl) rfl rfl ?_
  obtain ⟨x42_17, hc, h⟩ := h
  refine Ls rfl rfl (X_ld rfl Tryz.underlying9 rfl rfl hc ?_)
  refine Ls rfl rfl (X_call rfl Tryz.func19 rfl rfl rfl (ACalls.mono h ?_))
  rintro v σ ⟨x43_18, x43_19, rfl, h⟩
  refine Lp (V_move rfl rfl) rfl rfl ?_
  refine Lp (V_ext rfl rfl rfl) rfl rfl ?_
  refine Lp (V_ext rfl rfl rfl) rfl rfl ?_
  refine Lp (V_asg rfl rfl) rfl rfl ?_
  refine Lp (V_asg rfl rfl) rfl rfl ?_
  refine Lnil ?_
  refine thenN ?_
  refine AW.seq ?_
  refine AW.reg ?_
  refine Lp (V_move rfl rfl) rfl rfl ?_
  refine Lp (V_move rfl rfl) rfl rfl ?_
  refine Lsplit 4 x43_19 [(0, .pointer a0), (1, .string a1), (9, Sl.v x9_8), (10, .int .i64 x10_9), (51, .bool (x43_19 && (decide (x43_18 = a1))))] ?_ ?_ ?_
  · intro e1 hk1
    refine Lypb (V_move rfl rfl) rfl rfl rfl rfl e1 ?_
    refine Lypb (V_move rfl rfl) rfl rfl rfl rfl e1 ?_
    refine Lypb (V_eqlS rfl rfl rfl) rfl rfl rfl rfl e1 ?_
    refine Lp (V_pickT rfl (evb e1) rfl) rfl rfl ?_
    exact hk1 _ (FrLe.cons rfl (FrLe.cons rfl (FrLe.cons rfl (FrLe.cons rfl (FrLe.cons (by rw [e1]; rfl) (FrLe.nil _))))))
  · intro e1 hk1
    refine Ln rfl rfl rfl rfl (.inl (by rw [e1]; rfl)) ?_
    refine Ln rfl rfl rfl rfl (.inl (by rw [e1]; rfl)) ?_
    refine Ln rfl rfl rfl rfl (.inl (by rw [e1]; rfl)) ?_
    refine Lp (V_pickF rfl (evb e1) rfl) rfl rfl ?_
    exact hk1 _ (FrLe.cons rfl (FrLe.cons rfl (FrLe.cons rfl (FrLe.cons rfl (FrLe.cons (by rw [e1]; rfl) (FrLe.nil _))))))
  intro fr hl
  refine Lfr hl ?_
  refine Lnil ?_
  refine thenN ?_
  refine AW.iff rfl (band_iff Iff.rfl decide_eq_true_iff) h (fun h => ?_) (fun h => ?_)
  rotate_left
  · refine AW.skip ?_
    refine blockN ?_
    refine thenN ?_
    exact ⟨_, (FrLe.cons rfl (FrLe.cons rfl (FrLe.cons rfl (FrLe.cons rfl (FrLe.nil _))))), h⟩
  refine AW.seq ?_
  refine AW.reg ?_
  refine Lp (V_move rfl rfl) rfl rfl ?_
  obtain ⟨p54_20, hc, h⟩ := h
  refine Lp (V_nil rfl (by rw [← hc]; rfl)) rfl rfl ?_
  refine Lp (V_fld rfl Tryz.underlying157 rfl ty155 (by decide) rfl) rfl rfl ?_
  obtain ⟨x56_21, hc, h⟩ := h
  refine Ls rfl rfl (X_ld rfl Tryz.underlying155 rfl rfl hc ?_)
  refine Lp (V_move rfl rfl) rfl rfl ?_
  obtain ⟨p58_22, ha, h0, h1, h⟩ := h
  refine Lp (V_ixA rfl Tryz.underlying155 ty159 (ixL rfl ha) rfl h0 h1) rfl rfl ?_
  refine Lp (V_fld rfl Tryz.underlying159 rfl ty9 (by decide) rfl) rfl rfl ?_
  obtain ⟨x60_23, hc, h⟩ := h
  refine Ls rfl rfl (X_ld rfl Tryz.underlying9 rfl rfl hc ?_)
  refine Ls rfl rfl (X_call rfl Tryz.func122 rfl rfl rfl (ACalls.mono h ?_))
  rintro v σ ⟨x61_24, x61_25, rfl, h⟩
  refine Lp (V_move rfl rfl) rfl rfl ?_
  refine Lp (V_ext rfl rfl rfl) rfl rfl ?_
  refine Lp (V_ext rfl rfl rfl) rfl rfl ?_
  refine Lp (V_asg rfl rfl) rfl rfl ?_
  refine Lp (V_asg rfl rfl) rfl rfl ?_
  refine Lnil ?_
  refine thenN ?_
  refine AW.reg ?_
  refine Lp (V_move rfl rfl) rfl rfl ?_
  refine Lp (V_move rfl rfl) rfl rfl ?_
  refine Ls rfl rfl (X_new (A_bsl (vs := [(0, .string x61_24)]) (cs := #[.string x61_24]) rfl Tryz.underlying25 ty9 (by decide) rfl rfl) fun x66_26 g1 g2 => ?_)
  replace h := h x66_26 g1 g2
  refine Ls rfl rfl (X_bi (s := Builtin.append_ #[25, 25] 25 #[Sl.v x9_8, Sl.v (⟨some ⟨x66_26, 0, none⟩, 1, 1⟩ : Sl)]) rfl rfl (fun _ => rfl) (awp_mono _ h ?_))
  rintro v σ ⟨x67_27, rfl, h⟩
  refine Lp (V_asg rfl rfl) rfl rfl ?_
  refine Lnil ?_
  refine blockN ?_
  refine thenN ?_
  exact ⟨_, (FrLe.cons rfl (FrLe.cons rfl (FrLe.cons rfl (FrLe.cons rfl (FrLe.nil _))))), h⟩

def j3_ref07_Tree_Paths (B : World) (ro : AH) (Q : Sl → Int → AH → Prop) (x8_4 : Sl) (σ : AH) : Prop :=
 Q x8_4 0 σ

def j10_ref07_Tree_Paths (B : World) (ro : AH) (a0 : Option Addr) (a1 : ByteArray) (x9_7 : Int) (Q : Sl → Int → AH → Prop) (Y5 : (Sl × Int) → AH → Prop) (x8_11 : Sl) (σ : AH) : Prop :=
 Y5 (x8_11, IntKind.i64.wrap (x9_7 + 1)) σ

def l5_ref07_Tree_Paths (B : World) (ro : AH) (a0 : Option Addr) (a1 : ByteArray) (Q : Sl → Int → AH → Prop) : (Sl × Int) → AH → ((Sl × Int) → AH → Prop) → Prop := fun ⟨x8_6, x9_7⟩ σ Y5 =>
 ∃ p21_8 : Addr, a0 = some p21_8 ∧
 ∃ (x23_9 : Sl), acell ro σ p21_8 = some (Sl.v x23_9) ∧
 if x9_7 < (x23_9.len : Int) then
  ∃ p31_12 : Addr, a0 = some p31_12 ∧
  ∃ (x33_13 : Sl), acell ro σ p31_12 = some (Sl.v x33_13) ∧
  ∃ p35_14 : Addr, x33_13.a = some p35_14 ∧ (0 : Int) ≤ x9_7 ∧ x9_7 < (x33_13.len : Int) ∧
  ∃ (x37_15 : ByteArray), acell ro σ (p35_14.add (Int.toNat x9_7 * 5)) = some (.string x37_15) ∧
  c_ref02_Under B ro a1 x37_15 σ fun x38_16 x38_17 σ =>
  if x38_16 = true then
   ∃ p44_18 : Addr, a0 = some p44_18 ∧
   ∃ (x46_19 : Sl), acell ro σ p44_18 = some (Sl.v x46_19) ∧
   ∃ p48_20 : Addr, x46_19.a = some p48_20 ∧ (0 : Int) ≤ x9_7 ∧ x9_7 < (x46_19.len : Int) ∧
   ∃ (x50_21 : ByteArray), acell ro σ (p48_20.add (Int.toNat x9_7 * 5)) = some (.string x50_21) ∧
   nw ro σ (.cells #[.string x50_21] 9) fun x51_22 σ =>
   awp Tryz.prog ro (Builtin.append_ #[25, 25] 25 #[Sl.v x8_6, Sl.v (⟨some ⟨x51_22, 0, none⟩, 1, 1⟩ : Sl)]) (fun v σ => ∃ (x52_23 : Sl), v = Sl.v x52_23 ∧
    j10_ref07_Tree_Paths B ro a0 a1 x9_7 Q Y5 x52_23 σ) σ
  else
  j10_ref07_Tree_Paths B ro a0 a1 x9_7 Q Y5 x8_6 σ
 else
 j3_ref07_Tree_Paths B ro Q x8_6 σ

def f_ref07_Tree_Paths (B : World) (ro : AH) (a0 : Option Addr) (a1 : ByteArray) (σ : AH) (Q : Sl → Int → AH → Prop) : Prop :=
 c_ref02_Parts B ro a1 σ fun x14_1 x14_2 σ =>
 if ¬ (x14_2 = true) then
  Q (⟨none, 0, 0⟩ : Sl) 20 σ
 else
 lfpD (l5_ref07_Tree_Paths B ro a0 a1 Q ) ((⟨none, 0, 0⟩ : Sl), 0) σ

set_option maxRecDepth 100000 in
set_option maxHeartbeats 4000000 in
theorem ref07_Tree_Paths_ok {B : World} {ro : AH} {a0 : Option Addr} {a1 : ByteArray} {σ : AH} {Q : Sl → Int → AH → Prop} (h : Sep ro σ → f_ref07_Tree_Paths B ro a0 a1 σ Q) : c_ref07_Tree_Paths B ro a0 a1 σ Q := by
  refine ACalls.of_sep fun hsep => ?_
  replace h := h hsep
  refine ACalls.of_body (args := [.pointer a0, .string a1]) Tryz.func91 rfl (by rw [Tryz.ntmps91]; simp) ?_
  rw [Tryz.ntmps91]
  unfold f_ref07_Tree_Paths at h
  refine AW.seq ?_
  refine AW.reg ?_
  refine Lp (V_asg rfl rfl) rfl rfl ?_
  refine Lp (V_asg rfl rfl) rfl rfl ?_
  refine Lnil ?_
  refine thenN ?_
  refine AW.seq ?_
  refine AW.seq ?_
  refine AW.reg ?_
  refine Lp (V_move rfl rfl) rfl rfl ?_
  refine Ls rfl rfl (X_call rfl Tryz.func64 rfl rfl rfl (ACalls.mono h ?_))
  rintro v σ ⟨x14_1, x14_2, rfl, h⟩
  refine Lp (V_move rfl rfl) rfl rfl ?_
  refine Lp (V_ext rfl rfl rfl) rfl rfl ?_
  refine Lp (V_ext rfl rfl rfl) rfl rfl ?_
  refine Lp (V_asg rfl rfl) rfl rfl ?_
  refine Lp (V_asg rfl rfl) rfl rfl ?_
  refine Lnil ?_
  refine thenN ?_
  refine AW.seq ?_
  refine AW.reg ?_
  refine Lp (V_move rfl rfl) rfl rfl ?_
  refine Lp (V_not rfl rfl) rfl rfl ?_
  refine Lnil ?_
  refine thenN ?_
  refine AW.iff rfl (bnot_iff Iff.rfl) h (fun h => ?_) (fun h => ?_)
  · refine AW.seq ?_
    refine AW.reg ?_
    refine Lp (V_asg rfl rfl) rfl rfl ?_
    refine Lp (V_asg rfl rfl) rfl rfl ?_
    refine Lnil ?_
    refine thenN ?_
    refine AW.ret ?_
    refine thenR ?_
    exact bR2 Tryz.results91 rfl rfl ⟨_, _, rfl, h⟩
  refine AW.skip ?_
  refine thenN ?_
  refine AW.seq ?_
  refine AW.reg ?_
  refine Lp (V_asg rfl rfl) rfl rfl ?_
  refine Lnil ?_
  refine thenN ?_
  refine AW.seqJ (fun fr σ => ∃ (x8_4 : Sl), FrLe [(8, Sl.v x8_4)] fr ∧ j3_ref07_Tree_Paths B ro Q x8_4 σ) ?_ ?_
  · rintro fr σ ⟨x8_4, hl, h⟩
    refine AW.weaken ?_ hl (HLe.refl _)
    unfold j3_ref07_Tree_Paths at h
    refine AW.seq ?_
    refine AW.reg ?_
    refine Lp (V_move rfl rfl) rfl rfl ?_
    refine Lp (V_asg rfl rfl) rfl rfl ?_
    refine Lp (V_asg rfl rfl) rfl rfl ?_
    refine Lnil ?_
    refine thenN ?_
    refine AW.ret ?_
    exact bR2 Tryz.results91 rfl rfl ⟨_, _, rfl, h⟩
  refine AW.seq ?_
  refine AW.reg ?_
  refine Lp (V_asg rfl rfl) rfl rfl ?_
  refine Lnil ?_
  refine thenN ?_
  refine AW.block ?_
  refine ARound.loop (fr' := [(0, .pointer a0), (1, .string a1), (8, Sl.v (⟨none, 0, 0⟩ : Sl)), (9, .int .i64 0)]) ?_ (FrLe.cons rfl (FrLe.cons rfl (FrLe.cons rfl (FrLe.cons rfl (FrLe.nil _)))))
  refine h (fun ⟨x8_6, x9_7⟩ σ => ARound _ _ _ _ _ _ [(0, .pointer a0), (1, .string a1), (8, Sl.v x8_6), (9, .int .i64 x9_7)] σ) ?_
  rintro ⟨x8_6, x9_7⟩ σ Y5 hY5 h
  show AW _ _ _ _ _ _ _ _
  unfold l5_ref07_Tree_Paths at h
  dsimp only at h
  refine AW.seq ?_
  refine AW.seq ?_
  refine AW.reg ?_
  refine Lp (V_move rfl rfl) rfl rfl ?_
  refine Lp (V_move rfl rfl) rfl rfl ?_
  obtain ⟨p21_8, hc, h⟩ := h
  refine Lp (V_nil rfl (by rw [← hc]; rfl)) rfl rfl ?_
  refine Lp (V_fld rfl Tryz.underlying157 rfl ty155 (by decide) rfl) rfl rfl ?_
  obtain ⟨x23_9, hc, h⟩ := h
  refine Ls rfl rfl (X_ld rfl Tryz.underlying155 rfl rfl hc ?_)
  refine Lp (V_lenL rfl rfl Tryz.underlying155 rfl rfl) rfl rfl ?_
  refine Lp (V_lss rfl rfl rfl) rfl rfl ?_
  refine Lnil ?_
  refine thenN ?_
  refine AW.iff rfl decide_eq_true_iff h (fun h => ?_) (fun h => ?_)
  rotate_left
  · refine AW.exit ?_
    refine thenE ?_
    refine thenE ?_
    refine blockE ?_
    refine thenN ?_
    exact ⟨_, (FrLe.cons rfl (FrLe.nil _)), h⟩
  refine AW.skip ?_
  refine thenN ?_
  refine AW.seqJ (fun fr σ => ∃ (x8_11 : Sl), FrLe [(0, .pointer a0), (1, .string a1), (9, .int .i64 x9_7), (8, Sl.v x8_11)] fr ∧ j10_ref07_Tree_Paths B ro a0 a1 x9_7 Q Y5 x8_11 σ) ?_ ?_
  · rintro fr σ ⟨x8_11, hl, h⟩
    refine AW.weaken ?_ hl (HLe.refl _)
    unfold j10_ref07_Tree_Paths at h
    refine AW.reg ?_
    refine Lp (V_move rfl rfl) rfl rfl ?_
    refine Lp (V_add rfl rfl rfl) rfl rfl ?_
    refine Lp (V_asg rfl rfl) rfl rfl ?_
    refine Lnil ?_
    refine thenN ?_
    refine ARound.head (fr' := [(0, .pointer a0), (1, .string a1), (8, Sl.v x8_11), (9, .int .i64 (IntKind.i64.wrap (x9_7 + 1)))]) ?_ (FrLe.cons rfl (FrLe.cons rfl (FrLe.cons rfl (FrLe.cons rfl (FrLe.nil _)))))
    exact hY5 _ _ h
  refine AW.block ?_
  refine AW.seq ?_
  refine AW.reg ?_
  refine Lp (V_move rfl rfl) rfl rfl ?_
  refine Lp (V_move rfl rfl) rfl rfl ?_
  obtain ⟨p31_12, hc, h⟩ := h
  refine Lp (V_nil rfl (by rw [← hc]; rfl)) rfl rfl ?_
  refine Lp (V_fld rfl Tryz.underlying157 rfl ty155 (by decide) rfl) rfl rfl ?_
  obtain ⟨x33_13, hc, h⟩ := h
  refine Ls rfl rfl (X_ld rfl Tryz.underlying155 rfl rfl hc ?_)
  refine Lp (V_move rfl rfl) rfl rfl ?_
  obtain ⟨p35_14, ha, h0, h1, h⟩ := h
  refine Lp (V_ixA rfl Tryz.underlying155 ty159 (ixL rfl ha) rfl h0 h1) rfl rfl ?_
  refine Lp (V_fld rfl Tryz.underlying159 rfl ty9 (by decide) rfl) rfl rfl ?_
  obtain ⟨x37_15, hc, h⟩ := h
  refine Ls rfl rfl (X_ld rfl Tryz.underlying9 rfl rfl hc ?_)
  refine Ls rfl rfl (X_call rfl Tryz.func123 rfl rfl rfl (ACalls.mono h ?_))
  rintro v σ ⟨x38_16, x38_17, rfl, h⟩
  refine Lp (V_move rfl rfl) rfl rfl ?_
  refine Lp (V_ext rfl rfl rfl) rfl rfl ?_
  refine Lp (V_ext rfl rfl rfl) rfl rfl ?_
  refine Lp (V_asg rfl rfl) rfl rfl ?_
  refine Lp (V_asg rfl rfl) rfl rfl ?_
  refine Lnil ?_
  refine thenN ?_
  refine AW.seq ?_
  refine AW.reg ?_
  refine Lp (V_move rfl rfl) rfl rfl ?_
  refine Lnil ?_
  refine thenN ?_
  refine AW.iff rfl Iff.rfl h (fun h => ?_) (fun h => ?_)
  rotate_left
  · refine AW.skip ?_
    refine blockN ?_
    refine thenN ?_
    exact ⟨_, (FrLe.cons rfl (FrLe.cons rfl (FrLe.cons rfl (FrLe.cons rfl (FrLe.nil _))))), h⟩
  refine AW.reg ?_
  refine Lp (V_move rfl rfl) rfl rfl ?_
  refine Lp (V_move rfl rfl) rfl rfl ?_
  obtain ⟨p44_18, hc, h⟩ := h
  refine Lp (V_nil rfl (by rw [← hc]; rfl)) rfl rfl ?_
  refine Lp (V_fld rfl Tryz.underlying157 rfl ty155 (by decide) rfl) rfl rfl ?_
  obtain ⟨x46_19, hc, h⟩ := h
  refine Ls rfl rfl (X_ld rfl Tryz.underlying155 rfl rfl hc ?_)
  refine Lp (V_move rfl rfl) rfl rfl ?_
  obtain ⟨p48_20, ha, h0, h1, h⟩ := h
  refine Lp (V_ixA rfl Tryz.underlying155 ty159 (ixL rfl ha) rfl h0 h1) rfl rfl ?_
  refine Lp (V_fld rfl Tryz.underlying159 rfl ty9 (by decide) rfl) rfl rfl ?_
  obtain ⟨x50_21, hc, h⟩ := h
  refine Ls rfl rfl (X_ld rfl Tryz.underlying9 rfl rfl hc ?_)
  refine Ls rfl rfl (X_new (A_bsl (vs := [(0, .string x50_21)]) (cs := #[.string x50_21]) rfl Tryz.underlying25 ty9 (by decide) rfl rfl) fun x51_22 g1 g2 => ?_)
  replace h := h x51_22 g1 g2
  refine Ls rfl rfl (X_bi (s := Builtin.append_ #[25, 25] 25 #[Sl.v x8_6, Sl.v (⟨some ⟨x51_22, 0, none⟩, 1, 1⟩ : Sl)]) rfl rfl (fun _ => rfl) (awp_mono _ h ?_))
  rintro v σ ⟨x52_23, rfl, h⟩
  refine Lp (V_asg rfl rfl) rfl rfl ?_
  refine Lnil ?_
  refine blockN ?_
  refine thenN ?_
  exact ⟨_, (FrLe.cons rfl (FrLe.cons rfl (FrLe.cons rfl (FrLe.cons rfl (FrLe.nil _))))), h⟩

def f_ref07_bad (B : World) (ro : AH) (a0 : ByteArray) (σ : AH) (Q : Bool → AH → Prop) : Prop :=
 c_ref02_Parent B ro a0 σ fun x7_1 x7_2 σ =>
 Q (!x7_2) σ

set_option maxRecDepth 100000 in
set_option maxHeartbeats 4000000 in
theorem ref07_bad_ok {B : World} {ro : AH} {a0 : ByteArray} {σ : AH} {Q : Bool → AH → Prop} (h : Sep ro σ → f_ref07_bad B ro a0 σ Q) : c_ref07_bad B ro a0 σ Q := by
  refine ACalls.of_sep fun hsep => ?_
  replace h := h hsep
  refine ACalls.of_body (args := [.string a0]) Tryz.func94 rfl (by rw [Tryz.ntmps94]; simp) ?_
  rw [Tryz.ntmps94]
  unfold f_ref07_bad at h
  refine AW.seq ?_
  refine AW.reg ?_
  refine Lp (V_asg rfl rfl) rfl rfl ?_
  refine Lnil ?_
  refine thenN ?_
  refine AW.seq ?_
  refine AW.reg ?_
  refine Lp (V_move rfl rfl) rfl rfl ?_
  refine Ls rfl rfl (X_call rfl Tryz.func19 rfl rfl rfl (ACalls.mono h ?_))
  rintro v σ ⟨x7_1, x7_2, rfl, h⟩
  refine Lp (V_move rfl rfl) rfl rfl ?_
  refine Lp (V_ext rfl rfl rfl) rfl rfl ?_
  refine Lp (V_ext rfl rfl rfl) rfl rfl ?_
  refine Lp (V_asg rfl rfl) rfl rfl ?_
  refine Lp (V_asg rfl rfl) rfl rfl ?_
  refine Lnil ?_
  refine thenN ?_
  refine AW.seq ?_
  refine AW.reg ?_
  refine Lp (V_move rfl rfl) rfl rfl ?_
  refine Lp (V_not rfl rfl) rfl rfl ?_
  refine Lp (V_asg rfl rfl) rfl rfl ?_
  refine Lnil ?_
  refine thenN ?_
  refine AW.ret ?_
  exact bR1 Tryz.results94 rfl ⟨_, rfl, h⟩

def j2_ref07_Tree_node (B : World) (ro : AH) (x11_1 : Int) (Q : Int → Int → AH → Prop) (x27_3 : Bool) (σ : AH) : Prop :=
 if x27_3 = true then
  Q 0 72 σ
 else
 Q x11_1 0 σ

def f_ref07_Tree_node (B : World) (ro : AH) (a0 : Option Addr) (a1 : ByteArray) (a2 : Int) (σ : AH) (Q : Int → Int → AH → Prop) : Prop :=
 c_ref07_Tree_Find B ro a0 a1 σ fun x11_1 σ =>
 if x11_1 < 0 then
  Q 0 70 σ
 else
 if ¬ (a2 = (-1)) then
  ∃ p19_4 : Addr, a0 = some p19_4 ∧
  ∃ (x21_5 : Sl), acell ro σ p19_4 = some (Sl.v x21_5) ∧
  ∃ p23_6 : Addr, x21_5.a = some p23_6 ∧ (0 : Int) ≤ x11_1 ∧ x11_1 < (x21_5.len : Int) ∧
  ∃ (x25_7 : Int), acell ro σ ((p23_6.add (Int.toNat x11_1 * 5)).add 2) = some (.int .i64 x25_7) ∧
  j2_ref07_Tree_node B ro x11_1 Q (!(decide (a2 = x25_7))) σ
 else
 j2_ref07_Tree_node B ro x11_1 Q false σ

set_option maxRecDepth 100000 in
set_option maxHeartbeats 4000000 in
theorem ref07_Tree_node_ok {B : World} {ro : AH} {a0 : Option Addr} {a1 : ByteArray} {a2 : Int} {σ : AH} {Q : Int → Int → AH → Prop} (h : Sep ro σ → f_ref07_Tree_node B ro a0 a1 a2 σ Q) : c_ref07_Tree_node B ro a0 a1 a2 σ Q := by
  refine ACalls.of_sep fun hsep => ?_
  replace h := h hsep
  refine ACalls.of_body (args := [.pointer a0, .string a1, .int .i64 a2]) Tryz.func95 rfl (by rw [Tryz.ntmps95]; simp) ?_
  rw [Tryz.ntmps95]
  unfold f_ref07_Tree_node at h
  refine AW.seq ?_
  refine AW.reg ?_
  refine Lp (V_asg rfl rfl) rfl rfl ?_
  refine Lp (V_asg rfl rfl) rfl rfl ?_
  refine Lnil ?_
  refine thenN ?_
  refine AW.seq ?_
  refine AW.reg ?_
  refine Lp (V_move rfl rfl) rfl rfl ?_
  refine Lp (V_move rfl rfl) rfl rfl ?_
  refine Ls rfl rfl (X_call rfl Tryz.func84 rfl rfl rfl (ACalls.mono h ?_))
  rintro v σ ⟨x11_1, rfl, h⟩
  refine Lp (V_asg rfl rfl) rfl rfl ?_
  refine Lnil ?_
  refine thenN ?_
  refine AW.seq ?_
  refine AW.seq ?_
  refine AW.reg ?_
  refine Lp (V_move rfl rfl) rfl rfl ?_
  refine Lp (V_lss rfl rfl rfl) rfl rfl ?_
  refine Lnil ?_
  refine thenN ?_
  refine AW.iff rfl decide_eq_true_iff h (fun h => ?_) (fun h => ?_)
  · refine AW.seq ?_
    refine AW.reg ?_
    refine Lp (V_asg rfl rfl) rfl rfl ?_
    refine Lp (V_asg rfl rfl) rfl rfl ?_
    refine Lnil ?_
    refine thenN ?_
    refine AW.ret ?_
    refine thenR ?_
    exact bR2 Tryz.results95 rfl rfl ⟨_, _, rfl, h⟩
  refine AW.skip ?_
  refine thenN ?_
  refine AW.seq ?_
  refine AW.seq ?_
  refine AW.reg ?_
  refine Lp (V_move rfl rfl) rfl rfl ?_
  refine Lp (V_neq rfl rfl rfl) rfl rfl ?_
  refine Lp (V_move rfl rfl) rfl rfl ?_
  refine LsplitJ 11 (!(decide (a2 = (-1)))) (bnot_iff decide_eq_true_iff) h (fun fr σ => ∃ (x27_3 : Bool), FrLe [(8, .int .i64 x11_1), (27, .bool x27_3)] fr ∧ j2_ref07_Tree_node B ro x11_1 Q x27_3 σ) ?_ ?_ ?_
  · intro h e2 hk2
    refine Lypb (V_move rfl rfl) rfl rfl rfl rfl e2 ?_
    refine Lypb (V_move rfl rfl) rfl rfl rfl rfl e2 ?_
    obtain ⟨p19_4, hc, h⟩ := h
    refine Lypb (V_nil rfl (by rw [← hc]; rfl)) rfl rfl rfl rfl e2 ?_
    refine Lypb (V_fld rfl Tryz.underlying157 rfl ty155 (by decide) rfl) rfl rfl rfl rfl e2 ?_
    obtain ⟨x21_5, hc, h⟩ := h
    refine Lyb rfl rfl rfl rfl e2 (X_ld rfl Tryz.underlying155 rfl rfl hc ?_)
    refine Lypb (V_move rfl rfl) rfl rfl rfl rfl e2 ?_
    obtain ⟨p23_6, ha, h0, h1, h⟩ := h
    refine Lypb (V_ixA rfl Tryz.underlying155 ty159 (ixL rfl ha) rfl h0 h1) rfl rfl rfl rfl e2 ?_
    refine Lypb (V_fld rfl Tryz.underlying159 rfl ty3 (by decide) rfl) rfl rfl rfl rfl e2 ?_
    obtain ⟨x25_7, hc, h⟩ := h
    refine Lyb rfl rfl rfl rfl e2 (X_ld rfl Tryz.underlying3 rfl rfl hc ?_)
    refine Lypb (V_neq rfl rfl rfl) rfl rfl rfl rfl e2 ?_
    refine Lp (V_pickT rfl (evb e2) rfl) rfl rfl ?_
    exact hk2 _ _ ⟨_, (FrLe.cons rfl (FrLe.cons rfl (FrLe.nil _))), h⟩
  · intro h e2 hk2
    refine Ln rfl rfl rfl rfl (.inl (by rw [e2]; rfl)) ?_
    refine Ln rfl rfl rfl rfl (.inl (by rw [e2]; rfl)) ?_
    refine Ln rfl rfl rfl rfl (.inl (by rw [e2]; rfl)) ?_
    refine Ln rfl rfl rfl rfl (.inl (by rw [e2]; rfl)) ?_
    refine Ln rfl rfl rfl rfl (.inl (by rw [e2]; rfl)) ?_
    refine Ln rfl rfl rfl rfl (.inl (by rw [e2]; rfl)) ?_
    refine Ln rfl rfl rfl rfl (.inl (by rw [e2]; rfl)) ?_
    refine Ln rfl rfl rfl rfl (.inl (by rw [e2]; rfl)) ?_
    refine Ln rfl rfl rfl rfl (.inl (by rw [e2]; rfl)) ?_
    refine Ln rfl rfl rfl rfl (.inl (by rw [e2]; rfl)) ?_
    refine Lp (V_pickF rfl (evb e2) rfl) rfl rfl ?_
    exact hk2 _ _ ⟨_, (FrLe.cons rfl (FrLe.cons rfl (FrLe.nil _))), h⟩
  rintro fr σ ⟨x27_3, hl, h⟩
  unfold j2_ref07_Tree_node at h
  refine Lfr hl ?_
  refine Lnil ?_
  refine thenN ?_
  refine AW.iff rfl Iff.rfl h (fun h => ?_) (fun h => ?_)
  · refine AW.seq ?_
    refine AW.reg ?_
    refine Lp (V_asg rfl rfl) rfl rfl ?_
    refine Lp (V_asg rfl rfl) rfl rfl ?_
    refine Lnil ?_
    refine thenN ?_
    refine AW.ret ?_
    refine thenR ?_
    exact bR2 Tryz.results95 rfl rfl ⟨_, _, rfl, h⟩
  refine AW.skip ?_
  refine thenN ?_
  refine AW.seq ?_
  refine AW.reg ?_
  refine Lp (V_move rfl rfl) rfl rfl ?_
  refine Lp (V_asg rfl rfl) rfl rfl ?_
  refine Lp (V_asg rfl rfl) rfl rfl ?_
  refine Lnil ?_
  refine thenN ?_
  refine AW.ret ?_
  exact bR2 Tryz.results95 rfl rfl ⟨_, _, rfl, h⟩

end Go.Proofs.YthfpmipeejjogaaGreatDoor.G
