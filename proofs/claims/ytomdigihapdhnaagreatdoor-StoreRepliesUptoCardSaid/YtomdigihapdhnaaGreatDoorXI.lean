/- GStA, HdA, StP, ReA, ReB -/
import Derived.Test.YtomdigihapdhnaaGreatDoorXH
/- Functions as predicate transformers, and the proofs that the code does what they tell: printed by wip/tools/gen.py. -/
namespace Go.Proofs.YtomdigihapdhnaaGreatDoor.G
open Go Go.Proofs.YtomdigihapdhnaaGreatDoor.SL
set_option linter.unusedVariables false
set_option linter.unusedSimpArgs false

def j28_store_PutReply (B : World) (ro : AH) (x1_1 : Nat) (x32_9 : Option Addr) (Q : Sl → Int → AH → Prop) (σ : AH) : Prop :=
 ∃ (x122_29 : Int), acell ro σ ((⟨x1_1, 0, none⟩ : Addr).add 11) = some (.int .i64 x122_29) ∧
 nw ro σ (.cells #[.int .i64 x122_29] 3) fun x123_30 σ =>
 c_wire_Writer_Nums B ro x32_9 (⟨some ⟨x123_30, 0, none⟩, 1, 1⟩ : Sl) σ fun σ =>
 c_wire_Writer_Out B ro x32_9 σ fun x127_31 x127_32 σ =>
 if ¬ (x127_32 = 0) then
  Q (⟨none, 0, 0⟩ : Sl) 170 σ
 else
 Q x127_31 0 σ

def l34_store_PutReply (B : World) (ro : AH) (x1_1 : Nat) (x32_9 : Option Addr) (x101_33 : Sl) (Q : Sl → Int → AH → Prop) : (Int) → AH → ((Int) → AH → Prop) → Prop := fun x103_35 σ Y34 =>
 if x103_35 < (x101_33.len : Int) then
  ∃ p105_36 : Addr, x101_33.a = some p105_36 ∧ (0 : Int) ≤ x103_35 ∧ x103_35 < (x101_33.len : Int) ∧
  ∃ (x106_37a : Int) (x106_37b : Int) (x106_37c : ByteArray), cellsAt ro σ (p105_36.add (Int.toNat x103_35 * 3)) 0 [.int .i64 x106_37a, .int .i64 x106_37b, .string x106_37c] ∧
  nw ro σ (.cells #[.int .i64 0, .int .i64 0, .string ByteArray.empty] 132) fun x8_38 σ =>
  stN ⟨x8_38, 0, none⟩ (fun σ =>
   ∃ (x109_39 : Int), acell ro σ ⟨x8_38, 0, none⟩ = some (.int .i64 x109_39) ∧
   ∃ (x111_40 : Int), acell ro σ ((⟨x8_38, 0, none⟩ : Addr).add 1) = some (.int .i64 x111_40) ∧
   nw ro σ (.cells #[.int .i64 x109_39, .int .i64 x111_40] 3) fun x112_41 σ =>
   c_wire_Writer_Nums B ro x32_9 (⟨some ⟨x112_41, 0, none⟩, 2, 2⟩ : Sl) σ fun σ =>
   ∃ (x116_42 : ByteArray), acell ro σ ((⟨x8_38, 0, none⟩ : Addr).add 2) = some (.string x116_42) ∧
   nw ro σ (.cells #[.string x116_42] 9) fun x117_43 σ =>
   c_wire_Writer_Texts B ro x32_9 (⟨some ⟨x117_43, 0, none⟩, 1, 1⟩ : Sl) σ fun σ =>
   Y34 (IntKind.i64.wrap (x103_35 + 1)) σ) [.int .i64 x106_37a, .int .i64 x106_37b, .string x106_37c] 0 σ
 else
 j28_store_PutReply B ro x1_1 x32_9 Q σ

def j14_store_PutReply (B : World) (ro : AH) (x1_1 : Nat) (x32_9 : Option Addr) (Q : Sl → Int → AH → Prop) (σ : AH) : Prop :=
 ∃ (x63_15 : Int), acell ro σ ((⟨x1_1, 0, none⟩ : Addr).add 3) = some (.int .i64 x63_15) ∧
 nw ro σ (.cells #[.int .i64 (IntKind.i64.wrap (x63_15 + 1))] 3) fun x65_16 σ =>
 c_wire_Writer_Nums B ro x32_9 (⟨some ⟨x65_16, 0, none⟩, 1, 1⟩ : Sl) σ fun σ =>
 ∃ (x69_17 : Sl), acell ro σ ((⟨x1_1, 0, none⟩ : Addr).add 4) = some (Sl.v x69_17) ∧
 nw ro σ (.cells #[Sl.v x69_17] 24) fun x70_18 σ =>
 c_wire_Writer_Blobs B ro x32_9 (⟨some ⟨x70_18, 0, none⟩, 1, 1⟩ : Sl) σ fun σ =>
 ∃ (x75_19 : Int), acell ro σ ((⟨x1_1, 0, none⟩ : Addr).add 5) = some (.int .i64 x75_19) ∧
 ∃ (x78_20 : Int), acell ro σ (((⟨x1_1, 0, none⟩ : Addr).add 5).add 1) = some (.int .i64 x78_20) ∧
 ∃ (x81_21 : Int), acell ro σ (((⟨x1_1, 0, none⟩ : Addr).add 5).add 2) = some (.int .i64 x81_21) ∧
 ∃ (x84_22 : Int), acell ro σ (((⟨x1_1, 0, none⟩ : Addr).add 5).add 3) = some (.int .i64 x84_22) ∧
 ∃ (x86_23 : Sl), acell ro σ ((⟨x1_1, 0, none⟩ : Addr).add 9) = some (Sl.v x86_23) ∧
 nw ro σ (.cells #[.int .i64 x75_19, .int .i64 x78_20, .int .i64 x81_21, .int .i64 x84_22, .int .i64 (x86_23.len : Int)] 3) fun x88_24 σ =>
 c_wire_Writer_Nums B ro x32_9 (⟨some ⟨x88_24, 0, none⟩, 5, 5⟩ : Sl) σ fun σ =>
 ∃ (x92_25 : Sl), acell ro σ ((⟨x1_1, 0, none⟩ : Addr).add 9) = some (Sl.v x92_25) ∧
 c_wire_Writer_Texts B ro x32_9 x92_25 σ fun σ =>
 ∃ (x96_26 : Sl), acell ro σ ((⟨x1_1, 0, none⟩ : Addr).add 10) = some (Sl.v x96_26) ∧
 nw ro σ (.cells #[.int .i64 (x96_26.len : Int)] 3) fun x98_27 σ =>
 c_wire_Writer_Nums B ro x32_9 (⟨some ⟨x98_27, 0, none⟩, 1, 1⟩ : Sl) σ fun σ =>
 ∃ (x101_33 : Sl), acell ro σ ((⟨x1_1, 0, none⟩ : Addr).add 10) = some (Sl.v x101_33) ∧
 lfpD (l34_store_PutReply B ro x1_1 x32_9 x101_33 Q ) (0) σ

def l45_store_PutReply (B : World) (ro : AH) (x1_1 : Nat) (x32_9 : Option Addr) (x44_44 : Sl) (Q : Sl → Int → AH → Prop) : (Int) → AH → ((Int) → AH → Prop) → Prop := fun x46_46 σ Y45 =>
 if x46_46 < (x44_44.len : Int) then
  ∃ p48_47 : Addr, x44_44.a = some p48_47 ∧ (0 : Int) ≤ x46_46 ∧ x46_46 < (x44_44.len : Int) ∧
  ∃ (x49_48a : ByteArray) (x49_48b : Int), cellsAt ro σ (p48_47.add (Int.toNat x46_46 * 2)) 0 [.string x49_48a, .int .i64 x49_48b] ∧
  nw ro σ (.cells #[.string ByteArray.empty, .int .i64 0] 128) fun x6_49 σ =>
  stN ⟨x6_49, 0, none⟩ (fun σ =>
   ∃ (x52_50 : ByteArray), acell ro σ ⟨x6_49, 0, none⟩ = some (.string x52_50) ∧
   nw ro σ (.cells #[.string x52_50] 9) fun x53_51 σ =>
   c_wire_Writer_Texts B ro x32_9 (⟨some ⟨x53_51, 0, none⟩, 1, 1⟩ : Sl) σ fun σ =>
   ∃ (x57_52 : Int), acell ro σ ((⟨x6_49, 0, none⟩ : Addr).add 1) = some (.int .i64 x57_52) ∧
   nw ro σ (.cells #[.int .i64 x57_52] 3) fun x58_53 σ =>
   c_wire_Writer_Nums B ro x32_9 (⟨some ⟨x58_53, 0, none⟩, 1, 1⟩ : Sl) σ fun σ =>
   Y45 (IntKind.i64.wrap (x46_46 + 1)) σ) [.string x49_48a, .int .i64 x49_48b] 0 σ
 else
 j14_store_PutReply B ro x1_1 x32_9 Q σ

def j7_store_PutReply (B : World) (ro : AH) (x1_1 : Nat) (Q : Sl → Int → AH → Prop) (x31_8 : Bool) (σ : AH) : Prop :=
 if x31_8 = true then
  Q (⟨none, 0, 0⟩ : Sl) 170 σ
 else
 c_wire_NewWriter B ro σ fun x32_9 σ =>
 ∃ (x35_10 : Int), acell ro σ ⟨x1_1, 0, none⟩ = some (.int .i64 x35_10) ∧
 ∃ (x37_11 : Int), acell ro σ ((⟨x1_1, 0, none⟩ : Addr).add 1) = some (.int .i64 x37_11) ∧
 ∃ (x39_12 : Sl), acell ro σ ((⟨x1_1, 0, none⟩ : Addr).add 2) = some (Sl.v x39_12) ∧
 nw ro σ (.cells #[.int .i64 x35_10, .int .i64 x37_11, .int .i64 (x39_12.len : Int)] 3) fun x41_13 σ =>
 c_wire_Writer_Nums B ro x32_9 (⟨some ⟨x41_13, 0, none⟩, 3, 3⟩ : Sl) σ fun σ =>
 ∃ (x44_44 : Sl), acell ro σ ((⟨x1_1, 0, none⟩ : Addr).add 2) = some (Sl.v x44_44) ∧
 lfpD (l45_store_PutReply B ro x1_1 x32_9 x44_44 Q ) (0) σ

def j5_store_PutReply (B : World) (ro : AH) (x1_1 : Nat) (Q : Sl → Int → AH → Prop) (x26_6 : Bool) (σ : AH) : Prop :=
 if x26_6 = true then
  j7_store_PutReply B ro x1_1 Q true σ
 else
 ∃ (x29_54 : Int), acell ro σ ((⟨x1_1, 0, none⟩ : Addr).add 3) = some (.int .i64 x29_54) ∧
 j7_store_PutReply B ro x1_1 Q (decide (4611686018427387903 ≤ x29_54)) σ

def j3_store_PutReply (B : World) (ro : AH) (x1_1 : Nat) (Q : Sl → Int → AH → Prop) (x20_4 : Bool) (σ : AH) : Prop :=
 if x20_4 = true then
  j5_store_PutReply B ro x1_1 Q true σ
 else
 ∃ (x23_55 : Sl), acell ro σ ((⟨x1_1, 0, none⟩ : Addr).add 10) = some (Sl.v x23_55) ∧
 j5_store_PutReply B ro x1_1 Q (decide (32 < (x23_55.len : Int))) σ

def f_store_PutReply (B : World) (ro : AH) (a0_0 : Int) (a0_1 : Int) (a0_2 : Sl) (a0_3 : Int) (a0_4 : Sl) (a0_5 : Int) (a0_6 : Int) (a0_7 : Int) (a0_8 : Int) (a0_9 : Sl) (a0_10 : Sl) (a0_11 : Int) (σ : AH) (Q : Sl → Int → AH → Prop) : Prop :=
 nw ro σ (.cells #[.int .i64 a0_0, .int .i64 a0_1, Sl.v a0_2, .int .i64 a0_3, Sl.v a0_4, .int .i64 a0_5, .int .i64 a0_6, .int .i64 a0_7, .int .i64 a0_8, Sl.v a0_9, Sl.v a0_10, .int .i64 a0_11] 30) fun x1_1 σ =>
 ∃ (x12_2 : Sl), acell ro σ ((⟨x1_1, 0, none⟩ : Addr).add 2) = some (Sl.v x12_2) ∧
 if 16 < (x12_2.len : Int) then
  j3_store_PutReply B ro x1_1 Q true σ
 else
 ∃ (x17_56 : Sl), acell ro σ ((⟨x1_1, 0, none⟩ : Addr).add 9) = some (Sl.v x17_56) ∧
 j3_store_PutReply B ro x1_1 Q (decide (4096 < (x17_56.len : Int))) σ

set_option maxRecDepth 100000 in
set_option maxHeartbeats 4000000 in
theorem store_PutReply_ok {B : World} {ro : AH} {a0_0 : Int} {a0_1 : Int} {a0_2 : Sl} {a0_3 : Int} {a0_4 : Sl} {a0_5 : Int} {a0_6 : Int} {a0_7 : Int} {a0_8 : Int} {a0_9 : Sl} {a0_10 : Sl} {a0_11 : Int} {σ : AH} {Q : Sl → Int → AH → Prop} (h : Sep ro σ → f_store_PutReply B ro a0_0 a0_1 a0_2 a0_3 a0_4 a0_5 a0_6 a0_7 a0_8 a0_9 a0_10 a0_11 σ Q) : c_store_PutReply B ro a0_0 a0_1 a0_2 a0_3 a0_4 a0_5 a0_6 a0_7 a0_8 a0_9 a0_10 a0_11 σ Q := by
  refine ACalls.of_sep fun hsep => ?_
  replace h := h hsep
  refine ACalls.of_body (args := [.agg #[.int .i64 a0_0, .int .i64 a0_1, Sl.v a0_2, .int .i64 a0_3, Sl.v a0_4, .int .i64 a0_5, .int .i64 a0_6, .int .i64 a0_7, .int .i64 a0_8, Sl.v a0_9, Sl.v a0_10, .int .i64 a0_11]]) Tryz.func12 rfl (by rw [Tryz.ntmps12]; simp) ?_
  rw [Tryz.ntmps12]
  unfold f_store_PutReply at h
  refine AW.seq ?_
  refine AW.reg ?_
  refine Ls rfl rfl (X_new (A_box rfl rfl) fun x1_1 g1 g2 => ?_)
  replace h := h x1_1 g1 g2
  refine Lp (V_asg rfl rfl) rfl rfl ?_
  refine Lp (V_asg rfl rfl) rfl rfl ?_
  refine Lnil ?_
  refine thenN ?_
  refine AW.seq ?_
  refine AW.seq ?_
  refine AW.reg ?_
  refine Lp (V_fld rfl Tryz.underlying30 rfl ty23 (by decide) rfl) rfl rfl ?_
  obtain ⟨x12_2, hc, h⟩ := h
  refine Ls rfl rfl (X_ld rfl Tryz.underlying23 rfl rfl hc ?_)
  refine Lp (V_lenL rfl rfl Tryz.underlying23 rfl rfl) rfl rfl ?_
  refine Lp (V_gtr rfl rfl rfl) rfl rfl ?_
  refine Lp (V_move rfl rfl) rfl rfl ?_
  refine LsplitJ 5 (decide (16 < (x12_2.len : Int))) decide_eq_true_iff h (fun fr σ => ∃ (x20_4 : Bool), FrLe [(1, .pointer (some ⟨x1_1, 0, none⟩)), (20, .bool x20_4)] fr ∧ j3_store_PutReply B ro x1_1 Q x20_4 σ) ?_ ?_ ?_
  · intro h e4 hk4
    refine Ln rfl rfl rfl rfl (.inl (by rw [e4]; rfl)) ?_
    refine Ln rfl rfl rfl rfl (.inl (by rw [e4]; rfl)) ?_
    refine Ln rfl rfl rfl rfl (.inl (by rw [e4]; rfl)) ?_
    refine Ln rfl rfl rfl rfl (.inl (by rw [e4]; rfl)) ?_
    refine Lp (V_pickT rfl (evb e4) rfl) rfl rfl ?_
    exact hk4 _ _ ⟨_, (FrLe.cons rfl (FrLe.cons rfl (FrLe.nil _))), h⟩
  · intro h e4 hk4
    refine Lypb (V_fld rfl Tryz.underlying30 rfl ty27 (by decide) rfl) rfl rfl rfl rfl e4 ?_
    obtain ⟨x17_56, hc, h⟩ := h
    refine Lyb rfl rfl rfl rfl e4 (X_ld rfl Tryz.underlying27 rfl rfl hc ?_)
    refine Lypb (V_lenL rfl rfl Tryz.underlying27 rfl rfl) rfl rfl rfl rfl e4 ?_
    refine Lypb (V_gtr rfl rfl rfl) rfl rfl rfl rfl e4 ?_
    refine Lp (V_pickF rfl (evb e4) rfl) rfl rfl ?_
    exact hk4 _ _ ⟨_, (FrLe.cons rfl (FrLe.cons rfl (FrLe.nil _))), h⟩
  rintro fr σ ⟨x20_4, hl, h⟩
  unfold j3_store_PutReply at h
  refine Lfr hl ?_
  refine Lp (V_move rfl rfl) rfl rfl ?_
  refine LsplitJ 5 x20_4 Iff.rfl h (fun fr σ => ∃ (x26_6 : Bool), FrLe [(1, .pointer (some ⟨x1_1, 0, none⟩)), (26, .bool x26_6)] fr ∧ j5_store_PutReply B ro x1_1 Q x26_6 σ) ?_ ?_ ?_
  · intro h e10 hk10
    refine Ln rfl rfl rfl rfl (.inl (by rw [e10]; rfl)) ?_
    refine Ln rfl rfl rfl rfl (.inl (by rw [e10]; rfl)) ?_
    refine Ln rfl rfl rfl rfl (.inl (by rw [e10]; rfl)) ?_
    refine Ln rfl rfl rfl rfl (.inl (by rw [e10]; rfl)) ?_
    refine Lp (V_pickT rfl (evb e10) rfl) rfl rfl ?_
    exact hk10 _ _ ⟨_, (FrLe.cons rfl (FrLe.cons rfl (FrLe.nil _))), h⟩
  · intro h e10 hk10
    refine Lypb (V_fld rfl Tryz.underlying30 rfl ty28 (by decide) rfl) rfl rfl rfl rfl e10 ?_
    obtain ⟨x23_55, hc, h⟩ := h
    refine Lyb rfl rfl rfl rfl e10 (X_ld rfl Tryz.underlying28 rfl rfl hc ?_)
    refine Lypb (V_lenL rfl rfl Tryz.underlying28 rfl rfl) rfl rfl rfl rfl e10 ?_
    refine Lypb (V_gtr rfl rfl rfl) rfl rfl rfl rfl e10 ?_
    refine Lp (V_pickF rfl (evb e10) rfl) rfl rfl ?_
    exact hk10 _ _ ⟨_, (FrLe.cons rfl (FrLe.cons rfl (FrLe.nil _))), h⟩
  rintro fr σ ⟨x26_6, hl, h⟩
  unfold j5_store_PutReply at h
  refine Lfr hl ?_
  refine Lp (V_move rfl rfl) rfl rfl ?_
  refine LsplitJ 4 x26_6 Iff.rfl h (fun fr σ => ∃ (x31_8 : Bool), FrLe [(1, .pointer (some ⟨x1_1, 0, none⟩)), (31, .bool x31_8)] fr ∧ j7_store_PutReply B ro x1_1 Q x31_8 σ) ?_ ?_ ?_
  · intro h e16 hk16
    refine Ln rfl rfl rfl rfl (.inl (by rw [e16]; rfl)) ?_
    refine Ln rfl rfl rfl rfl (.inl (by rw [e16]; rfl)) ?_
    refine Ln rfl rfl rfl rfl (.inl (by rw [e16]; rfl)) ?_
    refine Lp (V_pickT rfl (evb e16) rfl) rfl rfl ?_
    exact hk16 _ _ ⟨_, (FrLe.cons rfl (FrLe.cons rfl (FrLe.nil _))), h⟩
  · intro h e16 hk16
    refine Lypb (V_fld rfl Tryz.underlying30 rfl ty3 (by decide) rfl) rfl rfl rfl rfl e16 ?_
    obtain ⟨x29_54, hc, h⟩ := h
    refine Lyb rfl rfl rfl rfl e16 (X_ld rfl Tryz.underlying3 rfl rfl hc ?_)
    refine Lypb (V_geq rfl rfl rfl) rfl rfl rfl rfl e16 ?_
    refine Lp (V_pickF rfl (evb e16) rfl) rfl rfl ?_
    exact hk16 _ _ ⟨_, (FrLe.cons rfl (FrLe.cons rfl (FrLe.nil _))), h⟩
  rintro fr σ ⟨x31_8, hl, h⟩
  unfold j7_store_PutReply at h
  refine Lfr hl ?_
  refine Lnil ?_
  refine thenN ?_
  refine AW.iff rfl Iff.rfl h (fun h => ?_) (fun h => ?_)
  · refine AW.seq ?_
    refine AW.reg ?_
    refine Lp (V_asg rfl rfl) rfl rfl ?_
    refine Lp (V_asg rfl rfl) rfl rfl ?_
    refine Lnil ?_
    refine thenN ?_
    refine AW.ret ?_
    refine thenR ?_
    exact bR2 Tryz.results12 rfl rfl ⟨_, _, rfl, h⟩
  refine AW.skip ?_
  refine thenN ?_
  refine AW.seq ?_
  refine AW.reg ?_
  refine Ls rfl rfl (X_call rfl Tryz.func43 rfl rfl rfl (ACalls.mono h ?_))
  rintro v σ ⟨x32_9, rfl, h⟩
  refine Lp (V_asg rfl rfl) rfl rfl ?_
  refine Lnil ?_
  refine thenN ?_
  refine AW.seq ?_
  refine AW.reg ?_
  refine Lp (V_move rfl rfl) rfl rfl ?_
  refine Lp (V_fld rfl Tryz.underlying30 rfl ty22 (by decide) rfl) rfl rfl ?_
  obtain ⟨x35_10, hc, h⟩ := h
  refine Ls rfl rfl (X_ld rfl Tryz.underlying22 rfl rfl hc ?_)
  refine Lp (V_fld rfl Tryz.underlying30 rfl ty3 (by decide) rfl) rfl rfl ?_
  obtain ⟨x37_11, hc, h⟩ := h
  refine Ls rfl rfl (X_ld rfl Tryz.underlying3 rfl rfl hc ?_)
  refine Lp (V_fld rfl Tryz.underlying30 rfl ty23 (by decide) rfl) rfl rfl ?_
  obtain ⟨x39_12, hc, h⟩ := h
  refine Ls rfl rfl (X_ld rfl Tryz.underlying23 rfl rfl hc ?_)
  refine Lp (V_lenL rfl rfl Tryz.underlying23 rfl rfl) rfl rfl ?_
  refine Ls rfl rfl (X_new (A_bsl (vs := [(0, .int .i64 x35_10), (1, .int .i64 x37_11), (2, .int .i64 (x39_12.len : Int))]) (cs := #[.int .i64 x35_10, .int .i64 x37_11, .int .i64 (x39_12.len : Int)]) rfl Tryz.underlying55 ty3 (by decide) rfl rfl) fun x41_13 g1 g2 => ?_)
  replace h := h x41_13 g1 g2
  refine Ls rfl rfl (X_call rfl Tryz.func44 rfl rfl rfl (ACalls.mono h ?_))
  rintro v σ ⟨rfl, h⟩
  refine Lnil ?_
  refine thenN ?_
  refine AW.seqJ (fun fr σ => FrLe [(1, .pointer (some ⟨x1_1, 0, none⟩)), (4, .pointer x32_9)] fr ∧ j14_store_PutReply B ro x1_1 x32_9 Q σ) ?_ ?_
  rotate_left
  · refine AW.seq ?_
    refine AW.reg ?_
    refine Lp (V_fld rfl Tryz.underlying30 rfl ty23 (by decide) rfl) rfl rfl ?_
    obtain ⟨x44_44, hc, h⟩ := h
    refine Ls rfl rfl (X_ld rfl Tryz.underlying23 rfl rfl hc ?_)
    refine Lp (V_lenL rfl rfl Tryz.underlying23 rfl rfl) rfl rfl ?_
    refine Lp (V_move rfl rfl) rfl rfl ?_
    refine Lnil ?_
    refine thenN ?_
    refine AW.block ?_
    refine ARound.loop (fr' := [(1, .pointer (some ⟨x1_1, 0, none⟩)), (4, .pointer x32_9), (44, Sl.v x44_44), (45, .int .i64 (x44_44.len : Int)), (46, .int .i64 0)]) ?_ (FrLe.cons rfl (FrLe.cons rfl (FrLe.cons rfl (FrLe.cons rfl (FrLe.cons rfl (FrLe.nil _))))))
    refine h (fun x46_46 σ => ARound _ _ _ _ _ _ [(1, .pointer (some ⟨x1_1, 0, none⟩)), (4, .pointer x32_9), (44, Sl.v x44_44), (45, .int .i64 (x44_44.len : Int)), (46, .int .i64 x46_46)] σ) ?_
    rintro x46_46 σ Y45 hY45 h
    show AW _ _ _ _ _ _ _ _
    unfold l45_store_PutReply at h
    refine AW.seq ?_
    refine AW.reg ?_
    refine Lp (V_lss rfl rfl rfl) rfl rfl ?_
    refine Lnil ?_
    refine thenN ?_
    refine AW.seq ?_
    refine AW.iff rfl decide_eq_true_iff h (fun h => ?_) (fun h => ?_)
    rotate_left
    · refine AW.exit ?_
      refine thenE ?_
      refine thenE ?_
      refine blockE ?_
      refine thenN ?_
      exact ⟨(FrLe.cons rfl (FrLe.cons rfl (FrLe.nil _))), h⟩
    refine AW.skip ?_
    refine thenN ?_
    refine AW.seq ?_
    refine AW.block ?_
    refine AW.seq ?_
    refine AW.reg ?_
    obtain ⟨p48_47, ha, h0, h1, h⟩ := h
    refine Lp (V_ixA rfl Tryz.underlying23 ty128 (ixL rfl ha) rfl h0 h1) rfl rfl ?_
    obtain ⟨x49_48a, x49_48b, hc, h⟩ := h
    refine Ls rfl rfl (X_lda rfl Tryz.underlying128 rfl ty128 rfl hc ?_)
    refine Ls rfl rfl (X_new (A_alloc rfl ty128) fun x6_49 g1 g2 => ?_)
    replace h := h x6_49 g1 g2
    refine Ls rfl rfl (X_st rfl ty128 rfl rfl rfl rfl (stN_mono h fun σ h => ?_))
    refine Lnil ?_
    refine thenN ?_
    refine AW.seq ?_
    refine AW.reg ?_
    refine Lp (V_move rfl rfl) rfl rfl ?_
    refine Lp (V_fld rfl Tryz.underlying128 rfl ty9 (by decide) rfl) rfl rfl ?_
    obtain ⟨x52_50, hc, h⟩ := h
    refine Ls rfl rfl (X_ld rfl Tryz.underlying9 rfl rfl hc ?_)
    refine Ls rfl rfl (X_new (A_bsl (vs := [(0, .string x52_50)]) (cs := #[.string x52_50]) rfl Tryz.underlying27 ty9 (by decide) rfl rfl) fun x53_51 g1 g2 => ?_)
    replace h := h x53_51 g1 g2
    refine Ls rfl rfl (X_call rfl Tryz.func45 rfl rfl rfl (ACalls.mono h ?_))
    rintro v σ ⟨rfl, h⟩
    refine Lnil ?_
    refine thenN ?_
    refine AW.reg ?_
    refine Lp (V_move rfl rfl) rfl rfl ?_
    refine Lp (V_fld rfl Tryz.underlying128 rfl ty3 (by decide) rfl) rfl rfl ?_
    obtain ⟨x57_52, hc, h⟩ := h
    refine Ls rfl rfl (X_ld rfl Tryz.underlying3 rfl rfl hc ?_)
    refine Ls rfl rfl (X_new (A_bsl (vs := [(0, .int .i64 x57_52)]) (cs := #[.int .i64 x57_52]) rfl Tryz.underlying55 ty3 (by decide) rfl rfl) fun x58_53 g1 g2 => ?_)
    replace h := h x58_53 g1 g2
    refine Ls rfl rfl (X_call rfl Tryz.func44 rfl rfl rfl (ACalls.mono h ?_))
    rintro v σ ⟨rfl, h⟩
    refine Lnil ?_
    refine blockN ?_
    refine thenN ?_
    refine AW.reg ?_
    refine Lp (V_add rfl rfl rfl) rfl rfl ?_
    refine Lp (V_move rfl rfl) rfl rfl ?_
    refine Lnil ?_
    refine thenN ?_
    refine ARound.head (fr' := [(1, .pointer (some ⟨x1_1, 0, none⟩)), (4, .pointer x32_9), (44, Sl.v x44_44), (45, .int .i64 (x44_44.len : Int)), (46, .int .i64 (IntKind.i64.wrap (x46_46 + 1)))]) ?_ (FrLe.cons rfl (FrLe.cons rfl (FrLe.cons rfl (FrLe.cons rfl (FrLe.cons rfl (FrLe.nil _))))))
    exact hY45 _ _ h
  rintro fr σ ⟨hl, h⟩
  refine AW.weaken ?_ hl (HLe.refl _)
  unfold j14_store_PutReply at h
  refine AW.seq ?_
  refine AW.reg ?_
  refine Lp (V_move rfl rfl) rfl rfl ?_
  refine Lp (V_fld rfl Tryz.underlying30 rfl ty3 (by decide) rfl) rfl rfl ?_
  obtain ⟨x63_15, hc, h⟩ := h
  refine Ls rfl rfl (X_ld rfl Tryz.underlying3 rfl rfl hc ?_)
  refine Lp (V_add rfl rfl rfl) rfl rfl ?_
  refine Ls rfl rfl (X_new (A_bsl (vs := [(0, .int .i64 (IntKind.i64.wrap (x63_15 + 1)))]) (cs := #[.int .i64 (IntKind.i64.wrap (x63_15 + 1))]) rfl Tryz.underlying55 ty3 (by decide) rfl rfl) fun x65_16 g1 g2 => ?_)
  replace h := h x65_16 g1 g2
  refine Ls rfl rfl (X_call rfl Tryz.func44 rfl rfl rfl (ACalls.mono h ?_))
  rintro v σ ⟨rfl, h⟩
  refine Lnil ?_
  refine thenN ?_
  refine AW.seq ?_
  refine AW.reg ?_
  refine Lp (V_move rfl rfl) rfl rfl ?_
  refine Lp (V_fld rfl Tryz.underlying30 rfl ty24 (by decide) rfl) rfl rfl ?_
  obtain ⟨x69_17, hc, h⟩ := h
  refine Ls rfl rfl (X_ld rfl Tryz.underlying24 rfl rfl hc ?_)
  refine Ls rfl rfl (X_new (A_bsl (vs := [(0, Sl.v x69_17)]) (cs := #[Sl.v x69_17]) rfl Tryz.underlying227 ty24 (by decide) rfl rfl) fun x70_18 g1 g2 => ?_)
  replace h := h x70_18 g1 g2
  refine Ls rfl rfl (X_call rfl Tryz.func46 rfl rfl rfl (ACalls.mono h ?_))
  rintro v σ ⟨rfl, h⟩
  refine Lnil ?_
  refine thenN ?_
  refine AW.seq ?_
  refine AW.reg ?_
  refine Lp (V_move rfl rfl) rfl rfl ?_
  refine Lp (V_fld rfl Tryz.underlying30 rfl ty26 (by decide) rfl) rfl rfl ?_
  refine Lp (V_fld rfl Tryz.underlying26 rfl ty3 (by decide) rfl) rfl rfl ?_
  obtain ⟨x75_19, hc, h⟩ := h
  refine Ls rfl rfl (X_ld rfl Tryz.underlying3 rfl rfl hc ?_)
  refine Lp (V_fld rfl Tryz.underlying30 rfl ty26 (by decide) rfl) rfl rfl ?_
  refine Lp (V_fld rfl Tryz.underlying26 rfl ty3 (by decide) rfl) rfl rfl ?_
  obtain ⟨x78_20, hc, h⟩ := h
  refine Ls rfl rfl (X_ld rfl Tryz.underlying3 rfl rfl hc ?_)
  refine Lp (V_fld rfl Tryz.underlying30 rfl ty26 (by decide) rfl) rfl rfl ?_
  refine Lp (V_fld rfl Tryz.underlying26 rfl ty3 (by decide) rfl) rfl rfl ?_
  obtain ⟨x81_21, hc, h⟩ := h
  refine Ls rfl rfl (X_ld rfl Tryz.underlying3 rfl rfl hc ?_)
  refine Lp (V_fld rfl Tryz.underlying30 rfl ty26 (by decide) rfl) rfl rfl ?_
  refine Lp (V_fld rfl Tryz.underlying26 rfl ty3 (by decide) rfl) rfl rfl ?_
  obtain ⟨x84_22, hc, h⟩ := h
  refine Ls rfl rfl (X_ld rfl Tryz.underlying3 rfl rfl hc ?_)
  refine Lp (V_fld rfl Tryz.underlying30 rfl ty27 (by decide) rfl) rfl rfl ?_
  obtain ⟨x86_23, hc, h⟩ := h
  refine Ls rfl rfl (X_ld rfl Tryz.underlying27 rfl rfl hc ?_)
  refine Lp (V_lenL rfl rfl Tryz.underlying27 rfl rfl) rfl rfl ?_
  refine Ls rfl rfl (X_new (A_bsl (vs := [(0, .int .i64 x75_19), (1, .int .i64 x78_20), (2, .int .i64 x81_21), (3, .int .i64 x84_22), (4, .int .i64 (x86_23.len : Int))]) (cs := #[.int .i64 x75_19, .int .i64 x78_20, .int .i64 x81_21, .int .i64 x84_22, .int .i64 (x86_23.len : Int)]) rfl Tryz.underlying55 ty3 (by decide) rfl rfl) fun x88_24 g1 g2 => ?_)
  replace h := h x88_24 g1 g2
  refine Ls rfl rfl (X_call rfl Tryz.func44 rfl rfl rfl (ACalls.mono h ?_))
  rintro v σ ⟨rfl, h⟩
  refine Lnil ?_
  refine thenN ?_
  refine AW.seq ?_
  refine AW.reg ?_
  refine Lp (V_move rfl rfl) rfl rfl ?_
  refine Lp (V_fld rfl Tryz.underlying30 rfl ty27 (by decide) rfl) rfl rfl ?_
  obtain ⟨x92_25, hc, h⟩ := h
  refine Ls rfl rfl (X_ld rfl Tryz.underlying27 rfl rfl hc ?_)
  refine Ls rfl rfl (X_call rfl Tryz.func45 rfl rfl rfl (ACalls.mono h ?_))
  rintro v σ ⟨rfl, h⟩
  refine Lnil ?_
  refine thenN ?_
  refine AW.seq ?_
  refine AW.reg ?_
  refine Lp (V_move rfl rfl) rfl rfl ?_
  refine Lp (V_fld rfl Tryz.underlying30 rfl ty28 (by decide) rfl) rfl rfl ?_
  obtain ⟨x96_26, hc, h⟩ := h
  refine Ls rfl rfl (X_ld rfl Tryz.underlying28 rfl rfl hc ?_)
  refine Lp (V_lenL rfl rfl Tryz.underlying28 rfl rfl) rfl rfl ?_
  refine Ls rfl rfl (X_new (A_bsl (vs := [(0, .int .i64 (x96_26.len : Int))]) (cs := #[.int .i64 (x96_26.len : Int)]) rfl Tryz.underlying55 ty3 (by decide) rfl rfl) fun x98_27 g1 g2 => ?_)
  replace h := h x98_27 g1 g2
  refine Ls rfl rfl (X_call rfl Tryz.func44 rfl rfl rfl (ACalls.mono h ?_))
  rintro v σ ⟨rfl, h⟩
  refine Lnil ?_
  refine thenN ?_
  refine AW.seqJ (fun fr σ => FrLe [(1, .pointer (some ⟨x1_1, 0, none⟩)), (4, .pointer x32_9)] fr ∧ j28_store_PutReply B ro x1_1 x32_9 Q σ) ?_ ?_
  · rintro fr σ ⟨hl, h⟩
    refine AW.weaken ?_ hl (HLe.refl _)
    unfold j28_store_PutReply at h
    refine AW.seq ?_
    refine AW.reg ?_
    refine Lp (V_move rfl rfl) rfl rfl ?_
    refine Lp (V_fld rfl Tryz.underlying30 rfl ty3 (by decide) rfl) rfl rfl ?_
    obtain ⟨x122_29, hc, h⟩ := h
    refine Ls rfl rfl (X_ld rfl Tryz.underlying3 rfl rfl hc ?_)
    refine Ls rfl rfl (X_new (A_bsl (vs := [(0, .int .i64 x122_29)]) (cs := #[.int .i64 x122_29]) rfl Tryz.underlying55 ty3 (by decide) rfl rfl) fun x123_30 g1 g2 => ?_)
    replace h := h x123_30 g1 g2
    refine Ls rfl rfl (X_call rfl Tryz.func44 rfl rfl rfl (ACalls.mono h ?_))
    rintro v σ ⟨rfl, h⟩
    refine Lnil ?_
    refine thenN ?_
    refine AW.seq ?_
    refine AW.reg ?_
    refine Lp (V_move rfl rfl) rfl rfl ?_
    refine Ls rfl rfl (X_call rfl Tryz.func47 rfl rfl rfl (ACalls.mono h ?_))
    rintro v σ ⟨x127_31, x127_32, rfl, h⟩
    refine Lp (V_move rfl rfl) rfl rfl ?_
    refine Lp (V_ext rfl rfl rfl) rfl rfl ?_
    refine Lp (V_ext rfl rfl rfl) rfl rfl ?_
    refine Lp (V_asg rfl rfl) rfl rfl ?_
    refine Lp (V_asg rfl rfl) rfl rfl ?_
    refine Lnil ?_
    refine thenN ?_
    refine AW.seq ?_
    refine AW.seq ?_
    refine AW.reg ?_
    refine Lp (V_move rfl rfl) rfl rfl ?_
    refine Lp (V_neq rfl rfl rfl) rfl rfl ?_
    refine Lnil ?_
    refine thenN ?_
    refine AW.iff rfl (bnot_iff decide_eq_true_iff) h (fun h => ?_) (fun h => ?_)
    · refine AW.seq ?_
      refine AW.reg ?_
      refine Lp (V_asg rfl rfl) rfl rfl ?_
      refine Lp (V_asg rfl rfl) rfl rfl ?_
      refine Lnil ?_
      refine thenN ?_
      refine AW.ret ?_
      refine thenR ?_
      exact bR2 Tryz.results12 rfl rfl ⟨_, _, rfl, h⟩
    refine AW.skip ?_
    refine thenN ?_
    refine AW.seq ?_
    refine AW.reg ?_
    refine Lp (V_move rfl rfl) rfl rfl ?_
    refine Lp (V_asg rfl rfl) rfl rfl ?_
    refine Lp (V_asg rfl rfl) rfl rfl ?_
    refine Lnil ?_
    refine thenN ?_
    refine AW.ret ?_
    exact bR2 Tryz.results12 rfl rfl ⟨_, _, rfl, h⟩
  refine AW.seq ?_
  refine AW.reg ?_
  refine Lp (V_fld rfl Tryz.underlying30 rfl ty28 (by decide) rfl) rfl rfl ?_
  obtain ⟨x101_33, hc, h⟩ := h
  refine Ls rfl rfl (X_ld rfl Tryz.underlying28 rfl rfl hc ?_)
  refine Lp (V_lenL rfl rfl Tryz.underlying28 rfl rfl) rfl rfl ?_
  refine Lp (V_move rfl rfl) rfl rfl ?_
  refine Lnil ?_
  refine thenN ?_
  refine AW.block ?_
  refine ARound.loop (fr' := [(1, .pointer (some ⟨x1_1, 0, none⟩)), (4, .pointer x32_9), (101, Sl.v x101_33), (102, .int .i64 (x101_33.len : Int)), (103, .int .i64 0)]) ?_ (FrLe.cons rfl (FrLe.cons rfl (FrLe.cons rfl (FrLe.cons rfl (FrLe.cons rfl (FrLe.nil _))))))
  refine h (fun x103_35 σ => ARound _ _ _ _ _ _ [(1, .pointer (some ⟨x1_1, 0, none⟩)), (4, .pointer x32_9), (101, Sl.v x101_33), (102, .int .i64 (x101_33.len : Int)), (103, .int .i64 x103_35)] σ) ?_
  rintro x103_35 σ Y34 hY34 h
  show AW _ _ _ _ _ _ _ _
  unfold l34_store_PutReply at h
  refine AW.seq ?_
  refine AW.reg ?_
  refine Lp (V_lss rfl rfl rfl) rfl rfl ?_
  refine Lnil ?_
  refine thenN ?_
  refine AW.seq ?_
  refine AW.iff rfl decide_eq_true_iff h (fun h => ?_) (fun h => ?_)
  rotate_left
  · refine AW.exit ?_
    refine thenE ?_
    refine thenE ?_
    refine blockE ?_
    refine thenN ?_
    exact ⟨(FrLe.cons rfl (FrLe.cons rfl (FrLe.nil _))), h⟩
  refine AW.skip ?_
  refine thenN ?_
  refine AW.seq ?_
  refine AW.block ?_
  refine AW.seq ?_
  refine AW.reg ?_
  obtain ⟨p105_36, ha, h0, h1, h⟩ := h
  refine Lp (V_ixA rfl Tryz.underlying28 ty132 (ixL rfl ha) rfl h0 h1) rfl rfl ?_
  obtain ⟨x106_37a, x106_37b, x106_37c, hc, h⟩ := h
  refine Ls rfl rfl (X_lda rfl Tryz.underlying132 rfl ty132 rfl hc ?_)
  refine Ls rfl rfl (X_new (A_alloc rfl ty132) fun x8_38 g1 g2 => ?_)
  replace h := h x8_38 g1 g2
  refine Ls rfl rfl (X_st rfl ty132 rfl rfl rfl rfl (stN_mono h fun σ h => ?_))
  refine Lnil ?_
  refine thenN ?_
  refine AW.seq ?_
  refine AW.reg ?_
  refine Lp (V_move rfl rfl) rfl rfl ?_
  refine Lp (V_fld rfl Tryz.underlying132 rfl ty3 (by decide) rfl) rfl rfl ?_
  obtain ⟨x109_39, hc, h⟩ := h
  refine Ls rfl rfl (X_ld rfl Tryz.underlying3 rfl rfl hc ?_)
  refine Lp (V_fld rfl Tryz.underlying132 rfl ty3 (by decide) rfl) rfl rfl ?_
  obtain ⟨x111_40, hc, h⟩ := h
  refine Ls rfl rfl (X_ld rfl Tryz.underlying3 rfl rfl hc ?_)
  refine Ls rfl rfl (X_new (A_bsl (vs := [(0, .int .i64 x109_39), (1, .int .i64 x111_40)]) (cs := #[.int .i64 x109_39, .int .i64 x111_40]) rfl Tryz.underlying55 ty3 (by decide) rfl rfl) fun x112_41 g1 g2 => ?_)
  replace h := h x112_41 g1 g2
  refine Ls rfl rfl (X_call rfl Tryz.func44 rfl rfl rfl (ACalls.mono h ?_))
  rintro v σ ⟨rfl, h⟩
  refine Lnil ?_
  refine thenN ?_
  refine AW.reg ?_
  refine Lp (V_move rfl rfl) rfl rfl ?_
  refine Lp (V_fld rfl Tryz.underlying132 rfl ty9 (by decide) rfl) rfl rfl ?_
  obtain ⟨x116_42, hc, h⟩ := h
  refine Ls rfl rfl (X_ld rfl Tryz.underlying9 rfl rfl hc ?_)
  refine Ls rfl rfl (X_new (A_bsl (vs := [(0, .string x116_42)]) (cs := #[.string x116_42]) rfl Tryz.underlying27 ty9 (by decide) rfl rfl) fun x117_43 g1 g2 => ?_)
  replace h := h x117_43 g1 g2
  refine Ls rfl rfl (X_call rfl Tryz.func45 rfl rfl rfl (ACalls.mono h ?_))
  rintro v σ ⟨rfl, h⟩
  refine Lnil ?_
  refine blockN ?_
  refine thenN ?_
  refine AW.reg ?_
  refine Lp (V_add rfl rfl rfl) rfl rfl ?_
  refine Lp (V_move rfl rfl) rfl rfl ?_
  refine Lnil ?_
  refine thenN ?_
  refine ARound.head (fr' := [(1, .pointer (some ⟨x1_1, 0, none⟩)), (4, .pointer x32_9), (101, Sl.v x101_33), (102, .int .i64 (x101_33.len : Int)), (103, .int .i64 (IntKind.i64.wrap (x103_35 + 1)))]) ?_ (FrLe.cons rfl (FrLe.cons rfl (FrLe.cons rfl (FrLe.cons rfl (FrLe.cons rfl (FrLe.nil _))))))
  exact hY34 _ _ h

def j20_store_GetReply (B : World) (ro : AH) (x2_1 : Nat) (x5_5 : Nat) (x17_6 : Int) (x51_14 : Int) (x65_16 : Int) (Q : Int → Int → Sl → Int → Sl → Int → Int → Int → Int → Sl → Sl → Int → Int → AH → Prop) (x93_21 : Bool) (σ : AH) : Prop :=
 if (((x93_21 = true) ∨ (16 < x17_6)) ∨ (4096 < x51_14)) ∨ (32 < x65_16) then
  stN ⟨x2_1, 0, none⟩ (fun σ =>
   ∃ (x2_22a : Int) (x2_22b : Int) (x2_22c : Sl) (x2_22d : Int) (x2_22e : Sl) (x2_22f : Int) (x2_22g : Int) (x2_22h : Int) (x2_22i : Int) (x2_22j : Sl) (x2_22k : Sl) (x2_22l : Int), cellsAt ro σ ⟨x2_1, 0, none⟩ 0 [.int .i64 x2_22a, .int .i64 x2_22b, Sl.v x2_22c, .int .i64 x2_22d, Sl.v x2_22e, .int .i64 x2_22f, .int .i64 x2_22g, .int .i64 x2_22h, .int .i64 x2_22i, Sl.v x2_22j, Sl.v x2_22k, .int .i64 x2_22l] ∧
   Q x2_22a x2_22b x2_22c x2_22d x2_22e x2_22f x2_22g x2_22h x2_22i x2_22j x2_22k x2_22l 13 σ) [.int .i64 0, .int .i64 0, Sl.v (⟨none, 0, 0⟩ : Sl), .int .i64 0, Sl.v (⟨none, 0, 0⟩ : Sl), .int .i64 0, .int .i64 0, .int .i64 0, .int .i64 0, Sl.v (⟨none, 0, 0⟩ : Sl), Sl.v (⟨none, 0, 0⟩ : Sl), .int .i64 0] 0 σ
 else
 ∃ (x107_23a : Int) (x107_23b : Int) (x107_23c : Sl) (x107_23d : Int) (x107_23e : Sl) (x107_23f : Int) (x107_23g : Int) (x107_23h : Int) (x107_23i : Int) (x107_23j : Sl) (x107_23k : Sl) (x107_23l : Int), cellsAt ro σ ⟨x5_5, 0, none⟩ 0 [.int .i64 x107_23a, .int .i64 x107_23b, Sl.v x107_23c, .int .i64 x107_23d, Sl.v x107_23e, .int .i64 x107_23f, .int .i64 x107_23g, .int .i64 x107_23h, .int .i64 x107_23i, Sl.v x107_23j, Sl.v x107_23k, .int .i64 x107_23l] ∧
 stN ⟨x2_1, 0, none⟩ (fun σ =>
  ∃ (x2_24a : Int) (x2_24b : Int) (x2_24c : Sl) (x2_24d : Int) (x2_24e : Sl) (x2_24f : Int) (x2_24g : Int) (x2_24h : Int) (x2_24i : Int) (x2_24j : Sl) (x2_24k : Sl) (x2_24l : Int), cellsAt ro σ ⟨x2_1, 0, none⟩ 0 [.int .i64 x2_24a, .int .i64 x2_24b, Sl.v x2_24c, .int .i64 x2_24d, Sl.v x2_24e, .int .i64 x2_24f, .int .i64 x2_24g, .int .i64 x2_24h, .int .i64 x2_24i, Sl.v x2_24j, Sl.v x2_24k, .int .i64 x2_24l] ∧
  Q x2_24a x2_24b x2_24c x2_24d x2_24e x2_24f x2_24g x2_24h x2_24i x2_24j x2_24k x2_24l 0 σ) [.int .i64 x107_23a, .int .i64 x107_23b, Sl.v x107_23c, .int .i64 x107_23d, Sl.v x107_23e, .int .i64 x107_23f, .int .i64 x107_23g, .int .i64 x107_23h, .int .i64 x107_23i, Sl.v x107_23j, Sl.v x107_23k, .int .i64 x107_23l] 0 σ

def j17_store_GetReply (B : World) (ro : AH) (x2_1 : Nat) (x5_5 : Nat) (x10_2 : Option Addr) (x17_6 : Int) (x51_14 : Int) (x65_16 : Int) (Q : Int → Int → Sl → Int → Sl → Int → Int → Int → Int → Sl → Sl → Int → Int → AH → Prop) (σ : AH) : Prop :=
 c_wire_Reader_Num B ro x10_2 σ fun x84_18 σ =>
 stN ((⟨x5_5, 0, none⟩ : Addr).add 11) (fun σ =>
  c_wire_Reader_Err B ro x10_2 σ fun x87_19 σ =>
  if ¬ (x87_19 = 0) then
   j20_store_GetReply B ro x2_1 x5_5 x17_6 x51_14 x65_16 Q true σ
  else
  c_wire_Reader_Left B ro x10_2 σ fun x91_25 σ =>
  j20_store_GetReply B ro x2_1 x5_5 x17_6 x51_14 x65_16 Q (decide (0 < x91_25)) σ) [.int .i64 x84_18] 0 σ

def l26_store_GetReply (B : World) (ro : AH) (x2_1 : Nat) (x5_5 : Nat) (x10_2 : Option Addr) (x17_6 : Int) (x51_14 : Int) (x65_16 : Int) (Q : Int → Int → Sl → Int → Sl → Int → Int → Int → Int → Sl → Sl → Int → Int → AH → Prop) : (Int) → AH → ((Int) → AH → Prop) → Prop := fun x68_27 σ Y26 =>
 if x68_27 < (if 32 < x65_16 then 32 else x65_16) then
  lent σ fun ψ σ =>
   ∃ (x71_28 : Sl), acell (join ro ψ) (fun _ => none) ((⟨x5_5, 0, none⟩ : Addr).add 10) = some (Sl.v x71_28) ∧
   c_wire_Reader_Num B (join ro ψ) x10_2 σ fun x73_29 σ =>
   c_wire_Reader_Num B (join ro ψ) x10_2 σ fun x75_30 σ =>
   c_wire_Reader_Text B (join ro ψ) x10_2 σ fun x77_31 σ =>
   nw (join ro ψ) σ (.cells #[.int .i64 x73_29, .int .i64 x75_30, .string x77_31] 132) fun x79_32 σ =>
   (Disj ψ σ → (fun σ => 
    awp Tryz.prog ro (Builtin.append_ #[28, 28] 28 #[Sl.v x71_28, Sl.v (⟨some ⟨x79_32, 0, none⟩, 1, 1⟩ : Sl)]) (fun v σ => ∃ (x80_33 : Sl), v = Sl.v x80_33 ∧
     stN ((⟨x5_5, 0, none⟩ : Addr).add 10) (fun σ =>
      Y26 (IntKind.i64.wrap (x68_27 + 1)) σ) [Sl.v x80_33] 0 σ) σ) (join ψ σ))
 else
 j17_store_GetReply B ro x2_1 x5_5 x10_2 x17_6 x51_14 x65_16 Q σ

def j15_store_GetReply (B : World) (ro : AH) (x2_1 : Nat) (x5_5 : Nat) (x10_2 : Option Addr) (x17_6 : Int) (x51_14 : Int) (Q : Int → Int → Sl → Int → Sl → Int → Int → Int → Int → Sl → Sl → Int → Int → AH → Prop) (σ : AH) : Prop :=
 c_wire_Reader_Num B ro x10_2 σ fun x65_16 σ =>
 lfpD (l26_store_GetReply B ro x2_1 x5_5 x10_2 x17_6 x51_14 x65_16 Q ) (0) σ

def l34_store_GetReply (B : World) (ro : AH) (x2_1 : Nat) (x5_5 : Nat) (x10_2 : Option Addr) (x17_6 : Int) (x51_14 : Int) (Q : Int → Int → Sl → Int → Sl → Int → Int → Int → Int → Sl → Sl → Int → Int → AH → Prop) : (Int) → AH → ((Int) → AH → Prop) → Prop := fun x54_35 σ Y34 =>
 if x54_35 < (if 4096 < x51_14 then 4096 else x51_14) then
  lent σ fun ψ σ =>
   ∃ (x57_36 : Sl), acell (join ro ψ) (fun _ => none) ((⟨x5_5, 0, none⟩ : Addr).add 9) = some (Sl.v x57_36) ∧
   c_wire_Reader_Text B (join ro ψ) x10_2 σ fun x59_37 σ =>
   nw (join ro ψ) σ (.cells #[.string x59_37] 9) fun x60_38 σ =>
   (Disj ψ σ → (fun σ => 
    awp Tryz.prog ro (Builtin.append_ #[27, 27] 27 #[Sl.v x57_36, Sl.v (⟨some ⟨x60_38, 0, none⟩, 1, 1⟩ : Sl)]) (fun v σ => ∃ (x61_39 : Sl), v = Sl.v x61_39 ∧
     stN ((⟨x5_5, 0, none⟩ : Addr).add 9) (fun σ =>
      Y34 (IntKind.i64.wrap (x54_35 + 1)) σ) [Sl.v x61_39] 0 σ) σ) (join ψ σ))
 else
 j15_store_GetReply B ro x2_1 x5_5 x10_2 x17_6 x51_14 Q σ

def j7_store_GetReply (B : World) (ro : AH) (x2_1 : Nat) (x5_5 : Nat) (x10_2 : Option Addr) (x17_6 : Int) (Q : Int → Int → Sl → Int → Sl → Int → Int → Int → Int → Sl → Sl → Int → Int → AH → Prop) (σ : AH) : Prop :=
 c_wire_Reader_Num B ro x10_2 σ fun x34_8 σ =>
 stN ((⟨x5_5, 0, none⟩ : Addr).add 3) (fun σ =>
  c_wire_Reader_Blob B ro x10_2 σ fun x38_9 σ =>
  stN ((⟨x5_5, 0, none⟩ : Addr).add 4) (fun σ =>
   c_wire_Reader_Num B ro x10_2 σ fun x41_10 σ =>
   c_wire_Reader_Num B ro x10_2 σ fun x43_11 σ =>
   c_wire_Reader_Num B ro x10_2 σ fun x45_12 σ =>
   c_wire_Reader_Num B ro x10_2 σ fun x47_13 σ =>
   stN ((⟨x5_5, 0, none⟩ : Addr).add 5) (fun σ =>
    c_wire_Reader_Num B ro x10_2 σ fun x51_14 σ =>
    lfpD (l34_store_GetReply B ro x2_1 x5_5 x10_2 x17_6 x51_14 Q ) (0) σ) [.int .i64 x41_10, .int .i64 x43_11, .int .i64 x45_12, .int .i64 x47_13] 0 σ) [Sl.v x38_9] 0 σ) [.int .i64 (IntKind.i64.wrap (x34_8 - 1))] 0 σ

def l40_store_GetReply (B : World) (ro : AH) (x2_1 : Nat) (x5_5 : Nat) (x10_2 : Option Addr) (x17_6 : Int) (Q : Int → Int → Sl → Int → Sl → Int → Int → Int → Int → Sl → Sl → Int → Int → AH → Prop) : (Int) → AH → ((Int) → AH → Prop) → Prop := fun x20_41 σ Y40 =>
 if x20_41 < (if 16 < x17_6 then 16 else x17_6) then
  lent σ fun ψ σ =>
   ∃ (x23_42 : Sl), acell (join ro ψ) (fun _ => none) ((⟨x5_5, 0, none⟩ : Addr).add 2) = some (Sl.v x23_42) ∧
   c_wire_Reader_Text B (join ro ψ) x10_2 σ fun x25_43 σ =>
   c_wire_Reader_Num B (join ro ψ) x10_2 σ fun x27_44 σ =>
   nw (join ro ψ) σ (.cells #[.string x25_43, .int .i64 x27_44] 128) fun x29_45 σ =>
   (Disj ψ σ → (fun σ => 
    awp Tryz.prog ro (Builtin.append_ #[23, 23] 23 #[Sl.v x23_42, Sl.v (⟨some ⟨x29_45, 0, none⟩, 1, 1⟩ : Sl)]) (fun v σ => ∃ (x30_46 : Sl), v = Sl.v x30_46 ∧
     stN ((⟨x5_5, 0, none⟩ : Addr).add 2) (fun σ =>
      Y40 (IntKind.i64.wrap (x20_41 + 1)) σ) [Sl.v x30_46] 0 σ) σ) (join ψ σ))
 else
 j7_store_GetReply B ro x2_1 x5_5 x10_2 x17_6 Q σ

def f_store_GetReply (B : World) (ro : AH) (a0 : Sl) (σ : AH) (Q : Int → Int → Sl → Int → Sl → Int → Int → Int → Int → Sl → Sl → Int → Int → AH → Prop) : Prop :=
 nw ro σ (.cells #[.int .i64 0, .int .i64 0, Sl.v (⟨none, 0, 0⟩ : Sl), .int .i64 0, Sl.v (⟨none, 0, 0⟩ : Sl), .int .i64 0, .int .i64 0, .int .i64 0, .int .i64 0, Sl.v (⟨none, 0, 0⟩ : Sl), Sl.v (⟨none, 0, 0⟩ : Sl), .int .i64 0] 30) fun x2_1 σ =>
 c_wire_NewReader B ro a0 σ fun x10_2 σ =>
 c_wire_Reader_Num B ro x10_2 σ fun x12_3 σ =>
 c_wire_Reader_Num B ro x10_2 σ fun x14_4 σ =>
 nw ro σ (.cells #[.int .i64 0, .int .i64 0, Sl.v (⟨none, 0, 0⟩ : Sl), .int .i64 0, Sl.v (⟨none, 0, 0⟩ : Sl), .int .i64 0, .int .i64 0, .int .i64 0, .int .i64 0, Sl.v (⟨none, 0, 0⟩ : Sl), Sl.v (⟨none, 0, 0⟩ : Sl), .int .i64 0] 30) fun x5_5 σ =>
 stN ⟨x5_5, 0, none⟩ (fun σ =>
  c_wire_Reader_Num B ro x10_2 σ fun x17_6 σ =>
  lfpD (l40_store_GetReply B ro x2_1 x5_5 x10_2 x17_6 Q ) (0) σ) [.int .i64 x12_3, .int .i64 x14_4, Sl.v (⟨none, 0, 0⟩ : Sl), .int .i64 0, Sl.v (⟨none, 0, 0⟩ : Sl), .int .i64 0, .int .i64 0, .int .i64 0, .int .i64 0, Sl.v (⟨none, 0, 0⟩ : Sl), Sl.v (⟨none, 0, 0⟩ : Sl), .int .i64 0] 0 σ

set_option maxRecDepth 100000 in
set_option maxHeartbeats 4000000 in
theorem store_GetReply_ok {B : World} {ro : AH} {a0 : Sl} {σ : AH} {Q : Int → Int → Sl → Int → Sl → Int → Int → Int → Int → Sl → Sl → Int → Int → AH → Prop} (h : Sep ro σ → f_store_GetReply B ro a0 σ Q) : c_store_GetReply B ro a0 σ Q := by
  refine ACalls.of_sep fun hsep => ?_
  replace h := h hsep
  refine ACalls.of_body (args := [Sl.v a0]) Tryz.func15 rfl (by rw [Tryz.ntmps15]; simp) ?_
  rw [Tryz.ntmps15]
  unfold f_store_GetReply at h
  refine AW.seq ?_
  refine AW.reg ?_
  refine Ls rfl rfl (X_new (A_alloc rfl ty30) fun x2_1 g1 g2 => ?_)
  replace h := h x2_1 g1 g2
  refine Lp (V_asg rfl rfl) rfl rfl ?_
  refine Lnil ?_
  refine thenN ?_
  refine AW.seq ?_
  refine AW.reg ?_
  refine Lp (V_move rfl rfl) rfl rfl ?_
  refine Ls rfl rfl (X_call rfl Tryz.func53 rfl rfl rfl (ACalls.mono h ?_))
  rintro v σ ⟨x10_2, rfl, h⟩
  refine Lp (V_asg rfl rfl) rfl rfl ?_
  refine Lnil ?_
  refine thenN ?_
  refine AW.seq ?_
  refine AW.reg ?_
  refine Lp (V_move rfl rfl) rfl rfl ?_
  refine Ls rfl rfl (X_call rfl Tryz.func54 rfl rfl rfl (ACalls.mono h ?_))
  rintro v σ ⟨x12_3, rfl, h⟩
  refine Lp (V_move rfl rfl) rfl rfl ?_
  refine Ls rfl rfl (X_call rfl Tryz.func54 rfl rfl rfl (ACalls.mono h ?_))
  rintro v σ ⟨x14_4, rfl, h⟩
  refine Lp (V_bld (vs := [(0, .int .i64 x12_3), (1, .int .i64 x14_4)]) (cs := #[.int .i64 x12_3, .int .i64 x14_4, Sl.v (⟨none, 0, 0⟩ : Sl), .int .i64 0, Sl.v (⟨none, 0, 0⟩ : Sl), .int .i64 0, .int .i64 0, .int .i64 0, .int .i64 0, Sl.v (⟨none, 0, 0⟩ : Sl), Sl.v (⟨none, 0, 0⟩ : Sl), .int .i64 0]) rfl Tryz.underlying30 ty30 pl30 rfl (by kernel_rfl)) rfl rfl ?_
  refine Ls rfl rfl (X_new (A_alloc rfl ty30) fun x5_5 g1 g2 => ?_)
  replace h := h x5_5 g1 g2
  refine Ls rfl rfl (X_st rfl ty30 rfl rfl rfl rfl (stN_mono h fun σ h => ?_))
  refine Lnil ?_
  refine thenN ?_
  refine AW.seq ?_
  refine AW.reg ?_
  refine Lp (V_move rfl rfl) rfl rfl ?_
  refine Ls rfl rfl (X_call rfl Tryz.func54 rfl rfl rfl (ACalls.mono h ?_))
  rintro v σ ⟨x17_6, rfl, h⟩
  refine Lp (V_asg rfl rfl) rfl rfl ?_
  refine Lnil ?_
  refine thenN ?_
  refine AW.seqJ (fun fr σ => FrLe [(2, .pointer (some ⟨x2_1, 0, none⟩)), (4, .pointer x10_2), (5, .pointer (some ⟨x5_5, 0, none⟩)), (6, .int .i64 x17_6)] fr ∧ j7_store_GetReply B ro x2_1 x5_5 x10_2 x17_6 Q σ) ?_ ?_
  rotate_left
  · refine AW.seq ?_
    refine AW.reg ?_
    refine Lp (V_move rfl rfl) rfl rfl ?_
    refine Lp (V_min2 rfl rfl) rfl rfl ?_
    refine Lp (V_move rfl rfl) rfl rfl ?_
    refine Lnil ?_
    refine thenN ?_
    refine AW.block ?_
    refine ARound.loop (fr' := [(2, .pointer (some ⟨x2_1, 0, none⟩)), (4, .pointer x10_2), (5, .pointer (some ⟨x5_5, 0, none⟩)), (6, .int .i64 x17_6), (19, .int .i64 (if 16 < x17_6 then 16 else x17_6)), (20, .int .i64 0)]) ?_ (FrLe.cons rfl (FrLe.cons rfl (FrLe.cons rfl (FrLe.cons rfl (FrLe.cons rfl (FrLe.cons rfl (FrLe.nil _)))))))
    refine h (fun x20_41 σ => ARound _ _ _ _ _ _ [(2, .pointer (some ⟨x2_1, 0, none⟩)), (4, .pointer x10_2), (5, .pointer (some ⟨x5_5, 0, none⟩)), (6, .int .i64 x17_6), (19, .int .i64 (if 16 < x17_6 then 16 else x17_6)), (20, .int .i64 x20_41)] σ) ?_
    rintro x20_41 σ Y40 hY40 h
    show AW _ _ _ _ _ _ _ _
    unfold l40_store_GetReply at h
    refine AW.seq ?_
    refine AW.reg ?_
    refine Lp (V_lss rfl rfl rfl) rfl rfl ?_
    refine Lnil ?_
    refine thenN ?_
    refine AW.seq ?_
    refine AW.iff rfl decide_eq_true_iff h (fun h => ?_) (fun h => ?_)
    rotate_left
    · refine AW.exit ?_
      refine thenE ?_
      refine thenE ?_
      refine blockE ?_
      refine thenN ?_
      exact ⟨(FrLe.cons rfl (FrLe.cons rfl (FrLe.cons rfl (FrLe.cons rfl (FrLe.nil _))))), h⟩
    refine AW.skip ?_
    refine thenN ?_
    refine AW.seq ?_
    refine AW.block ?_
    refine AW.drawn2 (fun i => ([0, 0, 0, 2, 0, 2, 0, 1, 2, 0, 2] : List Nat).getD i 2) [(0, 1), (0, 8), (2, 3), (2, 6), (2, 7), (2, 8), (3, 6), (3, 7), (3, 8), (4, 5), (4, 6), (4, 7), (4, 8), (6, 7), (6, 8)] [0, 1, 2, 4, 3, 5, 6, 7] [8, 9, 10] Tryz.mixed h (by decide +kernel) ?_
    clear h
    intro ψ σ h
    refine Dp rfl rfl rfl rfl (V_fld rfl Tryz.underlying30 rfl ty23 (by decide) rfl) ?_
    obtain ⟨x23_42, hc, h⟩ := h
    refine Dp rfl rfl rfl rfl (V_ld rfl Tryz.underlying23 rfl rfl hc) ?_
    refine Dp rfl rfl rfl rfl (V_move rfl rfl) ?_
    refine Dp rfl rfl rfl rfl (V_move rfl rfl) ?_
    refine Dg rfl rfl rfl rfl (X_call rfl Tryz.func55 rfl rfl rfl (ACalls.mono h ?_))
    rintro v σ ⟨x25_43, rfl, h⟩
    refine Dg rfl rfl rfl rfl (X_call rfl Tryz.func54 rfl rfl rfl (ACalls.mono h ?_))
    rintro v σ ⟨x27_44, rfl, h⟩
    refine Dp rfl rfl rfl rfl (V_bld (vs := [(0, .string x25_43), (1, .int .i64 x27_44)]) (cs := #[.string x25_43, .int .i64 x27_44]) rfl Tryz.underlying128 ty128 pl128 rfl rfl) ?_
    refine Da rfl rfl rfl rfl (A_bsl (vs := [(0, .agg #[.string x25_43, .int .i64 x27_44])]) (cs := #[.string x25_43, .int .i64 x27_44]) rfl Tryz.underlying23 ty128 (by decide) rfl rfl) fun x29_45 g1 g2 => ?_
    replace h := h x29_45 g1 g2
    refine ⟨_, FrEq.refl _, fun hdj => ?_⟩
    replace h := h hdj
    refine Dg rfl rfl rfl rfl (X_bi (s := Builtin.append_ #[23, 23] 23 #[Sl.v x23_42, Sl.v (⟨some ⟨x29_45, 0, none⟩, 1, 1⟩ : Sl)]) rfl rfl (fun _ => rfl) (awp_mono _ h ?_))
    rintro v σ ⟨x30_46, rfl, h⟩
    refine Dp rfl rfl rfl rfl (V_fld rfl Tryz.underlying30 rfl ty23 (by decide) rfl) ?_
    refine Dg rfl rfl rfl rfl (X_st rfl ty23 rfl rfl rfl rfl (stN_mono h fun σ h => ?_))
    refine Dend ?_
    refine blockN ?_
    refine thenN ?_
    refine AW.reg ?_
    refine Lp (V_add rfl rfl rfl) rfl rfl ?_
    refine Lp (V_move rfl rfl) rfl rfl ?_
    refine Lnil ?_
    refine thenN ?_
    refine ARound.head (fr' := [(2, .pointer (some ⟨x2_1, 0, none⟩)), (4, .pointer x10_2), (5, .pointer (some ⟨x5_5, 0, none⟩)), (6, .int .i64 x17_6), (19, .int .i64 (if 16 < x17_6 then 16 else x17_6)), (20, .int .i64 (IntKind.i64.wrap (x20_41 + 1)))]) ?_ (FrLe.cons rfl (FrLe.cons rfl (FrLe.cons rfl (FrLe.cons rfl (FrLe.cons rfl (FrLe.cons rfl (FrLe.nil _)))))))
    exact hY40 _ _ h
  rintro fr σ ⟨hl, h⟩
  refine AW.weaken ?_ hl (HLe.refl _)
  unfold j7_store_GetReply at h
  refine AW.seq ?_
  refine AW.reg ?_
  refine Lp (V_move rfl rfl) rfl rfl ?_
  refine Ls rfl rfl (X_call rfl Tryz.func54 rfl rfl rfl (ACalls.mono h ?_))
  rintro v σ ⟨x34_8, rfl, h⟩
  refine Lp (V_sub rfl rfl rfl) rfl rfl ?_
  refine Lp (V_fld rfl Tryz.underlying30 rfl ty3 (by decide) rfl) rfl rfl ?_
  refine Ls rfl rfl (X_st rfl ty3 rfl rfl rfl rfl (stN_mono h fun σ h => ?_))
  refine Lnil ?_
  refine thenN ?_
  refine AW.seq ?_
  refine AW.reg ?_
  refine Lp (V_move rfl rfl) rfl rfl ?_
  refine Ls rfl rfl (X_call rfl Tryz.func56 rfl rfl rfl (ACalls.mono h ?_))
  rintro v σ ⟨x38_9, rfl, h⟩
  refine Lp (V_fld rfl Tryz.underlying30 rfl ty24 (by decide) rfl) rfl rfl ?_
  refine Ls rfl rfl (X_st rfl ty24 rfl rfl rfl rfl (stN_mono h fun σ h => ?_))
  refine Lnil ?_
  refine thenN ?_
  refine AW.seq ?_
  refine AW.reg ?_
  refine Lp (V_move rfl rfl) rfl rfl ?_
  refine Ls rfl rfl (X_call rfl Tryz.func54 rfl rfl rfl (ACalls.mono h ?_))
  rintro v σ ⟨x41_10, rfl, h⟩
  refine Lp (V_move rfl rfl) rfl rfl ?_
  refine Ls rfl rfl (X_call rfl Tryz.func54 rfl rfl rfl (ACalls.mono h ?_))
  rintro v σ ⟨x43_11, rfl, h⟩
  refine Lp (V_move rfl rfl) rfl rfl ?_
  refine Ls rfl rfl (X_call rfl Tryz.func54 rfl rfl rfl (ACalls.mono h ?_))
  rintro v σ ⟨x45_12, rfl, h⟩
  refine Lp (V_move rfl rfl) rfl rfl ?_
  refine Ls rfl rfl (X_call rfl Tryz.func54 rfl rfl rfl (ACalls.mono h ?_))
  rintro v σ ⟨x47_13, rfl, h⟩
  refine Lp (V_bld (vs := [(0, .int .i64 x41_10), (1, .int .i64 x43_11), (2, .int .i64 x45_12), (3, .int .i64 x47_13)]) (cs := #[.int .i64 x41_10, .int .i64 x43_11, .int .i64 x45_12, .int .i64 x47_13]) rfl Tryz.underlying26 ty26 pl26 rfl rfl) rfl rfl ?_
  refine Lp (V_fld rfl Tryz.underlying30 rfl ty26 (by decide) rfl) rfl rfl ?_
  refine Ls rfl rfl (X_st rfl ty26 rfl rfl rfl rfl (stN_mono h fun σ h => ?_))
  refine Lnil ?_
  refine thenN ?_
  refine AW.seq ?_
  refine AW.reg ?_
  refine Lp (V_move rfl rfl) rfl rfl ?_
  refine Ls rfl rfl (X_call rfl Tryz.func54 rfl rfl rfl (ACalls.mono h ?_))
  rintro v σ ⟨x51_14, rfl, h⟩
  refine Lp (V_asg rfl rfl) rfl rfl ?_
  refine Lnil ?_
  refine thenN ?_
  refine AW.seqJ (fun fr σ => FrLe [(2, .pointer (some ⟨x2_1, 0, none⟩)), (4, .pointer x10_2), (5, .pointer (some ⟨x5_5, 0, none⟩)), (6, .int .i64 x17_6), (7, .int .i64 x51_14)] fr ∧ j15_store_GetReply B ro x2_1 x5_5 x10_2 x17_6 x51_14 Q σ) ?_ ?_
  rotate_left
  · refine AW.seq ?_
    refine AW.reg ?_
    refine Lp (V_move rfl rfl) rfl rfl ?_
    refine Lp (V_min2 rfl rfl) rfl rfl ?_
    refine Lp (V_move rfl rfl) rfl rfl ?_
    refine Lnil ?_
    refine thenN ?_
    refine AW.block ?_
    refine ARound.loop (fr' := [(2, .pointer (some ⟨x2_1, 0, none⟩)), (4, .pointer x10_2), (5, .pointer (some ⟨x5_5, 0, none⟩)), (6, .int .i64 x17_6), (7, .int .i64 x51_14), (53, .int .i64 (if 4096 < x51_14 then 4096 else x51_14)), (54, .int .i64 0)]) ?_ (FrLe.cons rfl (FrLe.cons rfl (FrLe.cons rfl (FrLe.cons rfl (FrLe.cons rfl (FrLe.cons rfl (FrLe.cons rfl (FrLe.nil _))))))))
    refine h (fun x54_35 σ => ARound _ _ _ _ _ _ [(2, .pointer (some ⟨x2_1, 0, none⟩)), (4, .pointer x10_2), (5, .pointer (some ⟨x5_5, 0, none⟩)), (6, .int .i64 x17_6), (7, .int .i64 x51_14), (53, .int .i64 (if 4096 < x51_14 then 4096 else x51_14)), (54, .int .i64 x54_35)] σ) ?_
    rintro x54_35 σ Y34 hY34 h
    show AW _ _ _ _ _ _ _ _
    unfold l34_store_GetReply at h
    refine AW.seq ?_
    refine AW.reg ?_
    refine Lp (V_lss rfl rfl rfl) rfl rfl ?_
    refine Lnil ?_
    refine thenN ?_
    refine AW.seq ?_
    refine AW.iff rfl decide_eq_true_iff h (fun h => ?_) (fun h => ?_)
    rotate_left
    · refine AW.exit ?_
      refine thenE ?_
      refine thenE ?_
      refine blockE ?_
      refine thenN ?_
      exact ⟨(FrLe.cons rfl (FrLe.cons rfl (FrLe.cons rfl (FrLe.cons rfl (FrLe.cons rfl (FrLe.nil _)))))), h⟩
    refine AW.skip ?_
    refine thenN ?_
    refine AW.seq ?_
    refine AW.block ?_
    refine AW.drawn2 (fun i => ([0, 0, 0, 2, 1, 2, 0, 2] : List Nat).getD i 2) [(0, 1), (0, 5), (2, 3), (2, 4), (2, 5)] [0, 1, 2, 3, 4] [5, 6, 7] Tryz.mixed h (by decide +kernel) ?_
    clear h
    intro ψ σ h
    refine Dp rfl rfl rfl rfl (V_fld rfl Tryz.underlying30 rfl ty27 (by decide) rfl) ?_
    obtain ⟨x57_36, hc, h⟩ := h
    refine Dp rfl rfl rfl rfl (V_ld rfl Tryz.underlying27 rfl rfl hc) ?_
    refine Dp rfl rfl rfl rfl (V_move rfl rfl) ?_
    refine Dg rfl rfl rfl rfl (X_call rfl Tryz.func55 rfl rfl rfl (ACalls.mono h ?_))
    rintro v σ ⟨x59_37, rfl, h⟩
    refine Da rfl rfl rfl rfl (A_bsl (vs := [(0, .string x59_37)]) (cs := #[.string x59_37]) rfl Tryz.underlying27 ty9 (by decide) rfl rfl) fun x60_38 g1 g2 => ?_
    replace h := h x60_38 g1 g2
    refine ⟨_, FrEq.refl _, fun hdj => ?_⟩
    replace h := h hdj
    refine Dg rfl rfl rfl rfl (X_bi (s := Builtin.append_ #[27, 27] 27 #[Sl.v x57_36, Sl.v (⟨some ⟨x60_38, 0, none⟩, 1, 1⟩ : Sl)]) rfl rfl (fun _ => rfl) (awp_mono _ h ?_))
    rintro v σ ⟨x61_39, rfl, h⟩
    refine Dp rfl rfl rfl rfl (V_fld rfl Tryz.underlying30 rfl ty27 (by decide) rfl) ?_
    refine Dg rfl rfl rfl rfl (X_st rfl ty27 rfl rfl rfl rfl (stN_mono h fun σ h => ?_))
    refine Dend ?_
    refine blockN ?_
    refine thenN ?_
    refine AW.reg ?_
    refine Lp (V_add rfl rfl rfl) rfl rfl ?_
    refine Lp (V_move rfl rfl) rfl rfl ?_
    refine Lnil ?_
    refine thenN ?_
    refine ARound.head (fr' := [(2, .pointer (some ⟨x2_1, 0, none⟩)), (4, .pointer x10_2), (5, .pointer (some ⟨x5_5, 0, none⟩)), (6, .int .i64 x17_6), (7, .int .i64 x51_14), (53, .int .i64 (if 4096 < x51_14 then 4096 else x51_14)), (54, .int .i64 (IntKind.i64.wrap (x54_35 + 1)))]) ?_ (FrLe.cons rfl (FrLe.cons rfl (FrLe.cons rfl (FrLe.cons rfl (FrLe.cons rfl (FrLe.cons rfl (FrLe.cons rfl (FrLe.nil _))))))))
    exact hY34 _ _ h
  rintro fr σ ⟨hl, h⟩
  refine AW.weaken ?_ hl (HLe.refl _)
  unfold j15_store_GetReply at h
  refine AW.seq ?_
  refine AW.reg ?_
  refine Lp (V_move rfl rfl) rfl rfl ?_
  refine Ls rfl rfl (X_call rfl Tryz.func54 rfl rfl rfl (ACalls.mono h ?_))
  rintro v σ ⟨x65_16, rfl, h⟩
  refine Lp (V_asg rfl rfl) rfl rfl ?_
  refine Lnil ?_
  refine thenN ?_
  refine AW.seqJ (fun fr σ => FrLe [(2, .pointer (some ⟨x2_1, 0, none⟩)), (4, .pointer x10_2), (5, .pointer (some ⟨x5_5, 0, none⟩)), (6, .int .i64 x17_6), (7, .int .i64 x51_14), (8, .int .i64 x65_16)] fr ∧ j17_store_GetReply B ro x2_1 x5_5 x10_2 x17_6 x51_14 x65_16 Q σ) ?_ ?_
  rotate_left
  · refine AW.seq ?_
    refine AW.reg ?_
    refine Lp (V_move rfl rfl) rfl rfl ?_
    refine Lp (V_min2 rfl rfl) rfl rfl ?_
    refine Lp (V_move rfl rfl) rfl rfl ?_
    refine Lnil ?_
    refine thenN ?_
    refine AW.block ?_
    refine ARound.loop (fr' := [(2, .pointer (some ⟨x2_1, 0, none⟩)), (4, .pointer x10_2), (5, .pointer (some ⟨x5_5, 0, none⟩)), (6, .int .i64 x17_6), (7, .int .i64 x51_14), (8, .int .i64 x65_16), (67, .int .i64 (if 32 < x65_16 then 32 else x65_16)), (68, .int .i64 0)]) ?_ (FrLe.cons rfl (FrLe.cons rfl (FrLe.cons rfl (FrLe.cons rfl (FrLe.cons rfl (FrLe.cons rfl (FrLe.cons rfl (FrLe.cons rfl (FrLe.nil _)))))))))
    refine h (fun x68_27 σ => ARound _ _ _ _ _ _ [(2, .pointer (some ⟨x2_1, 0, none⟩)), (4, .pointer x10_2), (5, .pointer (some ⟨x5_5, 0, none⟩)), (6, .int .i64 x17_6), (7, .int .i64 x51_14), (8, .int .i64 x65_16), (67, .int .i64 (if 32 < x65_16 then 32 else x65_16)), (68, .int .i64 x68_27)] σ) ?_
    rintro x68_27 σ Y26 hY26 h
    show AW _ _ _ _ _ _ _ _
    unfold l26_store_GetReply at h
    refine AW.seq ?_
    refine AW.reg ?_
    refine Lp (V_lss rfl rfl rfl) rfl rfl ?_
    refine Lnil ?_
    refine thenN ?_
    refine AW.seq ?_
    refine AW.iff rfl decide_eq_true_iff h (fun h => ?_) (fun h => ?_)
    rotate_left
    · refine AW.exit ?_
      refine thenE ?_
      refine thenE ?_
      refine blockE ?_
      refine thenN ?_
      exact ⟨(FrLe.cons rfl (FrLe.cons rfl (FrLe.cons rfl (FrLe.cons rfl (FrLe.cons rfl (FrLe.cons rfl (FrLe.nil _))))))), h⟩
    refine AW.skip ?_
    refine thenN ?_
    refine AW.seq ?_
    refine AW.block ?_
    refine AW.drawn2 (fun i => ([0, 0, 0, 2, 0, 2, 0, 2, 0, 1, 2, 0, 2] : List Nat).getD i 2) [(0, 1), (0, 10), (2, 3), (2, 8), (2, 9), (2, 10), (3, 5), (3, 7), (3, 8), (3, 9), (3, 10), (4, 5), (4, 8), (4, 9), (4, 10), (5, 8), (5, 9), (5, 10), (6, 7), (6, 8), (6, 9), (6, 10), (8, 9), (8, 10)] [0, 1, 2, 4, 6, 3, 5, 7, 8, 9] [10, 11, 12] Tryz.mixed h (by decide +kernel) ?_
    clear h
    intro ψ σ h
    refine Dp rfl rfl rfl rfl (V_fld rfl Tryz.underlying30 rfl ty28 (by decide) rfl) ?_
    obtain ⟨x71_28, hc, h⟩ := h
    refine Dp rfl rfl rfl rfl (V_ld rfl Tryz.underlying28 rfl rfl hc) ?_
    refine Dp rfl rfl rfl rfl (V_move rfl rfl) ?_
    refine Dp rfl rfl rfl rfl (V_move rfl rfl) ?_
    refine Dp rfl rfl rfl rfl (V_move rfl rfl) ?_
    refine Dg rfl rfl rfl rfl (X_call rfl Tryz.func54 rfl rfl rfl (ACalls.mono h ?_))
    rintro v σ ⟨x73_29, rfl, h⟩
    refine Dg rfl rfl rfl rfl (X_call rfl Tryz.func54 rfl rfl rfl (ACalls.mono h ?_))
    rintro v σ ⟨x75_30, rfl, h⟩
    refine Dg rfl rfl rfl rfl (X_call rfl Tryz.func55 rfl rfl rfl (ACalls.mono h ?_))
    rintro v σ ⟨x77_31, rfl, h⟩
    refine Dp rfl rfl rfl rfl (V_bld (vs := [(0, .int .i64 x73_29), (1, .int .i64 x75_30), (2, .string x77_31)]) (cs := #[.int .i64 x73_29, .int .i64 x75_30, .string x77_31]) rfl Tryz.underlying132 ty132 pl132 rfl rfl) ?_
    refine Da rfl rfl rfl rfl (A_bsl (vs := [(0, .agg #[.int .i64 x73_29, .int .i64 x75_30, .string x77_31])]) (cs := #[.int .i64 x73_29, .int .i64 x75_30, .string x77_31]) rfl Tryz.underlying28 ty132 (by decide) rfl rfl) fun x79_32 g1 g2 => ?_
    replace h := h x79_32 g1 g2
    refine ⟨_, FrEq.refl _, fun hdj => ?_⟩
    replace h := h hdj
    refine Dg rfl rfl rfl rfl (X_bi (s := Builtin.append_ #[28, 28] 28 #[Sl.v x71_28, Sl.v (⟨some ⟨x79_32, 0, none⟩, 1, 1⟩ : Sl)]) rfl rfl (fun _ => rfl) (awp_mono _ h ?_))
    rintro v σ ⟨x80_33, rfl, h⟩
    refine Dp rfl rfl rfl rfl (V_fld rfl Tryz.underlying30 rfl ty28 (by decide) rfl) ?_
    refine Dg rfl rfl rfl rfl (X_st rfl ty28 rfl rfl rfl rfl (stN_mono h fun σ h => ?_))
    refine Dend ?_
    refine blockN ?_
    refine thenN ?_
    refine AW.reg ?_
    refine Lp (V_add rfl rfl rfl) rfl rfl ?_
    refine Lp (V_move rfl rfl) rfl rfl ?_
    refine Lnil ?_
    refine thenN ?_
    refine ARound.head (fr' := [(2, .pointer (some ⟨x2_1, 0, none⟩)), (4, .pointer x10_2), (5, .pointer (some ⟨x5_5, 0, none⟩)), (6, .int .i64 x17_6), (7, .int .i64 x51_14), (8, .int .i64 x65_16), (67, .int .i64 (if 32 < x65_16 then 32 else x65_16)), (68, .int .i64 (IntKind.i64.wrap (x68_27 + 1)))]) ?_ (FrLe.cons rfl (FrLe.cons rfl (FrLe.cons rfl (FrLe.cons rfl (FrLe.cons rfl (FrLe.cons rfl (FrLe.cons rfl (FrLe.cons rfl (FrLe.nil _)))))))))
    exact hY26 _ _ h
  rintro fr σ ⟨hl, h⟩
  refine AW.weaken ?_ hl (HLe.refl _)
  unfold j17_store_GetReply at h
  refine AW.seq ?_
  refine AW.reg ?_
  refine Lp (V_move rfl rfl) rfl rfl ?_
  refine Ls rfl rfl (X_call rfl Tryz.func54 rfl rfl rfl (ACalls.mono h ?_))
  rintro v σ ⟨x84_18, rfl, h⟩
  refine Lp (V_fld rfl Tryz.underlying30 rfl ty3 (by decide) rfl) rfl rfl ?_
  refine Ls rfl rfl (X_st rfl ty3 rfl rfl rfl rfl (stN_mono h fun σ h => ?_))
  refine Lnil ?_
  refine thenN ?_
  refine AW.seq ?_
  refine AW.seq ?_
  refine AW.reg ?_
  refine Lp (V_move rfl rfl) rfl rfl ?_
  refine Ls rfl rfl (X_call rfl Tryz.func57 rfl rfl rfl (ACalls.mono h ?_))
  rintro v σ ⟨x87_19, rfl, h⟩
  refine Lp (V_neq rfl rfl rfl) rfl rfl ?_
  refine Lp (V_move rfl rfl) rfl rfl ?_
  refine LsplitJ 4 (!(decide (x87_19 = 0))) (bnot_iff decide_eq_true_iff) h (fun fr σ => ∃ (x93_21 : Bool), FrLe [(2, .pointer (some ⟨x2_1, 0, none⟩)), (5, .pointer (some ⟨x5_5, 0, none⟩)), (6, .int .i64 x17_6), (7, .int .i64 x51_14), (8, .int .i64 x65_16), (93, .bool x93_21)] fr ∧ j20_store_GetReply B ro x2_1 x5_5 x17_6 x51_14 x65_16 Q x93_21 σ) ?_ ?_ ?_
  · intro h e3 hk3
    refine Ln rfl rfl rfl rfl (.inl (by rw [e3]; rfl)) ?_
    refine Ln rfl rfl rfl rfl (.inl (by rw [e3]; rfl)) ?_
    refine Ln rfl rfl rfl rfl (.inl (by rw [e3]; rfl)) ?_
    refine Lp (V_pickT rfl (evb e3) rfl) rfl rfl ?_
    exact hk3 _ _ ⟨_, (FrLe.cons rfl (FrLe.cons rfl (FrLe.cons rfl (FrLe.cons rfl (FrLe.cons rfl (FrLe.cons rfl (FrLe.nil _))))))), h⟩
  · intro h e3 hk3
    refine Lypb (V_move rfl rfl) rfl rfl rfl rfl e3 ?_
    refine Lyb rfl rfl rfl rfl e3 (X_call rfl Tryz.func58 rfl rfl rfl (ACalls.mono h ?_))
    rintro v σ ⟨x91_25, rfl, h⟩
    refine Lypb (V_gtr rfl rfl rfl) rfl rfl rfl rfl e3 ?_
    refine Lp (V_pickF rfl (evb e3) rfl) rfl rfl ?_
    exact hk3 _ _ ⟨_, (FrLe.cons rfl (FrLe.cons rfl (FrLe.cons rfl (FrLe.cons rfl (FrLe.cons rfl (FrLe.cons rfl (FrLe.nil _))))))), h⟩
  rintro fr σ ⟨x93_21, hl, h⟩
  unfold j20_store_GetReply at h
  refine Lfr hl ?_
  refine Lp (V_move rfl rfl) rfl rfl ?_
  refine Lsplit 3 x93_21 [(2, .pointer (some ⟨x2_1, 0, none⟩)), (5, .pointer (some ⟨x5_5, 0, none⟩)), (7, .int .i64 x51_14), (8, .int .i64 x65_16), (97, .bool (x93_21 || (decide (16 < x17_6))))] ?_ ?_ ?_
  · intro e8 hk8
    refine Ln rfl rfl rfl rfl (.inl (by rw [e8]; rfl)) ?_
    refine Ln rfl rfl rfl rfl (.inl (by rw [e8]; rfl)) ?_
    refine Lp (V_pickT rfl (evb e8) rfl) rfl rfl ?_
    exact hk8 _ (FrLe.cons rfl (FrLe.cons rfl (FrLe.cons rfl (FrLe.cons rfl (FrLe.cons (by rw [e8]; rfl) (FrLe.nil _))))))
  · intro e8 hk8
    refine Lypb (V_move rfl rfl) rfl rfl rfl rfl e8 ?_
    refine Lypb (V_gtr rfl rfl rfl) rfl rfl rfl rfl e8 ?_
    refine Lp (V_pickF rfl (evb e8) rfl) rfl rfl ?_
    exact hk8 _ (FrLe.cons rfl (FrLe.cons rfl (FrLe.cons rfl (FrLe.cons rfl (FrLe.cons (by rw [e8]; rfl) (FrLe.nil _))))))
  intro fr hl
  refine Lfr hl ?_
  refine Lp (V_move rfl rfl) rfl rfl ?_
  refine Lsplit 3 (x93_21 || (decide (16 < x17_6))) [(2, .pointer (some ⟨x2_1, 0, none⟩)), (5, .pointer (some ⟨x5_5, 0, none⟩)), (8, .int .i64 x65_16), (101, .bool ((x93_21 || (decide (16 < x17_6))) || (decide (4096 < x51_14))))] ?_ ?_ ?_
  · intro e12 hk12
    refine Ln rfl rfl rfl rfl (.inl (by rw [e12]; rfl)) ?_
    refine Ln rfl rfl rfl rfl (.inl (by rw [e12]; rfl)) ?_
    refine Lp (V_pickT rfl (evb e12) rfl) rfl rfl ?_
    exact hk12 _ (FrLe.cons rfl (FrLe.cons rfl (FrLe.cons rfl (FrLe.cons (by rw [e12]; rfl) (FrLe.nil _)))))
  · intro e12 hk12
    refine Lypb (V_move rfl rfl) rfl rfl rfl rfl e12 ?_
    refine Lypb (V_gtr rfl rfl rfl) rfl rfl rfl rfl e12 ?_
    refine Lp (V_pickF rfl (evb e12) rfl) rfl rfl ?_
    exact hk12 _ (FrLe.cons rfl (FrLe.cons rfl (FrLe.cons rfl (FrLe.cons (by rw [e12]; rfl) (FrLe.nil _)))))
  intro fr hl
  refine Lfr hl ?_
  refine Lp (V_move rfl rfl) rfl rfl ?_
  refine Lsplit 3 ((x93_21 || (decide (16 < x17_6))) || (decide (4096 < x51_14))) [(2, .pointer (some ⟨x2_1, 0, none⟩)), (5, .pointer (some ⟨x5_5, 0, none⟩)), (105, .bool (((x93_21 || (decide (16 < x17_6))) || (decide (4096 < x51_14))) || (decide (32 < x65_16))))] ?_ ?_ ?_
  · intro e16 hk16
    refine Ln rfl rfl rfl rfl (.inl (by rw [e16]; rfl)) ?_
    refine Ln rfl rfl rfl rfl (.inl (by rw [e16]; rfl)) ?_
    refine Lp (V_pickT rfl (evb e16) rfl) rfl rfl ?_
    exact hk16 _ (FrLe.cons rfl (FrLe.cons rfl (FrLe.cons (by rw [e16]; rfl) (FrLe.nil _))))
  · intro e16 hk16
    refine Lypb (V_move rfl rfl) rfl rfl rfl rfl e16 ?_
    refine Lypb (V_gtr rfl rfl rfl) rfl rfl rfl rfl e16 ?_
    refine Lp (V_pickF rfl (evb e16) rfl) rfl rfl ?_
    exact hk16 _ (FrLe.cons rfl (FrLe.cons rfl (FrLe.cons (by rw [e16]; rfl) (FrLe.nil _))))
  intro fr hl
  refine Lfr hl ?_
  refine Lnil ?_
  refine thenN ?_
  refine AW.iff rfl (bor_iff (bor_iff (bor_iff Iff.rfl decide_eq_true_iff) decide_eq_true_iff) decide_eq_true_iff) h (fun h => ?_) (fun h => ?_)
  rotate_left
  · refine AW.skip ?_
    refine thenN ?_
    refine AW.seq ?_
    refine AW.reg ?_
    obtain ⟨x107_23a, x107_23b, x107_23c, x107_23d, x107_23e, x107_23f, x107_23g, x107_23h, x107_23i, x107_23j, x107_23k, x107_23l, hc, h⟩ := h
    refine Ls rfl rfl (X_lda rfl Tryz.underlying30 rfl ty30 rfl hc ?_)
    refine Ls rfl rfl (X_st rfl ty30 rfl rfl rfl rfl (stN_mono h fun σ h => ?_))
    refine Lp (V_asg rfl rfl) rfl rfl ?_
    refine Lnil ?_
    refine thenN ?_
    refine AW.ret ?_
    obtain ⟨x2_24a, x2_24b, x2_24c, x2_24d, x2_24e, x2_24f, x2_24g, x2_24h, x2_24i, x2_24j, x2_24k, x2_24l, hc0, h⟩ := h
    exact bRM Tryz.results15 (rCons (rAgg rfl Tryz.underlying30 rfl ty30 hc0) (rCons (rTmp rfl) rNil)) ⟨_, _, _, _, _, _, _, _, _, _, _, _, _, rfl, h⟩
  refine AW.seq ?_
  refine AW.reg ?_
  refine Lp (V_bld (vs := []) (cs := #[.int .i64 0, .int .i64 0, Sl.v (⟨none, 0, 0⟩ : Sl), .int .i64 0, Sl.v (⟨none, 0, 0⟩ : Sl), .int .i64 0, .int .i64 0, .int .i64 0, .int .i64 0, Sl.v (⟨none, 0, 0⟩ : Sl), Sl.v (⟨none, 0, 0⟩ : Sl), .int .i64 0]) rfl Tryz.underlying30 ty30 pl30 rfl (by kernel_rfl)) rfl rfl ?_
  refine Ls rfl rfl (X_st rfl ty30 rfl rfl rfl rfl (stN_mono h fun σ h => ?_))
  refine Lp (V_asg rfl rfl) rfl rfl ?_
  refine Lnil ?_
  refine thenN ?_
  refine AW.ret ?_
  refine thenR ?_
  obtain ⟨x2_22a, x2_22b, x2_22c, x2_22d, x2_22e, x2_22f, x2_22g, x2_22h, x2_22i, x2_22j, x2_22k, x2_22l, hc0, h⟩ := h
  exact bRM Tryz.results15 (rCons (rAgg rfl Tryz.underlying30 rfl ty30 hc0) (rCons (rTmp rfl) rNil)) ⟨_, _, _, _, _, _, _, _, _, _, _, _, _, rfl, h⟩

end Go.Proofs.YtomdigihapdhnaaGreatDoor.G

/- Rows in blocks that nobody changes, wherever they begin: read only, or owned. Generic over any program. -/
namespace Go.Proofs.YtomdigihapdhnaaGreatDoor.SL
open Go
set_option linter.unusedVariables false
variable {P : Program} {B : World} {ro σ σ' : AH} {tag tag' : Nat → Nat} {L : List Nat}
/-- the cells of a slice, in an object of one role -/
def Held (tag : Nat → Nat) (σ : AH) (q : Nat) (s : Sl) (l : List Value) : Prop :=
  s.len = l.length ∧ ((s.a = none ∧ l = []) ∨ ∃ p o, s.a = some p ∧ tag p.block = q ∧ σ p.block = some o ∧ ∀ i v, l[i]? = some v → cellOf (p.add i) (some o) = some v)
theorem Held.nil (q : Nat) : Held tag σ q ⟨none, 0, 0⟩ [] := ⟨rfl, .inl ⟨rfl, rfl⟩⟩
theorem add_block (p : Addr) (i : Nat) : (p.add i).block = p.block := by
  cases i with
  | zero => rfl
  | succ i => rfl
theorem Held.keep {R : List Nat} {q : Nat} {s : Sl} {l : List Value} (h : Held tag σ q s l) (k : Step R ro tag σ tag' σ') (hq : q ∉ R) : Held tag' σ' q s l := by
  obtain ⟨h1, h2 | ⟨p, o, h2, h3, h4, h5⟩⟩ := h
  · exact ⟨h1, .inl h2⟩
  · obtain ⟨e1, e2⟩ := k.keep _ _ h4 (by rw [h3]; exact hq)
    exact ⟨h1, .inr ⟨p, o, h2, e1.trans h3, e2, h5⟩⟩
theorem Held.keepS {C : List Nat} {q : Nat} {s : Sl} {l : List Value} (h : Held tag σ q s l) (k : StepS C ro tag σ tag' σ') (hq : q % 64 ∉ C) : Held tag' σ' q s l := by
  obtain ⟨R, h1, h2⟩ := k
  exact h.keep h2 fun m => hq (h1 _ m)
theorem Held.read {q : Nat} {s : Sl} {l : List Value} (h : Held tag σ q s l) (hs : Sep ro σ) : Read ro σ s l := by
  obtain ⟨h1, h2 | ⟨p, o, h2, h3, h4, h5⟩⟩ := h
  · exact ⟨h1, fun _ => h2.2, fun p hp => by rw [h2.1] at hp; cases hp⟩
  · refine ⟨h1, (fun e => by rw [h2] at e; cases e), fun p' hp' i v hv => ?_⟩
    rw [h2] at hp'; cases hp'
    unfold acell rd
    rw [add_block, hs _ _ h4, h4]
    exact h5 i v hv
theorem Held.del {q b : Nat} {s : Sl} {l : List Value} (h : Held tag σ q s l) (hb : tag b ≠ q) : Held tag (SL.del σ b) q s l := by
  obtain ⟨h1, h2 | ⟨p, o, h2, h3, h4, h5⟩⟩ := h
  · exact ⟨h1, .inl h2⟩
  · exact ⟨h1, .inr ⟨p, o, h2, h3, by unfold SL.del; rw [if_neg (fun e => hb (by rw [← e]; exact h3))]; exact h4, h5⟩⟩
/-- data: among what is only read, or held in blocks of the role 6 -/
def Data (ro : AH) (tag : Nat → Nat) (σ : AH) (s : Sl) (l : List Value) : Prop := Read ro (fun _ => none) s l ∨ Held tag σ 6 s l
theorem Data.len {s : Sl} {l : List Value} (h : Data ro tag σ s l) : s.len = l.length := by
  rcases h with h | h
  · exact h.1
  · exact h.1
theorem Data.read {s : Sl} {l : List Value} (h : Data ro tag σ s l) (hs : Sep ro σ) : Read ro σ s l := by
  rcases h with h | h
  · exact h.keep
  · exact h.read hs
theorem Data.keep {R : List Nat} {s : Sl} {l : List Value} (h : Data ro tag σ s l) (k : Step R ro tag σ tag' σ') (h6 : 6 ∉ R) : Data ro tag' σ' s l := by
  rcases h with h | h
  · exact .inl h
  · exact .inr (h.keep k h6)
theorem Data.keepS {C : List Nat} {s : Sl} {l : List Value} (h : Data ro tag σ s l) (k : StepS C ro tag σ tag' σ') (h6 : 6 ∉ C) : Data ro tag' σ' s l := by
  rcases h with h | h
  · exact .inl h
  · exact .inr (h.keepS k h6)
theorem read_more {ψ : AH} {s : Sl} {l : List Value} (h : Read ro (fun _ => none) s l) : Read (join ro ψ) (fun _ => none) s l := by
  refine ⟨h.1, h.2.1, fun p hp i v hv => ?_⟩
  have := h.2.2 p hp i v hv
  unfold acell rd at this ⊢
  cases hr : ro (p.add i).block with
  | none => rw [hr] at this; simp [cellOf] at this
  | some o => rw [hr] at this; unfold join; rw [hr]; exact this
theorem Data.del {b : Nat} {s : Sl} {l : List Value} (h : Data ro tag σ s l) (hb : tag b ≠ 6) : Data (join ro (one σ b)) tag (SL.del σ b) s l := by
  rcases h with h | h
  · exact .inl (read_more h)
  · exact .inr (h.del hb)
end Go.Proofs.YtomdigihapdhnaaGreatDoor.SL

/- Several values stored at the beginning of a row. Generic over any program. -/
namespace Go.Proofs.YtomdigihapdhnaaGreatDoor.SL
open Go
set_option linter.unusedVariables false
variable {ro σ : AH} {tag : Nat → Nat}
theorem stN_cons {b i : Nat} {v : Value} {vs : List Value} {K : AH → Prop} (h : stN ((⟨b, 0, none⟩ : Addr).add (i * 1)) (fun σ => stN ⟨b, 0, none⟩ K vs (i + 1) σ) [v] 0 σ) : stN ⟨b, 0, none⟩ K (v :: vs) i σ := by
  have e : ((⟨b, 0, none⟩ : Addr).add (i * 1)).add 0 = (⟨b, 0, none⟩ : Addr).add i := by rw [add_add, add_add, add_add, Nat.mul_one, Nat.add_zero]
  unfold stN at h ⊢
  rw [e] at h
  exact h
theorem Row.stPre {r : Nat} {e : TypeId} {b n c : Nat} {K : AH → Prop} : ∀ (vs : List Value) (i : Nat) (l : List Value) (σ : AH), Row tag σ r e ⟨some ⟨b, 0, none⟩, n, c⟩ l → Sep ro σ → i + vs.length ≤ l.length → (∀ v ∈ vs, storable v = true) →
    (∀ σ', Step [r] ro tag σ tag σ' → Row tag σ' r e ⟨some ⟨b, 0, none⟩, n, c⟩ (l.take i ++ vs ++ l.drop (i + vs.length)) → K σ') → stN ⟨b, 0, none⟩ K vs i σ := by
  intro vs
  induction vs with
  | nil =>
    intro i l σ h hs _ _ hK
    refine hK σ (Step.refl hs) ?_
    simpa using h
  | cons v vs ih =>
    intro i l σ h hs hl hv hK
    simp only [List.length_cons] at hl
    refine stN_cons ?_
    refine h.st hs rfl (by omega) (hv v (by simp)) fun σ1 st1 h1 => ?_
    refine ih (i + 1) (l.set i v) σ1 h1 st1.sep (by simp; omega) (fun w hw => hv w (by simp [hw])) fun σ2 st2 h2 => ?_
    refine hK σ2 (st1.trans st2) ?_
    have e1 : (l.set i v).take (i + 1) = l.take i ++ [v] := by
      rw [List.take_add_one, List.take_set_of_le (Nat.le_refl _), List.getElem?_set_self (by omega)]; rfl
    have e2 : (l.set i v).drop (i + 1 + vs.length) = l.drop (i + (v :: vs).length) := by
      rw [List.drop_set_of_lt (by omega)]; congr 1; simp; omega
    rw [e1, e2] at h2
    simpa using h2
end Go.Proofs.YtomdigihapdhnaaGreatDoor.SL

/- Replies as bytes: store.PutReply. -/
namespace Go.Proofs.YtomdigihapdhnaaGreatDoor.Zt
open Go Go.Proofs.YtomdigihapdhnaaGreatDoor.SL Go.Proofs.YtomdigihapdhnaaGreatDoor.G Go.Proofs.YtomdigihapdhnaaGreatDoor.Pa Go.Proofs.YtomdigihapdhnaaGreatDoor.Wi
set_option linter.unusedSimpArgs false
set_option linter.unusedVariables false
set_option maxRecDepth 100000
variable {B : World} {ro σ σ' : AH} {tag tag' : Nat → Nat}

def evV' (e : Int × Int × Str) : List Value := [vI e.1, vI e.2.1, Pa.vS e.2.2]
/-- a reply that can be read -/
structure RepD (ro σ : AH) (rs ds ns es : Sl) (x : Rep) : Prop where
  res : SL.ReadW ro σ 2 rs (x.results.map resV)
  data : SL.Read ro σ ds (x.data.map vU)
  names : SL.Read ro σ ns (x.names.map Pa.vS)
  evs : SL.ReadW ro σ 3 es (x.events.map evV')
abbrev CR : List Nat := [0, 1, 2, 30]
theorem putReply_ok {rs ds ns es : Sl} {x : Rep} {Q : Sl → Int → AH → Prop} (hx : ∀ tag' σ', StepS CR ro tag σ tag' σ' → RepD ro σ' rs ds ns es x) (hsm : Sm20 x) (hb : -9223372036854775808 ≤ x.bad)
    (hno : putRep x = none → ∀ tag' σ', StepS CR ro tag σ tag' σ' → Q ⟨none, 0, 0⟩ 170 σ')
    (hyes : ∀ b, putRep x = some b → ∀ s tag' σ', StepS CR ro tag σ tag' σ' → Row tag' σ' 6 5 s (b.map vU) → Q s 0 σ') : c_store_PutReply B ro x.code x.session rs x.bad ds x.ver x.ctr x.own x.kids ns es x.epoch σ Q := by
  refine store_PutReply_ok fun hs => ?_
  unfold f_store_PutReply
  have hx0 := hx tag σ (StepS.refl hs)
  have lr : rs.len = x.results.length := by rw [hx0.res.1, List.length_map]
  have ln : ns.len = x.names.length := by rw [hx0.names.1, List.length_map]
  have le : es.len = x.events.length := by rw [hx0.evs.1, List.length_map]
  refine nw_cells (tag := tag) 2 hs fun X tag1 σ1 st1 r1 => ?_
  have s1 : StepS CR ro tag σ tag1 σ1 := (st1 []).s (by simp)
  obtain ⟨p, hp, hg⟩ := r1.ptr (st1 []).sep (by simp)
  cases hp
  have no : ¬ okRep x → Q ⟨none, 0, 0⟩ 170 σ1 := fun h => hno (by unfold putRep; rw [if_neg h]) tag1 σ1 s1
  have n7 : ¬ okRep x → j7_store_PutReply B ro X Q true σ1 := fun h => by unfold j7_store_PutReply; rw [if_pos rfl]; exact no h
  have n5 : ¬ okRep x → j5_store_PutReply B ro X Q true σ1 := fun h => by unfold j5_store_PutReply; rw [if_pos rfl]; exact n7 h
  have n3 : ¬ okRep x → j3_store_PutReply B ro X Q true σ1 := fun h => by unfold j3_store_PutReply; rw [if_pos rfl]; exact n5 h
  refine ⟨rs, hg 2 _ rfl, ?_⟩
  by_cases h1 : 16 < x.results.length
  · rw [if_pos (by omega)]; exact n3 fun k => by have := k.1; omega
  rw [if_neg (by omega)]
  refine ⟨ns, hg 9 _ rfl, ?_⟩
  by_cases h2 : 4096 < x.names.length
  · rw [show decide ((4096 : Int) < (ns.len : Int)) = true by simp; omega]
    exact n3 fun k => by have := k.2.1; omega
  rw [show decide ((4096 : Int) < (ns.len : Int)) = false by simp; omega]
  unfold j3_store_PutReply
  rw [if_neg (by simp)]
  refine ⟨es, hg 10 _ rfl, ?_⟩
  by_cases h3 : 32 < x.events.length
  · rw [show decide ((32 : Int) < (es.len : Int)) = true by simp; omega]
    exact n5 fun k => by have := k.2.2.1; omega
  rw [show decide ((32 : Int) < (es.len : Int)) = false by simp; omega]
  unfold j5_store_PutReply
  rw [if_neg (by simp)]
  refine ⟨x.bad, hg 3 _ rfl, ?_⟩
  by_cases h5 : 4611686018427387903 ≤ x.bad
  · rw [show decide ((4611686018427387903 : Int) ≤ x.bad) = true by simpa using h5]
    exact n7 fun k => by have := k.2.2.2.2.1; omega
  rw [show decide ((4611686018427387903 : Int) ≤ x.bad) = false by simpa using h5]
  unfold j7_store_PutReply
  rw [if_neg (by simp)]
  have b1 : x.results.length ≤ 16 := by omega
  have b2 : x.names.length ≤ 4096 := by omega
  have b3 : x.events.length ≤ 32 := by omega
  refine newWriter_ok (tag := tag1) (r := 30) fun W tag2 σ2 st2 w2 => ?_
  have r2 := r1.keep (st2 []) (by simp)
  obtain ⟨p, hp, hg⟩ := r2.ptr (st2 []).sep (by simp)
  cases hp
  refine ⟨x.code, by simpa using hg 0 _ rfl, x.session, hg 1 _ rfl, rs, hg 2 _ rfl, ?_⟩
  have e2 : [x.code, x.session, (rs.len : Int)] = [x.code, x.session, (x.results.length : Int)] := by rw [lr]
  refine wrNums (tag := tag2) (a := ([], false)) [x.code, x.session, (rs.len : Int)] w2 (by decide) (st2 []).sep (by simp) fun tag3 σ3 st3 w3 => ?_
  rw [e2] at w3
  have r3 := r2.keep st3 (by decide)
  have s3 : StepS CR ro tag σ tag3 σ3 := s1.trans (((st2 []).s (by simp)).trans (st3.s (by decide)))
  obtain ⟨p, hp, hg⟩ := r3.ptr st3.sep (by simp)
  cases hp
  refine ⟨rs, hg 2 _ rfl, ?_⟩
  -- what is behind the events
  have last : ∀ tag4 σ4, StepS CR ro tag σ tag4 σ4 → Row tag4 σ4 2 30 ⟨some ⟨X, 0, none⟩, 12, 12⟩ [vI x.code, vI x.session, Sl.v rs, vI x.bad, Sl.v ds, vI x.ver, vI x.ctr, vI x.own, vI x.kids, Sl.v ns, Sl.v es, vI x.epoch] → BufAt tag4 σ4 30 W (wr6 x).1 (wr6 x).2 → j28_store_PutReply B ro X (some ⟨W, 0, none⟩) Q σ4 := fun tag4 σ4 s4 r4 w4 => by
    unfold j28_store_PutReply
    obtain ⟨p, hp, hg⟩ := r4.ptr s4.sep (by simp)
    cases hp
    have l6 := wr6_len x hsm b1 b2 b3
    refine ⟨x.epoch, hg 11 _ rfl, ?_⟩
    refine wrNums (tag := tag4) (a := wr6 x) [x.epoch] w4 (by decide) s4.sep (by simp; omega) fun tag5 σ5 st5 w5 => ?_
    have l7 : (wrep x).1.length ≤ 5000000009 := by have := wnum_len (wr6 x) x.epoch; unfold wrep; omega
    refine out_ok (a := wrep x) w5 st5.sep (by omega) (fun hbad => ?_) fun hgood s tag6 σ6 st6 r6 => ?_
    · rw [if_pos (by decide)]
      refine hno ?_ tag5 σ5 (s4.trans (st5.s (by decide)))
      unfold putRep
      rw [if_neg]
      intro k
      rw [wrep_yes k hsm] at hbad
      cases hbad
    · rw [if_neg (by decide)]
      by_cases k : okRep x
      · rw [wrep_yes k hsm] at r6
        exact hyes _ (by unfold putRep; rw [if_pos k]) s tag6 σ6 (s4.trans ((st5.s (by decide)).trans ((st6 []).s (by simp)))) r6
      · have := wrep_no k b1 b2 b3 (by omega)
        rw [hgood] at this
        cases this
  -- the events
  have evs : ∀ k j tag4 σ4, j + k = x.events.length → StepS CR ro tag σ tag4 σ4 → Row tag4 σ4 2 30 ⟨some ⟨X, 0, none⟩, 12, 12⟩ [vI x.code, vI x.session, Sl.v rs, vI x.bad, Sl.v ds, vI x.ver, vI x.ctr, vI x.own, vI x.kids, Sl.v ns, Sl.v es, vI x.epoch] → BufAt tag4 σ4 30 W ((x.events.take j).foldl wev (wr5 x)).1 ((x.events.take j).foldl wev (wr5 x)).2 → lfpD (l34_store_PutReply B ro X (some ⟨W, 0, none⟩) es Q) (j : Int) σ4 := by
    intro k
    induction k with
    | zero =>
      intro j tag4 σ4 hj s4 r4 w4
      refine lfpD.intro ?_
      unfold l34_store_PutReply
      rw [if_neg (by omega)]
      rw [List.take_of_length_le (by omega)] at w4
      exact last tag4 σ4 s4 r4 w4
    | succ k ih =>
      intro j tag4 σ4 hj s4 r4 w4
      have hjl : j < x.events.length := by omega
      obtain ⟨q, hq, hc⟩ := (hx tag4 σ4 s4).evs.at (j := j) (x := evV' x.events[j]) (by rw [List.getElem?_map, List.getElem?_eq_getElem hjl]; rfl)
      have hlen := wev_take x hsm b1 b2 b3 j
      have hel := hsm.evs x.events[j] (List.getElem_mem hjl)
      have etk : (x.events.take (j + 1)).foldl wev (wr5 x) = wev ((x.events.take j).foldl wev (wr5 x)) x.events[j] := by
        rw [List.take_add_one, List.getElem?_eq_getElem hjl, List.foldl_append]; rfl
      generalize x.events[j] = e at hc hel etk
      generalize hA : (x.events.take j).foldl wev (wr5 x) = A at w4 hlen etk
      refine lfpD.intro ?_
      unfold l34_store_PutReply
      rw [if_pos (by omega)]
      refine ⟨q, hq, by omega, by omega, e.1, e.2.1, S e.2.2, by rw [Int.toNat_natCast]; exact hc, ?_⟩
      refine nw_st (tag := tag4) 0 s4.sep rfl (by simp [storable]) fun Y tag5 σ5 st5 r5 => ?_
      have h5 := (st5 []).sep
      obtain ⟨p, hp, hg⟩ := r5.ptr h5 (by simp)
      cases hp
      refine ⟨e.1, by simpa using hg 0 _ rfl, e.2.1, hg 1 _ rfl, ?_⟩
      refine wrNums (tag := tag5) (a := A) [e.1, e.2.1] (w4.keep (st5 []) (by simp) (by simp)) (by decide) h5 (by simp; omega) fun tag6 σ6 st6 w6 => ?_
      have l6 := wnums_len [e.1, e.2.1] A
      simp only [List.length_cons, List.length_nil] at l6
      have r6 := r5.keep st6 (by decide)
      obtain ⟨p, hp, hg⟩ := r6.ptr st6.sep (by simp)
      cases hp
      refine ⟨S e.2.2, hg 2 _ rfl, ?_⟩
      refine wrText (tag := tag6) (a := [e.1, e.2.1].foldl wnum A) e.2.2 w6 (by decide) st6.sep (by omega) fun tag7 σ7 st7 w7 => ?_
      rw [Pa.inc j (by omega)]
      have s47 : StepS CR ro tag4 σ4 tag7 σ7 := ((st5 []).s (by simp)).trans ((st6.s (by decide)).trans (st7.s (by decide)))
      refine ih (j + 1) tag7 σ7 (by omega) (s4.trans s47) (((r4.keep (st5 []) (by simp)).keep st6 (by decide)).keep st7 (by decide)) ?_
      rw [etk]
      exact w7
  -- what is behind the results
  have mid : ∀ tag4 σ4, StepS CR ro tag σ tag4 σ4 → Row tag4 σ4 2 30 ⟨some ⟨X, 0, none⟩, 12, 12⟩ [vI x.code, vI x.session, Sl.v rs, vI x.bad, Sl.v ds, vI x.ver, vI x.ctr, vI x.own, vI x.kids, Sl.v ns, Sl.v es, vI x.epoch] → BufAt tag4 σ4 30 W (wr2 x).1 (wr2 x).2 → j14_store_PutReply B ro X (some ⟨W, 0, none⟩) Q σ4 := fun tag4 σ4 s4 r4 w4 => by
    unfold j14_store_PutReply
    obtain ⟨p, hp, hg⟩ := r4.ptr s4.sep (by simp)
    cases hp
    have l2 := wr2_len x hsm b1
    have hd := hsm.data
    refine ⟨x.bad, hg 3 _ rfl, ?_⟩
    rw [show IntKind.i64.wrap (x.bad + 1) = x.bad + 1 from SL.w64_eq (by omega) (by omega)]
    refine wrNums (tag := tag4) (a := wr2 x) [x.bad + 1] w4 (by decide) s4.sep (by simp; omega) fun tag5 σ5 st5 w5 => ?_
    have l3 := wnum_len (wr2 x) (x.bad + 1)
    have r5 := r4.keep st5 (by decide)
    have s5 := s4.trans (st5.s (C := CR) (by decide))
    obtain ⟨p, hp, hg⟩ := r5.ptr st5.sep (by simp)
    cases hp
    refine ⟨ds, hg 4 _ rfl, ?_⟩
    refine wrBlob (tag := tag5) (a := wnum (wr2 x) (x.bad + 1)) x.data w5 (by decide) st5.sep (by omega) (fun tag' σ' st => (hx tag' σ' (s5.trans (st.s (by decide)))).data) fun tag6 σ6 st6 w6 => ?_
    have r6 := r5.keep st6 (by decide)
    have s6 := s5.trans (st6.s (C := CR) (by decide))
    obtain ⟨p, hp, hg⟩ := r6.ptr st6.sep (by simp)
    cases hp
    have l4 := wr4_len x hsm b1
    refine ⟨x.ver, hg 5 _ rfl, x.ctr, by rw [add_add']; exact hg 6 _ rfl, x.own, by rw [add_add']; exact hg 7 _ rfl, x.kids, by rw [add_add']; exact hg 8 _ rfl, ns, hg 9 _ rfl, ?_⟩
    have l4' : (wr3 x).1.length ≤ 20000000 := by
      have := wtext_len (wnum (wr2 x) (x.bad + 1)) x.data
      unfold wr3; omega
    have e4 : [x.ver, x.ctr, x.own, x.kids, (ns.len : Int)] = [x.ver, x.ctr, x.own, x.kids, (x.names.length : Int)] := by rw [ln]
    refine wrNums (tag := tag6) (a := wr3 x) [x.ver, x.ctr, x.own, x.kids, (ns.len : Int)] w6 (by decide) st6.sep (by simp; omega) fun tag7 σ7 st7 w7 => ?_
    rw [e4] at w7
    have r7 := r6.keep st7 (by decide)
    have s7 := s6.trans (st7.s (C := CR) (by decide))
    obtain ⟨p, hp, hg⟩ := r7.ptr st7.sep (by simp)
    cases hp
    refine ⟨ns, hg 9 _ rfl, ?_⟩
    have c : x.names.length * (1048576 + 9) ≤ 4096 * 1048585 := Nat.mul_le_mul_right _ b2
    refine texts_ok (m := 1048576) (a := wr4 x) (ps := x.names) w7 (by decide) st7.sep hsm.names (by omega) (fun tag' σ' st => (hx tag' σ' (s7.trans (st.s (by decide)))).names) fun tag8 σ8 st8 w8 => ?_
    have r8 := r7.keep st8 (by decide)
    have s8 := s7.trans (st8.s (C := CR) (by decide))
    obtain ⟨p, hp, hg⟩ := r8.ptr st8.sep (by simp)
    cases hp
    refine ⟨es, hg 10 _ rfl, ?_⟩
    have l5 := wtexts_len (m := 1048576) x.names (wr4 x) hsm.names
    rw [le]
    refine wrNums (tag := tag8) (a := x.names.foldl wtext (wr4 x)) [(x.events.length : Int)] w8 (by decide) st8.sep (by simp; omega) fun tag9 σ9 st9 w9 => ?_
    have r9 := r8.keep st9 (by decide)
    obtain ⟨p, hp, hg⟩ := r9.ptr st9.sep (by simp)
    cases hp
    refine ⟨es, hg 10 _ rfl, ?_⟩
    exact evs _ 0 tag9 σ9 (Nat.zero_add _) (s8.trans (st9.s (by decide))) r9 (by rw [List.take_zero]; exact w9)
  suffices ∀ k j tag4 σ4, j + k = x.results.length → StepS CR ro tag σ tag4 σ4 → Row tag4 σ4 2 30 ⟨some ⟨X, 0, none⟩, 12, 12⟩ [vI x.code, vI x.session, Sl.v rs, vI x.bad, Sl.v ds, vI x.ver, vI x.ctr, vI x.own, vI x.kids, Sl.v ns, Sl.v es, vI x.epoch] → BufAt tag4 σ4 30 W ((x.results.take j).foldl wres (wr1 x)).1 ((x.results.take j).foldl wres (wr1 x)).2 → lfpD (l45_store_PutReply B ro X (some ⟨W, 0, none⟩) rs Q) (j : Int) σ4 from
    this _ 0 tag3 σ3 (Nat.zero_add _) s3 r3 (by rw [List.take_zero]; exact w3)
  intro k
  induction k with
  | zero =>
    intro j tag4 σ4 hj s4 r4 w4
    refine lfpD.intro ?_
    unfold l45_store_PutReply
    rw [if_neg (by omega)]
    rw [List.take_of_length_le (by omega)] at w4
    exact mid tag4 σ4 s4 r4 w4
  | succ k ih =>
    intro j tag4 σ4 hj s4 r4 w4
    have hjl : j < x.results.length := by omega
    obtain ⟨q, hq, hc⟩ := (hx tag4 σ4 s4).res.at (j := j) (x := resV x.results[j]) (by rw [List.getElem?_map, List.getElem?_eq_getElem hjl]; rfl)
    have hlen := wres_take x hsm b1 j
    have hel := hsm.res x.results[j] (List.getElem_mem hjl)
    have etk : (x.results.take (j + 1)).foldl wres (wr1 x) = wres ((x.results.take j).foldl wres (wr1 x)) x.results[j] := by
      rw [List.take_add_one, List.getElem?_eq_getElem hjl, List.foldl_append]; rfl
    generalize x.results[j] = e at hc hel etk
    generalize hA : (x.results.take j).foldl wres (wr1 x) = A at w4 hlen etk
    refine lfpD.intro ?_
    unfold l45_store_PutReply
    rw [if_pos (by omega)]
    refine ⟨q, hq, by omega, by omega, S e.1, e.2, by rw [Int.toNat_natCast]; exact hc, ?_⟩
    refine nw_st (tag := tag4) 0 s4.sep rfl (by simp [storable]) fun Y tag5 σ5 st5 r5 => ?_
    have h5 := (st5 []).sep
    obtain ⟨p, hp, hg⟩ := r5.ptr h5 (by simp)
    cases hp
    refine ⟨S e.1, by simpa using hg 0 _ rfl, ?_⟩
    refine wrText (tag := tag5) (a := A) e.1 (w4.keep (st5 []) (by simp) (by simp)) (by decide) h5 (by omega) fun tag6 σ6 st6 w6 => ?_
    have l6 := wtext_len A e.1
    have r6 := r5.keep st6 (by decide)
    obtain ⟨p, hp, hg⟩ := r6.ptr st6.sep (by simp)
    cases hp
    refine ⟨e.2, hg 1 _ rfl, ?_⟩
    refine wrNums (tag := tag6) (a := wtext A e.1) [e.2] w6 (by decide) st6.sep (by simp; omega) fun tag7 σ7 st7 w7 => ?_
    rw [Pa.inc j (by omega)]
    have s47 : StepS CR ro tag4 σ4 tag7 σ7 := ((st5 []).s (by simp)).trans ((st6.s (by decide)).trans (st7.s (by decide)))
    refine ih (j + 1) tag7 σ7 (by omega) (s4.trans s47) (((r4.keep (st5 []) (by simp)).keep st6 (by decide)).keep st7 (by decide)) ?_
    rw [etk]
    exact w7
end Go.Proofs.YtomdigihapdhnaaGreatDoor.Zt

/- A reader and rows, with a block lent; stores at a place within a row. -/
namespace Go.Proofs.YtomdigihapdhnaaGreatDoor.SL
open Go
set_option linter.unusedVariables false
variable {ro σ : AH} {tag : Nat → Nat}
theorem stN_off {b o : Nat} {K : AH → Prop} : ∀ (vs : List Value) (i : Nat) {σ : AH}, stN ⟨b, 0, none⟩ K vs (o + i) σ → stN ((⟨b, 0, none⟩ : Addr).add o) K vs i σ := by
  intro vs
  induction vs with
  | nil => intro i σ h; exact h
  | cons v vs ih =>
    intro i σ h
    unfold stN at h ⊢
    rw [add_add']
    exact stN_mono' h fun σ h => by
      have := ih (i + 1) (σ := σ) (by rw [show o + (i + 1) = o + i + 1 by omega]; exact h)
      exact this
where
  stN_mono' {a : Addr} {v : Value} {K K' : AH → Prop} {σ : AH} (h : storable v = true ∧ a.spot = none ∧ ∃ c e fz, σ a.block = some (.cells c e fz) ∧ a.off < c.size ∧ ¬ (fz.1 ≤ a.off ∧ a.off < fz.2) ∧ K (upd σ a.block (.cells (c.setIfInBounds a.off v) e fz)))
      (hk : ∀ σ, K σ → K' σ) : storable v = true ∧ a.spot = none ∧ ∃ c e fz, σ a.block = some (.cells c e fz) ∧ a.off < c.size ∧ ¬ (fz.1 ≤ a.off ∧ a.off < fz.2) ∧ K' (upd σ a.block (.cells (c.setIfInBounds a.off v) e fz)) := by
    obtain ⟨h1, h2, c, e, fz, h3, h4, h5, h6⟩ := h
    exact ⟨h1, h2, c, e, fz, h3, h4, h5, hk _ h6⟩
theorem Row.stAt {r : Nat} {e : TypeId} {b n c : Nat} {K : AH → Prop} (vs : List Value) (i : Nat) {l : List Value} (h : Row tag σ r e ⟨some ⟨b, 0, none⟩, n, c⟩ l) (hs : Sep ro σ) (hl : i + vs.length ≤ l.length) (hv : ∀ v ∈ vs, storable v = true)
    (hK : ∀ σ', Step [r] ro tag σ tag σ' → Row tag σ' r e ⟨some ⟨b, 0, none⟩, n, c⟩ (l.take i ++ vs ++ l.drop (i + vs.length)) → K σ') : stN ((⟨b, 0, none⟩ : Addr).add i) K vs 0 σ :=
  stN_off vs 0 (h.stPre vs i l σ hs hl hv hK)
end Go.Proofs.YtomdigihapdhnaaGreatDoor.SL
namespace Go.Proofs.YtomdigihapdhnaaGreatDoor.Wi
open Go Go.Proofs.YtomdigihapdhnaaGreatDoor.SL Go.Proofs.YtomdigihapdhnaaGreatDoor.G Go.Proofs.YtomdigihapdhnaaGreatDoor.Zt
set_option linter.unusedVariables false
variable {B : World} {ro σ σ' : AH} {tag tag' : Nat → Nat}
theorem Tail.del {q b : Nat} {s : Sl} {l : Str} (h : Tail tag σ q s l) (hb : tag b ≠ q) : Tail tag (SL.del σ b) q s l := by
  unfold Tail at h ⊢
  rcases h with h | h
  · exact .inl h
  · obtain ⟨c, o, cs, h1, h2, h3, h4⟩ := h
    exact .inr ⟨c, o, cs, h1, h2, by unfold SL.del; rw [if_neg (fun e => hb (by rw [← e]; exact h2))]; exact h3, h4⟩
theorem RdAt.del {r A b : Nat} {x : Rd} (h : RdAt tag σ r A x) (h1 : r ≠ tag b) (h2 : tag b ≠ 6) : RdAt tag (SL.del σ b) r A x := by
  obtain ⟨s, a, c⟩ := h
  exact ⟨s, a.del rfl h1, c.1.del h2, c.2⟩
theorem Tail.back {q b r' : Nat} {s : Sl} {l : Str} {τ : AH} (h : Tail tag' τ q s l) (hd : Disj (SL.one σ b) τ) (hb : ∃ o, σ b = some o) : Tail (setTag tag' b r') (join (SL.one σ b) τ) q s l := by
  unfold Tail at h ⊢
  rcases h with h | h
  · exact .inl h
  · obtain ⟨c, o, cs, h1, h2, h3, h4⟩ := h
    have hcb : c ≠ b := fun e => by
      obtain ⟨ob, ho⟩ := hb
      have := hd b ob (by unfold SL.one; rw [if_pos rfl]; exact ho)
      rw [← e, h3] at this; cases this
    exact .inr ⟨c, o, cs, h1, by unfold setTag; rw [if_neg hcb]; exact h2, by unfold join SL.one; rw [if_neg hcb]; exact h3, h4⟩
theorem RdAt.back {r A b r' : Nat} {x : Rd} {τ : AH} (h : RdAt tag' τ r A x) (hd : Disj (SL.one σ b) τ) (hb : ∃ o, σ b = some o) : RdAt (setTag tag' b r') (join (SL.one σ b) τ) r A x := by
  obtain ⟨s, a, c⟩ := h
  exact ⟨s, a.back hd hb, c.1.back hd hb, c.2⟩
end Go.Proofs.YtomdigihapdhnaaGreatDoor.Wi
namespace Go.Proofs.YtomdigihapdhnaaGreatDoor.SL
open Go
variable {ro σ : AH} {tag : Nat → Nat}
/-- the lent block itself is there again -/
theorem Row.again {r : Nat} {e : TypeId} {b n c : Nat} {l : List Value} {tag1 : Nat → Nat} {τ : AH} (h : Row tag σ r e ⟨some ⟨b, 0, none⟩, n, c⟩ l) (hd : Disj (SL.one σ b) τ) : Row (setTag tag1 b (tag b)) (join (SL.one σ b) τ) r e ⟨some ⟨b, 0, none⟩, n, c⟩ l := by
  rcases h with ⟨e, _⟩ | ⟨d, cs, ha, ht, hs, hx⟩
  · cases e
  · cases ha
    exact .inr ⟨b, cs, rfl, by simp [setTag, ht], by unfold join SL.one; rw [if_pos rfl, hs], hx⟩
end Go.Proofs.YtomdigihapdhnaaGreatDoor.SL
