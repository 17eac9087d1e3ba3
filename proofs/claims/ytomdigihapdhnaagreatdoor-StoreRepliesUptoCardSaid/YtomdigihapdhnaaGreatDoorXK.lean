/- GR17a -/
import Derived.Test.YtomdigihapdhnaaGreatDoorXJ
/- Functions as predicate transformers, and the proofs that the code does what they tell: printed by wip/tools/gen.py. -/
namespace Go.Proofs.YtomdigihapdhnaaGreatDoor.G
open Go Go.Proofs.YtomdigihapdhnaaGreatDoor.SL
set_option linter.unusedVariables false
set_option linter.unusedSimpArgs false

def j36_ref17_PutReply (B : World) (ro : AH) (x1_1 : Nat) (Q : Sl → Bool → AH → Prop) (x4_37 : Sl) (σ : AH) : Prop :=
 ∃ (x178_38 : Int), acell ro σ ((⟨x1_1, 0, none⟩ : Addr).add 11) = some (.int .i64 x178_38) ∧
 c_ref01_Put B ro x178_38 σ fun x179_39 σ =>
 nw ro σ (.cells #[Sl.v x4_37, Sl.v x179_39] 24) fun x180_40 σ =>
 c_ref01_Join B ro (⟨some ⟨x180_40, 0, none⟩, 2, 2⟩ : Sl) σ fun x181_41 σ =>
 Q x181_41 true σ

def l42_ref17_PutReply (B : World) (ro : AH) (x1_1 : Nat) (Q : Sl → Bool → AH → Prop) : (Sl × Int) → AH → ((Sl × Int) → AH → Prop) → Prop := fun ⟨x4_43, x7_44⟩ σ Y42 =>
 ∃ (x132_45 : Sl), acell ro σ ((⟨x1_1, 0, none⟩ : Addr).add 10) = some (Sl.v x132_45) ∧
 if x7_44 < (x132_45.len : Int) then
  ∃ (x138_46 : Sl), acell ro σ ((⟨x1_1, 0, none⟩ : Addr).add 10) = some (Sl.v x138_46) ∧
  ∃ p140_47 : Addr, x138_46.a = some p140_47 ∧ (0 : Int) ≤ x7_44 ∧ x7_44 < (x138_46.len : Int) ∧
  ∃ (x142_48 : Int), acell ro σ (p140_47.add (Int.toNat x7_44 * 3)) = some (.int .i64 x142_48) ∧
  ∃ (x144_49 : Sl), acell ro σ ((⟨x1_1, 0, none⟩ : Addr).add 10) = some (Sl.v x144_49) ∧
  ∃ p146_50 : Addr, x144_49.a = some p146_50 ∧ (0 : Int) ≤ x7_44 ∧ x7_44 < (x144_49.len : Int) ∧
  ∃ (x148_51 : Int), acell ro σ ((p146_50.add (Int.toNat x7_44 * 3)).add 1) = some (.int .i64 x148_51) ∧
  nw ro σ (.cells #[.int .i64 x142_48, .int .i64 x148_51] 3) fun x149_52 σ =>
  c_ref17_bad B ro (⟨some ⟨x149_52, 0, none⟩, 2, 2⟩ : Sl) σ fun x150_53 σ =>
  if x150_53 = true then
   Q (⟨none, 0, 0⟩ : Sl) false σ
  else
  lent σ fun ψ σ =>
   ∃ (x167_54 : Sl), acell (join ro ψ) (fun _ => none) ((⟨x1_1, 0, none⟩ : Addr).add 10) = some (Sl.v x167_54) ∧
   ∃ p169_55 : Addr, x167_54.a = some p169_55 ∧ (0 : Int) ≤ x7_44 ∧ x7_44 < (x167_54.len : Int) ∧
   ∃ (x171_56 : ByteArray), acell (join ro ψ) (fun _ => none) ((p169_55.add (Int.toNat x7_44 * 3)).add 2) = some (.string x171_56) ∧
   ∃ (x153_57 : Sl), acell (join ro ψ) σ ((⟨x1_1, 0, none⟩ : Addr).add 10) = some (Sl.v x153_57) ∧
   ∃ p155_58 : Addr, x153_57.a = some p155_58 ∧ (0 : Int) ≤ x7_44 ∧ x7_44 < (x153_57.len : Int) ∧
   ∃ (x157_59 : Int), acell (join ro ψ) σ (p155_58.add (Int.toNat x7_44 * 3)) = some (.int .i64 x157_59) ∧
   ∃ (x159_60 : Sl), acell (join ro ψ) σ ((⟨x1_1, 0, none⟩ : Addr).add 10) = some (Sl.v x159_60) ∧
   ∃ p161_61 : Addr, x159_60.a = some p161_61 ∧ (0 : Int) ≤ x7_44 ∧ x7_44 < (x159_60.len : Int) ∧
   ∃ (x163_62 : Int), acell (join ro ψ) σ ((p161_61.add (Int.toNat x7_44 * 3)).add 1) = some (.int .i64 x163_62) ∧
   nw (join ro ψ) σ (.cells #[.int .i64 x157_59, .int .i64 x163_62] 3) fun x164_63 σ =>
   c_ref17_nums B (join ro ψ) (⟨some ⟨x164_63, 0, none⟩, 2, 2⟩ : Sl) σ fun x165_64 σ =>
   awp Tryz.prog (join ro ψ) (convert 9 24 (.string x171_56)) (fun v σ =>
    (∃ (x172_65 : Sl), v = Sl.v x172_65 ∧
     c_ref01_Blob B (join ro ψ) x172_65 σ fun x173_66 σ =>
     nw (join ro ψ) σ (.cells #[Sl.v x4_43, Sl.v x165_64, Sl.v x173_66] 24) fun x174_67 σ =>
     c_ref01_Join B (join ro ψ) (⟨some ⟨x174_67, 0, none⟩, 3, 3⟩ : Sl) σ fun x175_68 σ =>
     (Disj ψ σ → (fun σ => 
      Y42 (x175_68, IntKind.i64.wrap (x7_44 + 1)) σ) (join ψ σ)))) σ
 else
 j36_ref17_PutReply B ro x1_1 Q x4_43 σ

def j31_ref17_PutReply (B : World) (ro : AH) (x1_1 : Nat) (Q : Sl → Bool → AH → Prop) (x4_32 : Sl) (σ : AH) : Prop :=
 ∃ (x126_33 : Sl), acell ro σ ((⟨x1_1, 0, none⟩ : Addr).add 10) = some (Sl.v x126_33) ∧
 c_ref01_Put B ro (x126_33.len : Int) σ fun x128_34 σ =>
 awp Tryz.prog ro (Builtin.append_ #[24, 24] 24 #[Sl.v x4_32, Sl.v x128_34]) (fun v σ => ∃ (x129_35 : Sl), v = Sl.v x129_35 ∧
  lfpD (l42_ref17_PutReply B ro x1_1 Q ) (x129_35, 0) σ) σ

def l69_ref17_PutReply (B : World) (ro : AH) (x1_1 : Nat) (Q : Sl → Bool → AH → Prop) : (Sl × Int) → AH → ((Sl × Int) → AH → Prop) → Prop := fun ⟨x4_70, x6_71⟩ σ Y69 =>
 ∃ (x110_72 : Sl), acell ro σ ((⟨x1_1, 0, none⟩ : Addr).add 9) = some (Sl.v x110_72) ∧
 if x6_71 < (x110_72.len : Int) then
  ∃ (x117_73 : Sl), acell ro σ ((⟨x1_1, 0, none⟩ : Addr).add 9) = some (Sl.v x117_73) ∧
  ∃ p119_74 : Addr, x117_73.a = some p119_74 ∧ (0 : Int) ≤ x6_71 ∧ x6_71 < (x117_73.len : Int) ∧
  ∃ (x120_75 : ByteArray), acell ro σ (p119_74.add (Int.toNat x6_71 * 1)) = some (.string x120_75) ∧
  awp Tryz.prog ro (convert 9 24 (.string x120_75)) (fun v σ =>
   (∃ (x121_76 : Sl), v = Sl.v x121_76 ∧
    c_ref01_Blob B ro x121_76 σ fun x122_77 σ =>
    awp Tryz.prog ro (Builtin.append_ #[24, 24] 24 #[Sl.v x4_70, Sl.v x122_77]) (fun v σ => ∃ (x123_78 : Sl), v = Sl.v x123_78 ∧
     Y69 (x123_78, IntKind.i64.wrap (x6_71 + 1)) σ) σ)) σ
 else
 j31_ref17_PutReply B ro x1_1 Q x4_70 σ

def j20_ref17_PutReply (B : World) (ro : AH) (x1_1 : Nat) (Q : Sl → Bool → AH → Prop) (x4_21 : Sl) (σ : AH) : Prop :=
 lent σ fun ψ σ =>
  ∃ (x97_22 : Sl), acell (join ro ψ) (fun _ => none) ((⟨x1_1, 0, none⟩ : Addr).add 4) = some (Sl.v x97_22) ∧
  ∃ (x103_23 : Sl), acell (join ro ψ) (fun _ => none) ((⟨x1_1, 0, none⟩ : Addr).add 9) = some (Sl.v x103_23) ∧
  ∃ (x93_24 : Int), acell (join ro ψ) σ ((⟨x1_1, 0, none⟩ : Addr).add 3) = some (.int .i64 x93_24) ∧
  c_ref01_Put B (join ro ψ) (IntKind.i64.wrap (x93_24 + 1)) σ fun x95_25 σ =>
  c_ref01_Blob B (join ro ψ) x97_22 σ fun x98_26 σ =>
  c_ref17_nums B (join ro ψ) (⟨some ((⟨x1_1, 0, none⟩ : Addr).add 5), 4, 4⟩ : Sl) σ fun x101_27 σ =>
  c_ref01_Put B (join ro ψ) (x103_23.len : Int) σ fun x105_28 σ =>
  nw (join ro ψ) σ (.cells #[Sl.v x4_21, Sl.v x95_25, Sl.v x98_26, Sl.v x101_27, Sl.v x105_28] 24) fun x106_29 σ =>
  c_ref01_Join B (join ro ψ) (⟨some ⟨x106_29, 0, none⟩, 5, 5⟩ : Sl) σ fun x107_30 σ =>
  (Disj ψ σ → (fun σ => 
   lfpD (l69_ref17_PutReply B ro x1_1 Q ) (x107_30, 0) σ) (join ψ σ))

def l79_ref17_PutReply (B : World) (ro : AH) (x1_1 : Nat) (Q : Sl → Bool → AH → Prop) : (Sl × Int) → AH → ((Sl × Int) → AH → Prop) → Prop := fun ⟨x4_80, x5_81⟩ σ Y79 =>
 ∃ (x60_82 : Sl), acell ro σ ((⟨x1_1, 0, none⟩ : Addr).add 2) = some (Sl.v x60_82) ∧
 if x5_81 < (x60_82.len : Int) then
  ∃ (x66_83 : Sl), acell ro σ ((⟨x1_1, 0, none⟩ : Addr).add 2) = some (Sl.v x66_83) ∧
  ∃ p68_84 : Addr, x66_83.a = some p68_84 ∧ (0 : Int) ≤ x5_81 ∧ x5_81 < (x66_83.len : Int) ∧
  ∃ (x70_85 : Int), acell ro σ ((p68_84.add (Int.toNat x5_81 * 2)).add 1) = some (.int .i64 x70_85) ∧
  nw ro σ (.cells #[.int .i64 x70_85] 3) fun x71_86 σ =>
  c_ref17_bad B ro (⟨some ⟨x71_86, 0, none⟩, 1, 1⟩ : Sl) σ fun x72_87 σ =>
  if x72_87 = true then
   Q (⟨none, 0, 0⟩ : Sl) false σ
  else
  lent σ fun ψ σ =>
   ∃ (x83_88 : Sl), acell (join ro ψ) (fun _ => none) ((⟨x1_1, 0, none⟩ : Addr).add 2) = some (Sl.v x83_88) ∧
   ∃ p85_89 : Addr, x83_88.a = some p85_89 ∧ (0 : Int) ≤ x5_81 ∧ x5_81 < (x83_88.len : Int) ∧
   ∃ (x87_90 : Int), acell (join ro ψ) (fun _ => none) ((p85_89.add (Int.toNat x5_81 * 2)).add 1) = some (.int .i64 x87_90) ∧
   ∃ (x75_91 : Sl), acell (join ro ψ) σ ((⟨x1_1, 0, none⟩ : Addr).add 2) = some (Sl.v x75_91) ∧
   ∃ p77_92 : Addr, x75_91.a = some p77_92 ∧ (0 : Int) ≤ x5_81 ∧ x5_81 < (x75_91.len : Int) ∧
   ∃ (x79_93 : ByteArray), acell (join ro ψ) σ (p77_92.add (Int.toNat x5_81 * 2)) = some (.string x79_93) ∧
   awp Tryz.prog (join ro ψ) (convert 9 24 (.string x79_93)) (fun v σ =>
    (∃ (x80_94 : Sl), v = Sl.v x80_94 ∧
     c_ref01_Blob B (join ro ψ) x80_94 σ fun x81_95 σ =>
     c_ref01_Put B (join ro ψ) x87_90 σ fun x88_96 σ =>
     nw (join ro ψ) σ (.cells #[Sl.v x4_80, Sl.v x81_95, Sl.v x88_96] 24) fun x89_97 σ =>
     c_ref01_Join B (join ro ψ) (⟨some ⟨x89_97, 0, none⟩, 3, 3⟩ : Sl) σ fun x90_98 σ =>
     (Disj ψ σ → (fun σ => 
      Y79 (x90_98, IntKind.i64.wrap (x5_81 + 1)) σ) (join ψ σ)))) σ
 else
 j20_ref17_PutReply B ro x1_1 Q x4_80 σ

def j13_ref17_PutReply (B : World) (ro : AH) (x1_1 : Nat) (Q : Sl → Bool → AH → Prop) (x48_14 : Bool) (σ : AH) : Prop :=
 if x48_14 = true then
  Q (⟨none, 0, 0⟩ : Sl) false σ
 else
 ∃ (x50_15 : Int), acell ro σ ⟨x1_1, 0, none⟩ = some (.int .i64 x50_15) ∧
 ∃ (x52_16 : Int), acell ro σ ((⟨x1_1, 0, none⟩ : Addr).add 1) = some (.int .i64 x52_16) ∧
 ∃ (x54_17 : Sl), acell ro σ ((⟨x1_1, 0, none⟩ : Addr).add 2) = some (Sl.v x54_17) ∧
 nw ro σ (.cells #[.int .i64 x50_15, .int .i64 x52_16, .int .i64 (x54_17.len : Int)] 3) fun x56_18 σ =>
 c_ref17_nums B ro (⟨some ⟨x56_18, 0, none⟩, 3, 3⟩ : Sl) σ fun x57_19 σ =>
 lfpD (l79_ref17_PutReply B ro x1_1 Q ) (x57_19, 0) σ

def j11_ref17_PutReply (B : World) (ro : AH) (x1_1 : Nat) (Q : Sl → Bool → AH → Prop) (x43_12 : Bool) (σ : AH) : Prop :=
 if x43_12 = true then
  j13_ref17_PutReply B ro x1_1 Q true σ
 else
 c_ref17_bad B ro (⟨some ((⟨x1_1, 0, none⟩ : Addr).add 5), 4, 4⟩ : Sl) σ fun x47_99 σ =>
 j13_ref17_PutReply B ro x1_1 Q x47_99 σ

def j9_ref17_PutReply (B : World) (ro : AH) (x1_1 : Nat) (Q : Sl → Bool → AH → Prop) (x33_10 : Bool) (σ : AH) : Prop :=
 if x33_10 = true then
  j11_ref17_PutReply B ro x1_1 Q true σ
 else
 ∃ (x36_100 : Int), acell ro σ ⟨x1_1, 0, none⟩ = some (.int .i64 x36_100) ∧
 ∃ (x38_101 : Int), acell ro σ ((⟨x1_1, 0, none⟩ : Addr).add 1) = some (.int .i64 x38_101) ∧
 ∃ (x40_102 : Int), acell ro σ ((⟨x1_1, 0, none⟩ : Addr).add 11) = some (.int .i64 x40_102) ∧
 nw ro σ (.cells #[.int .i64 x36_100, .int .i64 x38_101, .int .i64 x40_102] 3) fun x41_103 σ =>
 c_ref17_bad B ro (⟨some ⟨x41_103, 0, none⟩, 3, 3⟩ : Sl) σ fun x42_104 σ =>
 j11_ref17_PutReply B ro x1_1 Q x42_104 σ

def j7_ref17_PutReply (B : World) (ro : AH) (x1_1 : Nat) (Q : Sl → Bool → AH → Prop) (x28_8 : Bool) (σ : AH) : Prop :=
 if x28_8 = true then
  j9_ref17_PutReply B ro x1_1 Q true σ
 else
 ∃ (x31_105 : Int), acell ro σ ((⟨x1_1, 0, none⟩ : Addr).add 3) = some (.int .i64 x31_105) ∧
 j9_ref17_PutReply B ro x1_1 Q (decide (4611686018427387902 < x31_105)) σ

def j5_ref17_PutReply (B : World) (ro : AH) (x1_1 : Nat) (Q : Sl → Bool → AH → Prop) (x23_6 : Bool) (σ : AH) : Prop :=
 if x23_6 = true then
  j7_ref17_PutReply B ro x1_1 Q true σ
 else
 ∃ (x26_106 : Int), acell ro σ ((⟨x1_1, 0, none⟩ : Addr).add 3) = some (.int .i64 x26_106) ∧
 j7_ref17_PutReply B ro x1_1 Q (decide (x26_106 < (-1))) σ

def j3_ref17_PutReply (B : World) (ro : AH) (x1_1 : Nat) (Q : Sl → Bool → AH → Prop) (x17_4 : Bool) (σ : AH) : Prop :=
 if x17_4 = true then
  j5_ref17_PutReply B ro x1_1 Q true σ
 else
 ∃ (x20_107 : Sl), acell ro σ ((⟨x1_1, 0, none⟩ : Addr).add 10) = some (Sl.v x20_107) ∧
 j5_ref17_PutReply B ro x1_1 Q (decide (32 < (x20_107.len : Int))) σ

def f_ref17_PutReply (B : World) (ro : AH) (a0_0 : Int) (a0_1 : Int) (a0_2 : Sl) (a0_3 : Int) (a0_4 : Sl) (a0_5 : Int) (a0_6 : Int) (a0_7 : Int) (a0_8 : Int) (a0_9 : Sl) (a0_10 : Sl) (a0_11 : Int) (σ : AH) (Q : Sl → Bool → AH → Prop) : Prop :=
 nw ro σ (.cells #[.int .i64 a0_0, .int .i64 a0_1, Sl.v a0_2, .int .i64 a0_3, Sl.v a0_4, .int .i64 a0_5, .int .i64 a0_6, .int .i64 a0_7, .int .i64 a0_8, Sl.v a0_9, Sl.v a0_10, .int .i64 a0_11] 39) fun x1_1 σ =>
 ∃ (x9_2 : Sl), acell ro σ ((⟨x1_1, 0, none⟩ : Addr).add 2) = some (Sl.v x9_2) ∧
 if 16 < (x9_2.len : Int) then
  j3_ref17_PutReply B ro x1_1 Q true σ
 else
 ∃ (x14_108 : Sl), acell ro σ ((⟨x1_1, 0, none⟩ : Addr).add 9) = some (Sl.v x14_108) ∧
 j3_ref17_PutReply B ro x1_1 Q (decide (4096 < (x14_108.len : Int))) σ

set_option maxRecDepth 100000 in
set_option maxHeartbeats 4000000 in
theorem ref17_PutReply_ok {B : World} {ro : AH} {a0_0 : Int} {a0_1 : Int} {a0_2 : Sl} {a0_3 : Int} {a0_4 : Sl} {a0_5 : Int} {a0_6 : Int} {a0_7 : Int} {a0_8 : Int} {a0_9 : Sl} {a0_10 : Sl} {a0_11 : Int} {σ : AH} {Q : Sl → Bool → AH → Prop} (h : Sep ro σ → f_ref17_PutReply B ro a0_0 a0_1 a0_2 a0_3 a0_4 a0_5 a0_6 a0_7 a0_8 a0_9 a0_10 a0_11 σ Q) : c_ref17_PutReply B ro a0_0 a0_1 a0_2 a0_3 a0_4 a0_5 a0_6 a0_7 a0_8 a0_9 a0_10 a0_11 σ Q := by
  refine ACalls.of_sep fun hsep => ?_
  replace h := h hsep
  refine ACalls.of_body (args := [.agg #[.int .i64 a0_0, .int .i64 a0_1, Sl.v a0_2, .int .i64 a0_3, Sl.v a0_4, .int .i64 a0_5, .int .i64 a0_6, .int .i64 a0_7, .int .i64 a0_8, Sl.v a0_9, Sl.v a0_10, .int .i64 a0_11]]) Tryz.func13 rfl (by rw [Tryz.ntmps13]; simp) ?_
  rw [Tryz.ntmps13]
  unfold f_ref17_PutReply at h
  refine AW.seq ?_
  refine AW.reg ?_
  refine Ls rfl rfl (X_new (A_box rfl rfl) fun x1_1 g1 g2 => ?_)
  replace h := h x1_1 g1 g2
  refine Lp (V_asg rfl rfl) rfl rfl ?_
  refine Lp (V_asg rfl rfl) rfl rfl ?_
  refine Lnil ?_
  refine thenN ?_
  refine AW.seq ?_
  refine AW.seq ?_
  refine AW.reg ?_
  refine Lp (V_fld rfl Tryz.underlying39 rfl ty35 (by decide) rfl) rfl rfl ?_
  obtain ⟨x9_2, hc, h⟩ := h
  refine Ls rfl rfl (X_ld rfl Tryz.underlying35 rfl rfl hc ?_)
  refine Lp (V_lenL rfl rfl Tryz.underlying35 rfl rfl) rfl rfl ?_
  refine Lp (V_gtr rfl rfl rfl) rfl rfl ?_
  refine Lp (V_move rfl rfl) rfl rfl ?_
  refine LsplitJ 5 (decide (16 < (x9_2.len : Int))) decide_eq_true_iff h (fun fr σ => ∃ (x17_4 : Bool), FrLe [(1, .pointer (some ⟨x1_1, 0, none⟩)), (17, .bool x17_4)] fr ∧ j3_ref17_PutReply B ro x1_1 Q x17_4 σ) ?_ ?_ ?_
  · intro h e4 hk4
    refine Ln rfl rfl rfl rfl (.inl (by rw [e4]; rfl)) ?_
    refine Ln rfl rfl rfl rfl (.inl (by rw [e4]; rfl)) ?_
    refine Ln rfl rfl rfl rfl (.inl (by rw [e4]; rfl)) ?_
    refine Ln rfl rfl rfl rfl (.inl (by rw [e4]; rfl)) ?_
    refine Lp (V_pickT rfl (evb e4) rfl) rfl rfl ?_
    exact hk4 _ _ ⟨_, (FrLe.cons rfl (FrLe.cons rfl (FrLe.nil _))), h⟩
  · intro h e4 hk4
    refine Lypb (V_fld rfl Tryz.underlying39 rfl ty27 (by decide) rfl) rfl rfl rfl rfl e4 ?_
    obtain ⟨x14_108, hc, h⟩ := h
    refine Lyb rfl rfl rfl rfl e4 (X_ld rfl Tryz.underlying27 rfl rfl hc ?_)
    refine Lypb (V_lenL rfl rfl Tryz.underlying27 rfl rfl) rfl rfl rfl rfl e4 ?_
    refine Lypb (V_gtr rfl rfl rfl) rfl rfl rfl rfl e4 ?_
    refine Lp (V_pickF rfl (evb e4) rfl) rfl rfl ?_
    exact hk4 _ _ ⟨_, (FrLe.cons rfl (FrLe.cons rfl (FrLe.nil _))), h⟩
  rintro fr σ ⟨x17_4, hl, h⟩
  unfold j3_ref17_PutReply at h
  refine Lfr hl ?_
  refine Lp (V_move rfl rfl) rfl rfl ?_
  refine LsplitJ 5 x17_4 Iff.rfl h (fun fr σ => ∃ (x23_6 : Bool), FrLe [(1, .pointer (some ⟨x1_1, 0, none⟩)), (23, .bool x23_6)] fr ∧ j5_ref17_PutReply B ro x1_1 Q x23_6 σ) ?_ ?_ ?_
  · intro h e10 hk10
    refine Ln rfl rfl rfl rfl (.inl (by rw [e10]; rfl)) ?_
    refine Ln rfl rfl rfl rfl (.inl (by rw [e10]; rfl)) ?_
    refine Ln rfl rfl rfl rfl (.inl (by rw [e10]; rfl)) ?_
    refine Ln rfl rfl rfl rfl (.inl (by rw [e10]; rfl)) ?_
    refine Lp (V_pickT rfl (evb e10) rfl) rfl rfl ?_
    exact hk10 _ _ ⟨_, (FrLe.cons rfl (FrLe.cons rfl (FrLe.nil _))), h⟩
  · intro h e10 hk10
    refine Lypb (V_fld rfl Tryz.underlying39 rfl ty37 (by decide) rfl) rfl rfl rfl rfl e10 ?_
    obtain ⟨x20_107, hc, h⟩ := h
    refine Lyb rfl rfl rfl rfl e10 (X_ld rfl Tryz.underlying37 rfl rfl hc ?_)
    refine Lypb (V_lenL rfl rfl Tryz.underlying37 rfl rfl) rfl rfl rfl rfl e10 ?_
    refine Lypb (V_gtr rfl rfl rfl) rfl rfl rfl rfl e10 ?_
    refine Lp (V_pickF rfl (evb e10) rfl) rfl rfl ?_
    exact hk10 _ _ ⟨_, (FrLe.cons rfl (FrLe.cons rfl (FrLe.nil _))), h⟩
  rintro fr σ ⟨x23_6, hl, h⟩
  unfold j5_ref17_PutReply at h
  refine Lfr hl ?_
  refine Lp (V_move rfl rfl) rfl rfl ?_
  refine LsplitJ 4 x23_6 Iff.rfl h (fun fr σ => ∃ (x28_8 : Bool), FrLe [(1, .pointer (some ⟨x1_1, 0, none⟩)), (28, .bool x28_8)] fr ∧ j7_ref17_PutReply B ro x1_1 Q x28_8 σ) ?_ ?_ ?_
  · intro h e16 hk16
    refine Ln rfl rfl rfl rfl (.inl (by rw [e16]; rfl)) ?_
    refine Ln rfl rfl rfl rfl (.inl (by rw [e16]; rfl)) ?_
    refine Ln rfl rfl rfl rfl (.inl (by rw [e16]; rfl)) ?_
    refine Lp (V_pickT rfl (evb e16) rfl) rfl rfl ?_
    exact hk16 _ _ ⟨_, (FrLe.cons rfl (FrLe.cons rfl (FrLe.nil _))), h⟩
  · intro h e16 hk16
    refine Lypb (V_fld rfl Tryz.underlying39 rfl ty3 (by decide) rfl) rfl rfl rfl rfl e16 ?_
    obtain ⟨x26_106, hc, h⟩ := h
    refine Lyb rfl rfl rfl rfl e16 (X_ld rfl Tryz.underlying3 rfl rfl hc ?_)
    refine Lypb (V_lss rfl rfl rfl) rfl rfl rfl rfl e16 ?_
    refine Lp (V_pickF rfl (evb e16) rfl) rfl rfl ?_
    exact hk16 _ _ ⟨_, (FrLe.cons rfl (FrLe.cons rfl (FrLe.nil _))), h⟩
  rintro fr σ ⟨x28_8, hl, h⟩
  unfold j7_ref17_PutReply at h
  refine Lfr hl ?_
  refine Lp (V_move rfl rfl) rfl rfl ?_
  refine LsplitJ 4 x28_8 Iff.rfl h (fun fr σ => ∃ (x33_10 : Bool), FrLe [(1, .pointer (some ⟨x1_1, 0, none⟩)), (33, .bool x33_10)] fr ∧ j9_ref17_PutReply B ro x1_1 Q x33_10 σ) ?_ ?_ ?_
  · intro h e21 hk21
    refine Ln rfl rfl rfl rfl (.inl (by rw [e21]; rfl)) ?_
    refine Ln rfl rfl rfl rfl (.inl (by rw [e21]; rfl)) ?_
    refine Ln rfl rfl rfl rfl (.inl (by rw [e21]; rfl)) ?_
    refine Lp (V_pickT rfl (evb e21) rfl) rfl rfl ?_
    exact hk21 _ _ ⟨_, (FrLe.cons rfl (FrLe.cons rfl (FrLe.nil _))), h⟩
  · intro h e21 hk21
    refine Lypb (V_fld rfl Tryz.underlying39 rfl ty3 (by decide) rfl) rfl rfl rfl rfl e21 ?_
    obtain ⟨x31_105, hc, h⟩ := h
    refine Lyb rfl rfl rfl rfl e21 (X_ld rfl Tryz.underlying3 rfl rfl hc ?_)
    refine Lypb (V_gtr rfl rfl rfl) rfl rfl rfl rfl e21 ?_
    refine Lp (V_pickF rfl (evb e21) rfl) rfl rfl ?_
    exact hk21 _ _ ⟨_, (FrLe.cons rfl (FrLe.cons rfl (FrLe.nil _))), h⟩
  rintro fr σ ⟨x33_10, hl, h⟩
  unfold j9_ref17_PutReply at h
  refine Lfr hl ?_
  refine Lp (V_move rfl rfl) rfl rfl ?_
  refine LsplitJ 9 x33_10 Iff.rfl h (fun fr σ => ∃ (x43_12 : Bool), FrLe [(1, .pointer (some ⟨x1_1, 0, none⟩)), (43, .bool x43_12)] fr ∧ j11_ref17_PutReply B ro x1_1 Q x43_12 σ) ?_ ?_ ?_
  · intro h e26 hk26
    refine Ln rfl rfl rfl rfl (.inl (by rw [e26]; rfl)) ?_
    refine Ln rfl rfl rfl rfl (.inl (by rw [e26]; rfl)) ?_
    refine Ln rfl rfl rfl rfl (.inl (by rw [e26]; rfl)) ?_
    refine Ln rfl rfl rfl rfl (.inl (by rw [e26]; rfl)) ?_
    refine Ln rfl rfl rfl rfl (.inl (by rw [e26]; rfl)) ?_
    refine Ln rfl rfl rfl rfl (.inl (by rw [e26]; rfl)) ?_
    refine Ln rfl rfl rfl rfl (.inl (by rw [e26]; rfl)) ?_
    refine Ln rfl rfl rfl rfl (.inl (by rw [e26]; rfl)) ?_
    refine Lp (V_pickT rfl (evb e26) rfl) rfl rfl ?_
    exact hk26 _ _ ⟨_, (FrLe.cons rfl (FrLe.cons rfl (FrLe.nil _))), h⟩
  · intro h e26 hk26
    refine Lypb (V_fld rfl Tryz.underlying39 rfl ty3 (by decide) rfl) rfl rfl rfl rfl e26 ?_
    obtain ⟨x36_100, hc, h⟩ := h
    refine Lyb rfl rfl rfl rfl e26 (X_ld rfl Tryz.underlying3 rfl rfl hc ?_)
    refine Lypb (V_fld rfl Tryz.underlying39 rfl ty3 (by decide) rfl) rfl rfl rfl rfl e26 ?_
    obtain ⟨x38_101, hc, h⟩ := h
    refine Lyb rfl rfl rfl rfl e26 (X_ld rfl Tryz.underlying3 rfl rfl hc ?_)
    refine Lypb (V_fld rfl Tryz.underlying39 rfl ty3 (by decide) rfl) rfl rfl rfl rfl e26 ?_
    obtain ⟨x40_102, hc, h⟩ := h
    refine Lyb rfl rfl rfl rfl e26 (X_ld rfl Tryz.underlying3 rfl rfl hc ?_)
    refine Lyb rfl rfl rfl rfl e26 (X_new (A_bsl (vs := [(0, .int .i64 x36_100), (1, .int .i64 x38_101), (2, .int .i64 x40_102)]) (cs := #[.int .i64 x36_100, .int .i64 x38_101, .int .i64 x40_102]) rfl Tryz.underlying55 ty3 (by decide) rfl rfl) fun x41_103 g1 g2 => ?_)
    replace h := h x41_103 g1 g2
    refine Lyb rfl rfl rfl rfl e26 (X_call rfl Tryz.func48 rfl rfl rfl (ACalls.mono h ?_))
    rintro v σ ⟨x42_104, rfl, h⟩
    refine Lp (V_pickF rfl (evb e26) rfl) rfl rfl ?_
    exact hk26 _ _ ⟨_, (FrLe.cons rfl (FrLe.cons rfl (FrLe.nil _))), h⟩
  rintro fr σ ⟨x43_12, hl, h⟩
  unfold j11_ref17_PutReply at h
  refine Lfr hl ?_
  refine Lp (V_move rfl rfl) rfl rfl ?_
  refine LsplitJ 4 x43_12 Iff.rfl h (fun fr σ => ∃ (x48_14 : Bool), FrLe [(1, .pointer (some ⟨x1_1, 0, none⟩)), (48, .bool x48_14)] fr ∧ j13_ref17_PutReply B ro x1_1 Q x48_14 σ) ?_ ?_ ?_
  · intro h e36 hk36
    refine Ln rfl rfl rfl rfl (.inl (by rw [e36]; rfl)) ?_
    refine Ln rfl rfl rfl rfl (.inl (by rw [e36]; rfl)) ?_
    refine Ln rfl rfl rfl rfl (.inl (by rw [e36]; rfl)) ?_
    refine Lp (V_pickT rfl (evb e36) rfl) rfl rfl ?_
    exact hk36 _ _ ⟨_, (FrLe.cons rfl (FrLe.cons rfl (FrLe.nil _))), h⟩
  · intro h e36 hk36
    refine Lypb (V_fld rfl Tryz.underlying39 rfl ty36 (by decide) rfl) rfl rfl rfl rfl e36 ?_
    refine Lypb (V_slA rfl Tryz.underlying36 ty3 rfl) rfl rfl rfl rfl e36 ?_
    refine Lyb rfl rfl rfl rfl e36 (X_call rfl Tryz.func48 rfl rfl rfl (ACalls.mono h ?_))
    rintro v σ ⟨x47_99, rfl, h⟩
    refine Lp (V_pickF rfl (evb e36) rfl) rfl rfl ?_
    exact hk36 _ _ ⟨_, (FrLe.cons rfl (FrLe.cons rfl (FrLe.nil _))), h⟩
  rintro fr σ ⟨x48_14, hl, h⟩
  unfold j13_ref17_PutReply at h
  refine Lfr hl ?_
  refine Lnil ?_
  refine thenN ?_
  refine AW.iff rfl Iff.rfl h (fun h => ?_) (fun h => ?_)
  · refine AW.seq ?_
    refine AW.reg ?_
    refine Lp (V_asg rfl rfl) rfl rfl ?_
    refine Lp (V_asg rfl rfl) rfl rfl ?_
    refine Lnil ?_
    refine thenN ?_
    refine AW.ret ?_
    refine thenR ?_
    exact bR2 Tryz.results13 rfl rfl ⟨_, _, rfl, h⟩
  refine AW.skip ?_
  refine thenN ?_
  refine AW.seq ?_
  refine AW.reg ?_
  refine Lp (V_fld rfl Tryz.underlying39 rfl ty3 (by decide) rfl) rfl rfl ?_
  obtain ⟨x50_15, hc, h⟩ := h
  refine Ls rfl rfl (X_ld rfl Tryz.underlying3 rfl rfl hc ?_)
  refine Lp (V_fld rfl Tryz.underlying39 rfl ty3 (by decide) rfl) rfl rfl ?_
  obtain ⟨x52_16, hc, h⟩ := h
  refine Ls rfl rfl (X_ld rfl Tryz.underlying3 rfl rfl hc ?_)
  refine Lp (V_fld rfl Tryz.underlying39 rfl ty35 (by decide) rfl) rfl rfl ?_
  obtain ⟨x54_17, hc, h⟩ := h
  refine Ls rfl rfl (X_ld rfl Tryz.underlying35 rfl rfl hc ?_)
  refine Lp (V_lenL rfl rfl Tryz.underlying35 rfl rfl) rfl rfl ?_
  refine Ls rfl rfl (X_new (A_bsl (vs := [(0, .int .i64 x50_15), (1, .int .i64 x52_16), (2, .int .i64 (x54_17.len : Int))]) (cs := #[.int .i64 x50_15, .int .i64 x52_16, .int .i64 (x54_17.len : Int)]) rfl Tryz.underlying55 ty3 (by decide) rfl rfl) fun x56_18 g1 g2 => ?_)
  replace h := h x56_18 g1 g2
  refine Ls rfl rfl (X_call rfl Tryz.func49 rfl rfl rfl (ACalls.mono h ?_))
  rintro v σ ⟨x57_19, rfl, h⟩
  refine Lp (V_asg rfl rfl) rfl rfl ?_
  refine Lnil ?_
  refine thenN ?_
  refine AW.seqJ (fun fr σ => ∃ (x4_21 : Sl), FrLe [(1, .pointer (some ⟨x1_1, 0, none⟩)), (4, Sl.v x4_21)] fr ∧ j20_ref17_PutReply B ro x1_1 Q x4_21 σ) ?_ ?_
  rotate_left
  · refine AW.seq ?_
    refine AW.reg ?_
    refine Lp (V_asg rfl rfl) rfl rfl ?_
    refine Lnil ?_
    refine thenN ?_
    refine AW.block ?_
    refine ARound.loop (fr' := [(1, .pointer (some ⟨x1_1, 0, none⟩)), (4, Sl.v x57_19), (5, .int .i64 0)]) ?_ (FrLe.cons rfl (FrLe.cons rfl (FrLe.cons rfl (FrLe.nil _))))
    refine h (fun ⟨x4_80, x5_81⟩ σ => ARound _ _ _ _ _ _ [(1, .pointer (some ⟨x1_1, 0, none⟩)), (4, Sl.v x4_80), (5, .int .i64 x5_81)] σ) ?_
    rintro ⟨x4_80, x5_81⟩ σ Y79 hY79 h
    show AW _ _ _ _ _ _ _ _
    unfold l79_ref17_PutReply at h
    dsimp only at h
    refine AW.seq ?_
    refine AW.seq ?_
    refine AW.reg ?_
    refine Lp (V_move rfl rfl) rfl rfl ?_
    refine Lp (V_fld rfl Tryz.underlying39 rfl ty35 (by decide) rfl) rfl rfl ?_
    obtain ⟨x60_82, hc, h⟩ := h
    refine Ls rfl rfl (X_ld rfl Tryz.underlying35 rfl rfl hc ?_)
    refine Lp (V_lenL rfl rfl Tryz.underlying35 rfl rfl) rfl rfl ?_
    refine Lp (V_lss rfl rfl rfl) rfl rfl ?_
    refine Lnil ?_
    refine thenN ?_
    refine AW.iff rfl decide_eq_true_iff h (fun h => ?_) (fun h => ?_)
    rotate_left
    · refine AW.exit ?_
      refine thenE ?_
      refine thenE ?_
      refine blockE ?_
      refine thenN ?_
      exact ⟨_, (FrLe.cons rfl (FrLe.cons rfl (FrLe.nil _))), h⟩
    refine AW.skip ?_
    refine thenN ?_
    refine AW.seq ?_
    refine AW.block ?_
    refine AW.seq ?_
    refine AW.seq ?_
    refine AW.reg ?_
    refine Lp (V_fld rfl Tryz.underlying39 rfl ty35 (by decide) rfl) rfl rfl ?_
    obtain ⟨x66_83, hc, h⟩ := h
    refine Ls rfl rfl (X_ld rfl Tryz.underlying35 rfl rfl hc ?_)
    refine Lp (V_move rfl rfl) rfl rfl ?_
    obtain ⟨p68_84, ha, h0, h1, h⟩ := h
    refine Lp (V_ixA rfl Tryz.underlying35 ty136 (ixL rfl ha) rfl h0 h1) rfl rfl ?_
    refine Lp (V_fld rfl Tryz.underlying136 rfl ty3 (by decide) rfl) rfl rfl ?_
    obtain ⟨x70_85, hc, h⟩ := h
    refine Ls rfl rfl (X_ld rfl Tryz.underlying3 rfl rfl hc ?_)
    refine Ls rfl rfl (X_new (A_bsl (vs := [(0, .int .i64 x70_85)]) (cs := #[.int .i64 x70_85]) rfl Tryz.underlying55 ty3 (by decide) rfl rfl) fun x71_86 g1 g2 => ?_)
    replace h := h x71_86 g1 g2
    refine Ls rfl rfl (X_call rfl Tryz.func48 rfl rfl rfl (ACalls.mono h ?_))
    rintro v σ ⟨x72_87, rfl, h⟩
    refine Lnil ?_
    refine thenN ?_
    refine AW.iff rfl Iff.rfl h (fun h => ?_) (fun h => ?_)
    · refine AW.seq ?_
      refine AW.reg ?_
      refine Lp (V_asg rfl rfl) rfl rfl ?_
      refine Lp (V_asg rfl rfl) rfl rfl ?_
      refine Lnil ?_
      refine thenN ?_
      refine AW.ret ?_
      refine thenR ?_
      refine blockR ?_
      refine thenR ?_
      refine thenR ?_
      refine blockR ?_
      refine thenR ?_
      exact bR2 Tryz.results13 rfl rfl ⟨_, _, rfl, h⟩
    refine AW.skip ?_
    refine thenN ?_
    refine AW.drawnL (fun i => ([0, 0, 3, 0, 0, 0, 3, 2, 2, 0, 0, 0, 0, 0, 0, 2, 1, 2, 0] : List Nat).getD i 2) [(2, 4), (2, 5), (2, 6), (2, 7), (2, 8), (2, 15), (2, 16), (2, 17), (6, 7), (6, 8), (6, 15), (6, 16), (6, 17), (7, 8), (7, 15), (7, 16), (7, 17), (8, 16), (8, 17)] [0, 1, 3, 9, 10, 11, 12, 13, 14, 2, 4, 5, 6, 7, 8, 15, 16, 17, 18] Tryz.mixed h (by decide +kernel) ?_
    clear h
    intro ψ σ h
    refine Dp rfl rfl rfl rfl (V_move rfl rfl) ?_
    refine Dp rfl rfl rfl rfl (V_fld rfl Tryz.underlying39 rfl ty35 (by decide) rfl) ?_
    refine Dp rfl rfl rfl rfl (V_move rfl rfl) ?_
    refine Dp rfl rfl rfl rfl (V_fld rfl Tryz.underlying39 rfl ty35 (by decide) rfl) ?_
    obtain ⟨x83_88, hc, h⟩ := h
    refine Dp rfl rfl rfl rfl (V_ld rfl Tryz.underlying35 rfl rfl hc) ?_
    refine Dp rfl rfl rfl rfl (V_move rfl rfl) ?_
    obtain ⟨p85_89, ha, h0, h1, h⟩ := h
    refine Dp rfl rfl rfl rfl (V_ixA rfl Tryz.underlying35 ty136 (ixL rfl ha) rfl h0 h1) ?_
    refine Dp rfl rfl rfl rfl (V_fld rfl Tryz.underlying136 rfl ty3 (by decide) rfl) ?_
    obtain ⟨x87_90, hc, h⟩ := h
    refine Dp rfl rfl rfl rfl (V_ld rfl Tryz.underlying3 rfl rfl hc) ?_
    obtain ⟨x75_91, hc, h⟩ := h
    refine Dr rfl rfl rfl rfl (R_ld rfl Tryz.underlying35 rfl rfl hc) ?_
    obtain ⟨p77_92, ha, h0, h1, h⟩ := h
    refine Dp rfl rfl rfl rfl (V_ixA rfl Tryz.underlying35 ty136 (ixL rfl ha) rfl h0 h1) ?_
    refine Dp rfl rfl rfl rfl (V_fld rfl Tryz.underlying136 rfl ty9 (by decide) rfl) ?_
    obtain ⟨x79_93, hc, h⟩ := h
    refine Dr rfl rfl rfl rfl (R_ld rfl Tryz.underlying9 rfl rfl hc) ?_
    refine Dg rfl rfl rfl rfl (X_cvt rfl rfl (awp_mono _ h ?_))
    rintro v σ ⟨x80_94, rfl, h⟩
    refine Dg rfl rfl rfl rfl (X_call rfl Tryz.func51 rfl rfl rfl (ACalls.mono h ?_))
    rintro v σ ⟨x81_95, rfl, h⟩
    refine Dg rfl rfl rfl rfl (X_call rfl Tryz.func52 rfl rfl rfl (ACalls.mono h ?_))
    rintro v σ ⟨x88_96, rfl, h⟩
    refine Da rfl rfl rfl rfl (A_bsl (vs := [(0, Sl.v x4_80), (1, Sl.v x81_95), (2, Sl.v x88_96)]) (cs := #[Sl.v x4_80, Sl.v x81_95, Sl.v x88_96]) rfl Tryz.underlying227 ty24 (by decide) rfl rfl) fun x89_97 g1 g2 => ?_
    replace h := h x89_97 g1 g2
    refine Dg rfl rfl rfl rfl (X_call rfl Tryz.func50 rfl rfl rfl (ACalls.mono h ?_))
    rintro v σ ⟨x90_98, rfl, h⟩
    refine Dp rfl rfl rfl rfl (V_asg rfl rfl) ?_
    refine ⟨_, FrEq.refl _, fun hdj => ?_⟩
    replace h := h hdj
    refine blockN ?_
    refine thenN ?_
    refine AW.reg ?_
    refine Lp (V_move rfl rfl) rfl rfl ?_
    refine Lp (V_add rfl rfl rfl) rfl rfl ?_
    refine Lp (V_asg rfl rfl) rfl rfl ?_
    refine Lnil ?_
    refine thenN ?_
    refine ARound.head (fr' := [(1, .pointer (some ⟨x1_1, 0, none⟩)), (4, Sl.v x90_98), (5, .int .i64 (IntKind.i64.wrap (x5_81 + 1)))]) ?_ (FrLe.cons rfl (FrLe.cons rfl (FrLe.cons rfl (FrLe.nil _))))
    exact hY79 _ _ h
  rintro fr σ ⟨x4_21, hl, h⟩
  refine AW.weaken ?_ hl (HLe.refl _)
  unfold j20_ref17_PutReply at h
  refine AW.seq ?_
  refine AW.drawnL (fun i => ([0, 0, 3, 0, 2, 0, 0, 2, 0, 0, 2, 0, 0, 0, 2, 1, 2, 0] : List Nat).getD i 2) [(2, 3), (2, 4), (2, 7), (2, 10), (2, 14), (2, 15), (2, 16), (4, 7), (4, 10), (4, 14), (4, 15), (4, 16), (7, 10), (7, 14), (7, 15), (7, 16), (10, 15), (10, 16)] [0, 1, 5, 6, 8, 9, 11, 12, 13, 2, 3, 4, 7, 10, 14, 15, 16, 17] Tryz.mixed h (by decide +kernel) ?_
  clear h
  intro ψ σ h
  refine Dp rfl rfl rfl rfl (V_move rfl rfl) ?_
  refine Dp rfl rfl rfl rfl (V_fld rfl Tryz.underlying39 rfl ty3 (by decide) rfl) ?_
  refine Dp rfl rfl rfl rfl (V_fld rfl Tryz.underlying39 rfl ty24 (by decide) rfl) ?_
  obtain ⟨x97_22, hc, h⟩ := h
  refine Dp rfl rfl rfl rfl (V_ld rfl Tryz.underlying24 rfl rfl hc) ?_
  refine Dp rfl rfl rfl rfl (V_fld rfl Tryz.underlying39 rfl ty36 (by decide) rfl) ?_
  refine Dp rfl rfl rfl rfl (V_slA rfl Tryz.underlying36 ty3 rfl) ?_
  refine Dp rfl rfl rfl rfl (V_fld rfl Tryz.underlying39 rfl ty27 (by decide) rfl) ?_
  obtain ⟨x103_23, hc, h⟩ := h
  refine Dp rfl rfl rfl rfl (V_ld rfl Tryz.underlying27 rfl rfl hc) ?_
  refine Dp rfl rfl rfl rfl (V_lenL rfl rfl Tryz.underlying27 rfl rfl) ?_
  obtain ⟨x93_24, hc, h⟩ := h
  refine Dr rfl rfl rfl rfl (R_ld rfl Tryz.underlying3 rfl rfl hc) ?_
  refine Dp rfl rfl rfl rfl (V_add rfl rfl rfl) ?_
  refine Dg rfl rfl rfl rfl (X_call rfl Tryz.func52 rfl rfl rfl (ACalls.mono h ?_))
  rintro v σ ⟨x95_25, rfl, h⟩
  refine Dg rfl rfl rfl rfl (X_call rfl Tryz.func51 rfl rfl rfl (ACalls.mono h ?_))
  rintro v σ ⟨x98_26, rfl, h⟩
  refine Dg rfl rfl rfl rfl (X_call rfl Tryz.func49 rfl rfl rfl (ACalls.mono h ?_))
  rintro v σ ⟨x101_27, rfl, h⟩
  refine Dg rfl rfl rfl rfl (X_call rfl Tryz.func52 rfl rfl rfl (ACalls.mono h ?_))
  rintro v σ ⟨x105_28, rfl, h⟩
  refine Da rfl rfl rfl rfl (A_bsl (vs := [(0, Sl.v x4_21), (1, Sl.v x95_25), (2, Sl.v x98_26), (3, Sl.v x101_27), (4, Sl.v x105_28)]) (cs := #[Sl.v x4_21, Sl.v x95_25, Sl.v x98_26, Sl.v x101_27, Sl.v x105_28]) rfl Tryz.underlying227 ty24 (by decide) rfl rfl) fun x106_29 g1 g2 => ?_
  replace h := h x106_29 g1 g2
  refine Dg rfl rfl rfl rfl (X_call rfl Tryz.func50 rfl rfl rfl (ACalls.mono h ?_))
  rintro v σ ⟨x107_30, rfl, h⟩
  refine Dp rfl rfl rfl rfl (V_asg rfl rfl) ?_
  refine ⟨_, FrEq.refl _, fun hdj => ?_⟩
  replace h := h hdj
  refine thenN ?_
  refine AW.seqJ (fun fr σ => ∃ (x4_32 : Sl), FrLe [(1, .pointer (some ⟨x1_1, 0, none⟩)), (4, Sl.v x4_32)] fr ∧ j31_ref17_PutReply B ro x1_1 Q x4_32 σ) ?_ ?_
  rotate_left
  · refine AW.seq ?_
    refine AW.reg ?_
    refine Lp (V_asg rfl rfl) rfl rfl ?_
    refine Lnil ?_
    refine thenN ?_
    refine AW.block ?_
    refine ARound.loop (fr' := [(1, .pointer (some ⟨x1_1, 0, none⟩)), (4, Sl.v x107_30), (6, .int .i64 0)]) ?_ (FrLe.cons rfl (FrLe.cons rfl (FrLe.cons rfl (FrLe.nil _))))
    refine h (fun ⟨x4_70, x6_71⟩ σ => ARound _ _ _ _ _ _ [(1, .pointer (some ⟨x1_1, 0, none⟩)), (4, Sl.v x4_70), (6, .int .i64 x6_71)] σ) ?_
    rintro ⟨x4_70, x6_71⟩ σ Y69 hY69 h
    show AW _ _ _ _ _ _ _ _
    unfold l69_ref17_PutReply at h
    dsimp only at h
    refine AW.seq ?_
    refine AW.seq ?_
    refine AW.reg ?_
    refine Lp (V_move rfl rfl) rfl rfl ?_
    refine Lp (V_fld rfl Tryz.underlying39 rfl ty27 (by decide) rfl) rfl rfl ?_
    obtain ⟨x110_72, hc, h⟩ := h
    refine Ls rfl rfl (X_ld rfl Tryz.underlying27 rfl rfl hc ?_)
    refine Lp (V_lenL rfl rfl Tryz.underlying27 rfl rfl) rfl rfl ?_
    refine Lp (V_lss rfl rfl rfl) rfl rfl ?_
    refine Lnil ?_
    refine thenN ?_
    refine AW.iff rfl decide_eq_true_iff h (fun h => ?_) (fun h => ?_)
    rotate_left
    · refine AW.exit ?_
      refine thenE ?_
      refine thenE ?_
      refine blockE ?_
      refine thenN ?_
      exact ⟨_, (FrLe.cons rfl (FrLe.cons rfl (FrLe.nil _))), h⟩
    refine AW.skip ?_
    refine thenN ?_
    refine AW.seq ?_
    refine AW.block ?_
    refine AW.reg ?_
    refine Lp (V_move rfl rfl) rfl rfl ?_
    refine Lp (V_fld rfl Tryz.underlying39 rfl ty27 (by decide) rfl) rfl rfl ?_
    obtain ⟨x117_73, hc, h⟩ := h
    refine Ls rfl rfl (X_ld rfl Tryz.underlying27 rfl rfl hc ?_)
    refine Lp (V_move rfl rfl) rfl rfl ?_
    obtain ⟨p119_74, ha, h0, h1, h⟩ := h
    refine Lp (V_ixA rfl Tryz.underlying27 ty9 (ixL rfl ha) rfl h0 h1) rfl rfl ?_
    obtain ⟨x120_75, hc, h⟩ := h
    refine Ls rfl rfl (X_ld rfl Tryz.underlying9 rfl rfl hc ?_)
    refine Ls rfl rfl (X_cvt rfl rfl (awp_mono _ h ?_))
    rintro v σ ⟨x121_76, rfl, h⟩
    refine Ls rfl rfl (X_call rfl Tryz.func51 rfl rfl rfl (ACalls.mono h ?_))
    rintro v σ ⟨x122_77, rfl, h⟩
    refine Ls rfl rfl (X_bi (s := Builtin.append_ #[24, 24] 24 #[Sl.v x4_70, Sl.v x122_77]) rfl rfl (fun _ => rfl) (awp_mono _ h ?_))
    rintro v σ ⟨x123_78, rfl, h⟩
    refine Lp (V_asg rfl rfl) rfl rfl ?_
    refine Lnil ?_
    refine blockN ?_
    refine thenN ?_
    refine AW.reg ?_
    refine Lp (V_move rfl rfl) rfl rfl ?_
    refine Lp (V_add rfl rfl rfl) rfl rfl ?_
    refine Lp (V_asg rfl rfl) rfl rfl ?_
    refine Lnil ?_
    refine thenN ?_
    refine ARound.head (fr' := [(1, .pointer (some ⟨x1_1, 0, none⟩)), (4, Sl.v x123_78), (6, .int .i64 (IntKind.i64.wrap (x6_71 + 1)))]) ?_ (FrLe.cons rfl (FrLe.cons rfl (FrLe.cons rfl (FrLe.nil _))))
    exact hY69 _ _ h
  rintro fr σ ⟨x4_32, hl, h⟩
  refine AW.weaken ?_ hl (HLe.refl _)
  unfold j31_ref17_PutReply at h
  refine AW.seq ?_
  refine AW.reg ?_
  refine Lp (V_move rfl rfl) rfl rfl ?_
  refine Lp (V_fld rfl Tryz.underlying39 rfl ty37 (by decide) rfl) rfl rfl ?_
  obtain ⟨x126_33, hc, h⟩ := h
  refine Ls rfl rfl (X_ld rfl Tryz.underlying37 rfl rfl hc ?_)
  refine Lp (V_lenL rfl rfl Tryz.underlying37 rfl rfl) rfl rfl ?_
  refine Ls rfl rfl (X_call rfl Tryz.func52 rfl rfl rfl (ACalls.mono h ?_))
  rintro v σ ⟨x128_34, rfl, h⟩
  refine Ls rfl rfl (X_bi (s := Builtin.append_ #[24, 24] 24 #[Sl.v x4_32, Sl.v x128_34]) rfl rfl (fun _ => rfl) (awp_mono _ h ?_))
  rintro v σ ⟨x129_35, rfl, h⟩
  refine Lp (V_asg rfl rfl) rfl rfl ?_
  refine Lnil ?_
  refine thenN ?_
  refine AW.seqJ (fun fr σ => ∃ (x4_37 : Sl), FrLe [(1, .pointer (some ⟨x1_1, 0, none⟩)), (4, Sl.v x4_37)] fr ∧ j36_ref17_PutReply B ro x1_1 Q x4_37 σ) ?_ ?_
  · rintro fr σ ⟨x4_37, hl, h⟩
    refine AW.weaken ?_ hl (HLe.refl _)
    unfold j36_ref17_PutReply at h
    refine AW.seq ?_
    refine AW.reg ?_
    refine Lp (V_move rfl rfl) rfl rfl ?_
    refine Lp (V_fld rfl Tryz.underlying39 rfl ty3 (by decide) rfl) rfl rfl ?_
    obtain ⟨x178_38, hc, h⟩ := h
    refine Ls rfl rfl (X_ld rfl Tryz.underlying3 rfl rfl hc ?_)
    refine Ls rfl rfl (X_call rfl Tryz.func52 rfl rfl rfl (ACalls.mono h ?_))
    rintro v σ ⟨x179_39, rfl, h⟩
    refine Ls rfl rfl (X_new (A_bsl (vs := [(0, Sl.v x4_37), (1, Sl.v x179_39)]) (cs := #[Sl.v x4_37, Sl.v x179_39]) rfl Tryz.underlying227 ty24 (by decide) rfl rfl) fun x180_40 g1 g2 => ?_)
    replace h := h x180_40 g1 g2
    refine Ls rfl rfl (X_call rfl Tryz.func50 rfl rfl rfl (ACalls.mono h ?_))
    rintro v σ ⟨x181_41, rfl, h⟩
    refine Lp (V_asg rfl rfl) rfl rfl ?_
    refine Lp (V_asg rfl rfl) rfl rfl ?_
    refine Lnil ?_
    refine thenN ?_
    refine AW.ret ?_
    exact bR2 Tryz.results13 rfl rfl ⟨_, _, rfl, h⟩
  refine AW.seq ?_
  refine AW.reg ?_
  refine Lp (V_asg rfl rfl) rfl rfl ?_
  refine Lnil ?_
  refine thenN ?_
  refine AW.block ?_
  refine ARound.loop (fr' := [(1, .pointer (some ⟨x1_1, 0, none⟩)), (4, Sl.v x129_35), (7, .int .i64 0)]) ?_ (FrLe.cons rfl (FrLe.cons rfl (FrLe.cons rfl (FrLe.nil _))))
  refine h (fun ⟨x4_43, x7_44⟩ σ => ARound _ _ _ _ _ _ [(1, .pointer (some ⟨x1_1, 0, none⟩)), (4, Sl.v x4_43), (7, .int .i64 x7_44)] σ) ?_
  rintro ⟨x4_43, x7_44⟩ σ Y42 hY42 h
  show AW _ _ _ _ _ _ _ _
  unfold l42_ref17_PutReply at h
  dsimp only at h
  refine AW.seq ?_
  refine AW.seq ?_
  refine AW.reg ?_
  refine Lp (V_move rfl rfl) rfl rfl ?_
  refine Lp (V_fld rfl Tryz.underlying39 rfl ty37 (by decide) rfl) rfl rfl ?_
  obtain ⟨x132_45, hc, h⟩ := h
  refine Ls rfl rfl (X_ld rfl Tryz.underlying37 rfl rfl hc ?_)
  refine Lp (V_lenL rfl rfl Tryz.underlying37 rfl rfl) rfl rfl ?_
  refine Lp (V_lss rfl rfl rfl) rfl rfl ?_
  refine Lnil ?_
  refine thenN ?_
  refine AW.iff rfl decide_eq_true_iff h (fun h => ?_) (fun h => ?_)
  rotate_left
  · refine AW.exit ?_
    refine thenE ?_
    refine thenE ?_
    refine blockE ?_
    refine thenN ?_
    exact ⟨_, (FrLe.cons rfl (FrLe.cons rfl (FrLe.nil _))), h⟩
  refine AW.skip ?_
  refine thenN ?_
  refine AW.seq ?_
  refine AW.block ?_
  refine AW.seq ?_
  refine AW.seq ?_
  refine AW.drawn0 (fun i => ([0, 3, 0, 0, 0, 3, 0, 3, 0, 0, 0, 3, 1, 2] : List Nat).getD i 2) [(1, 3), (1, 4), (1, 5), (1, 12), (1, 13), (5, 12), (5, 13), (7, 9), (7, 10), (7, 11), (7, 12), (7, 13), (11, 12), (11, 13)] [0, 2, 6, 8, 1, 3, 4, 5, 7, 9, 10, 11, 12, 13] Tryz.mixed (by decide +kernel) ?_
  refine Dp rfl rfl rfl rfl (V_fld rfl Tryz.underlying39 rfl ty37 (by decide) rfl) ?_
  refine Dp rfl rfl rfl rfl (V_move rfl rfl) ?_
  refine Dp rfl rfl rfl rfl (V_fld rfl Tryz.underlying39 rfl ty37 (by decide) rfl) ?_
  refine Dp rfl rfl rfl rfl (V_move rfl rfl) ?_
  obtain ⟨x138_46, hc, h⟩ := h
  refine Dr rfl rfl rfl rfl (R_ld rfl Tryz.underlying37 rfl rfl hc) ?_
  obtain ⟨p140_47, ha, h0, h1, h⟩ := h
  refine Dp rfl rfl rfl rfl (V_ixA rfl Tryz.underlying37 ty139 (ixL rfl ha) rfl h0 h1) ?_
  refine Dp rfl rfl rfl rfl (V_fld rfl Tryz.underlying139 rfl ty3 (by decide) rfl) ?_
  obtain ⟨x142_48, hc, h⟩ := h
  refine Dr rfl rfl rfl rfl (R_ld rfl Tryz.underlying3 rfl rfl hc) ?_
  obtain ⟨x144_49, hc, h⟩ := h
  refine Dr rfl rfl rfl rfl (R_ld rfl Tryz.underlying37 rfl rfl hc) ?_
  obtain ⟨p146_50, ha, h0, h1, h⟩ := h
  refine Dp rfl rfl rfl rfl (V_ixA rfl Tryz.underlying37 ty139 (ixL rfl ha) rfl h0 h1) ?_
  refine Dp rfl rfl rfl rfl (V_fld rfl Tryz.underlying139 rfl ty3 (by decide) rfl) ?_
  obtain ⟨x148_51, hc, h⟩ := h
  refine Dr rfl rfl rfl rfl (R_ld rfl Tryz.underlying3 rfl rfl hc) ?_
  refine Da rfl rfl rfl rfl (A_bsl (vs := [(0, .int .i64 x142_48), (1, .int .i64 x148_51)]) (cs := #[.int .i64 x142_48, .int .i64 x148_51]) rfl Tryz.underlying55 ty3 (by decide) rfl rfl) fun x149_52 g1 g2 => ?_
  replace h := h x149_52 g1 g2
  refine Dg rfl rfl rfl rfl (X_call rfl Tryz.func48 rfl rfl rfl (ACalls.mono h ?_))
  rintro v σ ⟨x150_53, rfl, h⟩
  refine Dend ?_
  refine thenN ?_
  refine AW.iff rfl Iff.rfl h (fun h => ?_) (fun h => ?_)
  · refine AW.seq ?_
    refine AW.reg ?_
    refine Lp (V_asg rfl rfl) rfl rfl ?_
    refine Lp (V_asg rfl rfl) rfl rfl ?_
    refine Lnil ?_
    refine thenN ?_
    refine AW.ret ?_
    refine thenR ?_
    refine blockR ?_
    refine thenR ?_
    refine thenR ?_
    refine blockR ?_
    refine thenR ?_
    exact bR2 Tryz.results13 rfl rfl ⟨_, _, rfl, h⟩
  refine AW.skip ?_
  refine thenN ?_
  refine AW.drawnL (fun i => ([0, 0, 3, 0, 0, 0, 3, 0, 3, 0, 0, 0, 3, 1, 2, 0, 0, 0, 0, 0, 0, 1, 2, 1, 2, 0] : List Nat).getD i 2) [(2, 4), (2, 5), (2, 6), (2, 13), (2, 14), (2, 22), (2, 23), (2, 24), (6, 13), (6, 14), (6, 22), (6, 23), (6, 24), (8, 10), (8, 11), (8, 12), (8, 13), (8, 14), (8, 22), (8, 23), (8, 24), (12, 13), (12, 14), (12, 22), (12, 23), (12, 24), (13, 14), (13, 22), (13, 23), (13, 24), (14, 23), (14, 24), (21, 22), (21, 23), (21, 24)] [0, 1, 3, 7, 9, 15, 16, 17, 18, 19, 20, 2, 4, 5, 6, 8, 10, 11, 12, 13, 14, 21, 22, 23, 24, 25] Tryz.mixed h (by decide +kernel) ?_
  clear h
  intro ψ σ h
  refine Dp rfl rfl rfl rfl (V_move rfl rfl) ?_
  refine Dp rfl rfl rfl rfl (V_fld rfl Tryz.underlying39 rfl ty37 (by decide) rfl) ?_
  refine Dp rfl rfl rfl rfl (V_move rfl rfl) ?_
  refine Dp rfl rfl rfl rfl (V_fld rfl Tryz.underlying39 rfl ty37 (by decide) rfl) ?_
  refine Dp rfl rfl rfl rfl (V_move rfl rfl) ?_
  refine Dp rfl rfl rfl rfl (V_fld rfl Tryz.underlying39 rfl ty37 (by decide) rfl) ?_
  obtain ⟨x167_54, hc, h⟩ := h
  refine Dp rfl rfl rfl rfl (V_ld rfl Tryz.underlying37 rfl rfl hc) ?_
  refine Dp rfl rfl rfl rfl (V_move rfl rfl) ?_
  obtain ⟨p169_55, ha, h0, h1, h⟩ := h
  refine Dp rfl rfl rfl rfl (V_ixA rfl Tryz.underlying37 ty139 (ixL rfl ha) rfl h0 h1) ?_
  refine Dp rfl rfl rfl rfl (V_fld rfl Tryz.underlying139 rfl ty9 (by decide) rfl) ?_
  obtain ⟨x171_56, hc, h⟩ := h
  refine Dp rfl rfl rfl rfl (V_ld rfl Tryz.underlying9 rfl rfl hc) ?_
  obtain ⟨x153_57, hc, h⟩ := h
  refine Dr rfl rfl rfl rfl (R_ld rfl Tryz.underlying37 rfl rfl hc) ?_
  obtain ⟨p155_58, ha, h0, h1, h⟩ := h
  refine Dp rfl rfl rfl rfl (V_ixA rfl Tryz.underlying37 ty139 (ixL rfl ha) rfl h0 h1) ?_
  refine Dp rfl rfl rfl rfl (V_fld rfl Tryz.underlying139 rfl ty3 (by decide) rfl) ?_
  obtain ⟨x157_59, hc, h⟩ := h
  refine Dr rfl rfl rfl rfl (R_ld rfl Tryz.underlying3 rfl rfl hc) ?_
  obtain ⟨x159_60, hc, h⟩ := h
  refine Dr rfl rfl rfl rfl (R_ld rfl Tryz.underlying37 rfl rfl hc) ?_
  obtain ⟨p161_61, ha, h0, h1, h⟩ := h
  refine Dp rfl rfl rfl rfl (V_ixA rfl Tryz.underlying37 ty139 (ixL rfl ha) rfl h0 h1) ?_
  refine Dp rfl rfl rfl rfl (V_fld rfl Tryz.underlying139 rfl ty3 (by decide) rfl) ?_
  obtain ⟨x163_62, hc, h⟩ := h
  refine Dr rfl rfl rfl rfl (R_ld rfl Tryz.underlying3 rfl rfl hc) ?_
  refine Da rfl rfl rfl rfl (A_bsl (vs := [(0, .int .i64 x157_59), (1, .int .i64 x163_62)]) (cs := #[.int .i64 x157_59, .int .i64 x163_62]) rfl Tryz.underlying55 ty3 (by decide) rfl rfl) fun x164_63 g1 g2 => ?_
  replace h := h x164_63 g1 g2
  refine Dg rfl rfl rfl rfl (X_call rfl Tryz.func49 rfl rfl rfl (ACalls.mono h ?_))
  rintro v σ ⟨x165_64, rfl, h⟩
  refine Dc rfl rfl rfl rfl (F_s2b rfl Tryz.underlying9 Tryz.underlying24 Tryz.underlying5 rfl) (X_cvt rfl rfl (awp_mono _ h ?_))
  rintro v σ ⟨x172_65, rfl, h⟩
  refine Dg rfl rfl rfl rfl (X_call rfl Tryz.func51 rfl rfl rfl (ACalls.mono h ?_))
  rintro v σ ⟨x173_66, rfl, h⟩
  refine Da rfl rfl rfl rfl (A_bsl (vs := [(0, Sl.v x4_43), (1, Sl.v x165_64), (2, Sl.v x173_66)]) (cs := #[Sl.v x4_43, Sl.v x165_64, Sl.v x173_66]) rfl Tryz.underlying227 ty24 (by decide) rfl rfl) fun x174_67 g1 g2 => ?_
  replace h := h x174_67 g1 g2
  refine Dg rfl rfl rfl rfl (X_call rfl Tryz.func50 rfl rfl rfl (ACalls.mono h ?_))
  rintro v σ ⟨x175_68, rfl, h⟩
  refine Dp rfl rfl rfl rfl (V_asg rfl rfl) ?_
  refine ⟨_, FrEq.refl _, fun hdj => ?_⟩
  replace h := h hdj
  refine blockN ?_
  refine thenN ?_
  refine AW.reg ?_
  refine Lp (V_move rfl rfl) rfl rfl ?_
  refine Lp (V_add rfl rfl rfl) rfl rfl ?_
  refine Lp (V_asg rfl rfl) rfl rfl ?_
  refine Lnil ?_
  refine thenN ?_
  refine ARound.head (fr' := [(1, .pointer (some ⟨x1_1, 0, none⟩)), (4, Sl.v x175_68), (7, .int .i64 (IntKind.i64.wrap (x7_44 + 1)))]) ?_ (FrLe.cons rfl (FrLe.cons rfl (FrLe.cons rfl (FrLe.nil _))))
  exact hY42 _ _ h

def j17_ref17_GetReply (B : World) (ro : AH) (x2_1 : Nat) (x5_4 : Nat) (x25_6 : Int) (x65_11 : Int) (x84_13 : Int) (Q : Int → Int → Sl → Int → Sl → Int → Int → Int → Int → Sl → Sl → Int → Bool → AH → Prop) (x122_18 : Bool) (σ : AH) : Prop :=
 if (((x122_18 = true) ∨ (16 < x25_6)) ∨ (4096 < x65_11)) ∨ (32 < x84_13) then
  stN ⟨x2_1, 0, none⟩ (fun σ =>
   ∃ (x2_19a : Int) (x2_19b : Int) (x2_19c : Sl) (x2_19d : Int) (x2_19e : Sl) (x2_19f : Int) (x2_19g : Int) (x2_19h : Int) (x2_19i : Int) (x2_19j : Sl) (x2_19k : Sl) (x2_19l : Int), cellsAt ro σ ⟨x2_1, 0, none⟩ 0 [.int .i64 x2_19a, .int .i64 x2_19b, Sl.v x2_19c, .int .i64 x2_19d, Sl.v x2_19e, .int .i64 x2_19f, .int .i64 x2_19g, .int .i64 x2_19h, .int .i64 x2_19i, Sl.v x2_19j, Sl.v x2_19k, .int .i64 x2_19l] ∧
   Q x2_19a x2_19b x2_19c x2_19d x2_19e x2_19f x2_19g x2_19h x2_19i x2_19j x2_19k x2_19l false σ) [.int .i64 0, .int .i64 0, Sl.v (⟨none, 0, 0⟩ : Sl), .int .i64 0, Sl.v (⟨none, 0, 0⟩ : Sl), .int .i64 0, .int .i64 0, .int .i64 0, .int .i64 0, Sl.v (⟨none, 0, 0⟩ : Sl), Sl.v (⟨none, 0, 0⟩ : Sl), .int .i64 0] 0 σ
 else
 ∃ (x136_20a : Int) (x136_20b : Int) (x136_20c : Sl) (x136_20d : Int) (x136_20e : Sl) (x136_20f : Int) (x136_20g : Int) (x136_20h : Int) (x136_20i : Int) (x136_20j : Sl) (x136_20k : Sl) (x136_20l : Int), cellsAt ro σ ⟨x5_4, 0, none⟩ 0 [.int .i64 x136_20a, .int .i64 x136_20b, Sl.v x136_20c, .int .i64 x136_20d, Sl.v x136_20e, .int .i64 x136_20f, .int .i64 x136_20g, .int .i64 x136_20h, .int .i64 x136_20i, Sl.v x136_20j, Sl.v x136_20k, .int .i64 x136_20l] ∧
 stN ⟨x2_1, 0, none⟩ (fun σ =>
  ∃ (x2_21a : Int) (x2_21b : Int) (x2_21c : Sl) (x2_21d : Int) (x2_21e : Sl) (x2_21f : Int) (x2_21g : Int) (x2_21h : Int) (x2_21i : Int) (x2_21j : Sl) (x2_21k : Sl) (x2_21l : Int), cellsAt ro σ ⟨x2_1, 0, none⟩ 0 [.int .i64 x2_21a, .int .i64 x2_21b, Sl.v x2_21c, .int .i64 x2_21d, Sl.v x2_21e, .int .i64 x2_21f, .int .i64 x2_21g, .int .i64 x2_21h, .int .i64 x2_21i, Sl.v x2_21j, Sl.v x2_21k, .int .i64 x2_21l] ∧
  Q x2_21a x2_21b x2_21c x2_21d x2_21e x2_21f x2_21g x2_21h x2_21i x2_21j x2_21k x2_21l true σ) [.int .i64 x136_20a, .int .i64 x136_20b, Sl.v x136_20c, .int .i64 x136_20d, Sl.v x136_20e, .int .i64 x136_20f, .int .i64 x136_20g, .int .i64 x136_20h, .int .i64 x136_20i, Sl.v x136_20j, Sl.v x136_20k, .int .i64 x136_20l] 0 σ

def j14_ref17_GetReply (B : World) (ro : AH) (x2_1 : Nat) (x5_4 : Nat) (x17_2 : Nat) (x25_6 : Int) (x65_11 : Int) (x84_13 : Int) (Q : Int → Int → Sl → Int → Sl → Int → Int → Int → Int → Sl → Sl → Int → Bool → AH → Prop) (σ : AH) : Prop :=
 c_ref01_Reader_Num B ro (some ⟨x17_2, 0, none⟩) σ fun x111_15 σ =>
 stN ((⟨x5_4, 0, none⟩ : Addr).add 11) (fun σ =>
  ∃ (x116_16 : Int), acell ro σ ((⟨x17_2, 0, none⟩ : Addr).add 2) = some (.int .i64 x116_16) ∧
  if ¬ (x116_16 = 0) then
   j17_ref17_GetReply B ro x2_1 x5_4 x25_6 x65_11 x84_13 Q true σ
  else
  c_ref01_Reader_Left B ro (some ⟨x17_2, 0, none⟩) σ fun x120_22 σ =>
  j17_ref17_GetReply B ro x2_1 x5_4 x25_6 x65_11 x84_13 Q (!(decide (x120_22 = 0))) σ) [.int .i64 x111_15] 0 σ

def l23_ref17_GetReply (B : World) (ro : AH) (x2_1 : Nat) (x5_4 : Nat) (x17_2 : Nat) (x25_6 : Int) (x65_11 : Int) (x84_13 : Int) (Q : Int → Int → Sl → Int → Sl → Int → Int → Int → Int → Sl → Sl → Int → Bool → AH → Prop) : (Int) → AH → ((Int) → AH → Prop) → Prop := fun x13_24 σ Y23 =>
 if (x13_24 < x84_13) ∧ (x13_24 < 32) then
  c_ref01_Reader_Num B ro (some ⟨x17_2, 0, none⟩) σ fun x95_25 σ =>
  nw ro σ (.cells #[.int .i64 0, .int .i64 0, .string ByteArray.empty] 139) fun x14_26 σ =>
  stN ⟨x14_26, 0, none⟩ (fun σ =>
   c_ref01_Reader_Num B ro (some ⟨x17_2, 0, none⟩) σ fun x98_27 σ =>
   stN ((⟨x14_26, 0, none⟩ : Addr).add 1) (fun σ =>
    c_ref01_Reader_Blob B ro (some ⟨x17_2, 0, none⟩) σ fun x101_28 σ =>
    awp Tryz.prog ro (convert 24 9 (Sl.v x101_28)) (fun v σ =>
     (∃ (x102_29 : ByteArray), v = .string x102_29 ∧
      stN ((⟨x14_26, 0, none⟩ : Addr).add 2) (fun σ =>
       ∃ (x105_30 : Sl), acell ro σ ((⟨x5_4, 0, none⟩ : Addr).add 10) = some (Sl.v x105_30) ∧
       ∃ (x106_31a : Int) (x106_31b : Int) (x106_31c : ByteArray), cellsAt ro σ ⟨x14_26, 0, none⟩ 0 [.int .i64 x106_31a, .int .i64 x106_31b, .string x106_31c] ∧
       nw ro σ (.cells #[.int .i64 x106_31a, .int .i64 x106_31b, .string x106_31c] 139) fun x107_32 σ =>
       awp Tryz.prog ro (Builtin.append_ #[37, 37] 37 #[Sl.v x105_30, Sl.v (⟨some ⟨x107_32, 0, none⟩, 1, 1⟩ : Sl)]) (fun v σ => ∃ (x108_33 : Sl), v = Sl.v x108_33 ∧
        stN ((⟨x5_4, 0, none⟩ : Addr).add 10) (fun σ =>
         Y23 (IntKind.i64.wrap (x13_24 + 1)) σ) [Sl.v x108_33] 0 σ) σ) [.string x102_29] 0 σ)) σ) [.int .i64 x98_27] 0 σ) [.int .i64 x95_25, .int .i64 0, .string ByteArray.empty] 0 σ
 else
 j14_ref17_GetReply B ro x2_1 x5_4 x17_2 x25_6 x65_11 x84_13 Q σ

def j12_ref17_GetReply (B : World) (ro : AH) (x2_1 : Nat) (x5_4 : Nat) (x17_2 : Nat) (x25_6 : Int) (x65_11 : Int) (Q : Int → Int → Sl → Int → Sl → Int → Int → Int → Int → Sl → Sl → Int → Bool → AH → Prop) (σ : AH) : Prop :=
 c_ref01_Reader_Num B ro (some ⟨x17_2, 0, none⟩) σ fun x84_13 σ =>
 lfpD (l23_ref17_GetReply B ro x2_1 x5_4 x17_2 x25_6 x65_11 x84_13 Q ) (0) σ

def l34_ref17_GetReply (B : World) (ro : AH) (x2_1 : Nat) (x5_4 : Nat) (x17_2 : Nat) (x25_6 : Int) (x65_11 : Int) (Q : Int → Int → Sl → Int → Sl → Int → Int → Int → Int → Sl → Sl → Int → Bool → AH → Prop) : (Int) → AH → ((Int) → AH → Prop) → Prop := fun x11_35 σ Y34 =>
 if (x11_35 < x65_11) ∧ (x11_35 < 4096) then
  lent σ fun ψ σ =>
   ∃ (x76_36 : Sl), acell (join ro ψ) (fun _ => none) ((⟨x5_4, 0, none⟩ : Addr).add 9) = some (Sl.v x76_36) ∧
   c_ref01_Reader_Blob B (join ro ψ) (some ⟨x17_2, 0, none⟩) σ fun x78_37 σ =>
   awp Tryz.prog (join ro ψ) (convert 24 9 (Sl.v x78_37)) (fun v σ =>
    (∃ (x79_38 : ByteArray), v = .string x79_38 ∧
     nw (join ro ψ) σ (.cells #[.string x79_38] 9) fun x80_39 σ =>
     (Disj ψ σ → (fun σ => 
      awp Tryz.prog ro (Builtin.append_ #[27, 27] 27 #[Sl.v x76_36, Sl.v (⟨some ⟨x80_39, 0, none⟩, 1, 1⟩ : Sl)]) (fun v σ => ∃ (x81_40 : Sl), v = Sl.v x81_40 ∧
       stN ((⟨x5_4, 0, none⟩ : Addr).add 9) (fun σ =>
        Y34 (IntKind.i64.wrap (x11_35 + 1)) σ) [Sl.v x81_40] 0 σ) σ) (join ψ σ)))) σ
 else
 j12_ref17_GetReply B ro x2_1 x5_4 x17_2 x25_6 x65_11 Q σ

def j10_ref17_GetReply (B : World) (ro : AH) (x2_1 : Nat) (x5_4 : Nat) (x17_2 : Nat) (x25_6 : Int) (Q : Int → Int → Sl → Int → Sl → Int → Int → Int → Int → Sl → Sl → Int → Bool → AH → Prop) (σ : AH) : Prop :=
 c_ref01_Reader_Num B ro (some ⟨x17_2, 0, none⟩) σ fun x65_11 σ =>
 lfpD (l34_ref17_GetReply B ro x2_1 x5_4 x17_2 x25_6 x65_11 Q ) (0) σ

def l41_ref17_GetReply (B : World) (ro : AH) (x2_1 : Nat) (x5_4 : Nat) (x17_2 : Nat) (x25_6 : Int) (Q : Int → Int → Sl → Int → Sl → Int → Int → Int → Int → Sl → Sl → Int → Bool → AH → Prop) : (Int) → AH → ((Int) → AH → Prop) → Prop := fun x9_42 σ Y41 =>
 if x9_42 < 4 then
  c_ref01_Reader_Num B ro (some ⟨x17_2, 0, none⟩) σ fun x61_43 σ =>
  ((0 : Int) ≤ x9_42 ∧ x9_42 < 4) ∧
  stN (((⟨x5_4, 0, none⟩ : Addr).add 5).add (Int.toNat x9_42 * 1)) (fun σ =>
   Y41 (IntKind.i64.wrap (x9_42 + 1)) σ) [.int .i64 x61_43] 0 σ
 else
 j10_ref17_GetReply B ro x2_1 x5_4 x17_2 x25_6 Q σ

def j7_ref17_GetReply (B : World) (ro : AH) (x2_1 : Nat) (x5_4 : Nat) (x17_2 : Nat) (x25_6 : Int) (Q : Int → Int → Sl → Int → Sl → Int → Int → Int → Int → Sl → Sl → Int → Bool → AH → Prop) (σ : AH) : Prop :=
 c_ref01_Reader_Num B ro (some ⟨x17_2, 0, none⟩) σ fun x49_8 σ =>
 stN ((⟨x5_4, 0, none⟩ : Addr).add 3) (fun σ =>
  c_ref01_Reader_Blob B ro (some ⟨x17_2, 0, none⟩) σ fun x53_9 σ =>
  stN ((⟨x5_4, 0, none⟩ : Addr).add 4) (fun σ =>
   lfpD (l41_ref17_GetReply B ro x2_1 x5_4 x17_2 x25_6 Q ) (0) σ) [Sl.v x53_9] 0 σ) [.int .i64 (IntKind.i64.wrap (x49_8 - 1))] 0 σ

def l44_ref17_GetReply (B : World) (ro : AH) (x2_1 : Nat) (x5_4 : Nat) (x17_2 : Nat) (x25_6 : Int) (Q : Int → Int → Sl → Int → Sl → Int → Int → Int → Int → Sl → Sl → Int → Bool → AH → Prop) : (Int) → AH → ((Int) → AH → Prop) → Prop := fun x7_45 σ Y44 =>
 if (x7_45 < x25_6) ∧ (x7_45 < 16) then
  c_ref01_Reader_Blob B ro (some ⟨x17_2, 0, none⟩) σ fun x36_46 σ =>
  awp Tryz.prog ro (convert 24 9 (Sl.v x36_46)) (fun v σ =>
   (∃ (x37_47 : ByteArray), v = .string x37_47 ∧
    nw ro σ (.cells #[.string ByteArray.empty, .int .i64 0] 136) fun x8_48 σ =>
    stN ⟨x8_48, 0, none⟩ (fun σ =>
     c_ref01_Reader_Num B ro (some ⟨x17_2, 0, none⟩) σ fun x40_49 σ =>
     stN ((⟨x8_48, 0, none⟩ : Addr).add 1) (fun σ =>
      ∃ (x43_50 : Sl), acell ro σ ((⟨x5_4, 0, none⟩ : Addr).add 2) = some (Sl.v x43_50) ∧
      ∃ (x44_51a : ByteArray) (x44_51b : Int), cellsAt ro σ ⟨x8_48, 0, none⟩ 0 [.string x44_51a, .int .i64 x44_51b] ∧
      nw ro σ (.cells #[.string x44_51a, .int .i64 x44_51b] 136) fun x45_52 σ =>
      awp Tryz.prog ro (Builtin.append_ #[35, 35] 35 #[Sl.v x43_50, Sl.v (⟨some ⟨x45_52, 0, none⟩, 1, 1⟩ : Sl)]) (fun v σ => ∃ (x46_53 : Sl), v = Sl.v x46_53 ∧
       stN ((⟨x5_4, 0, none⟩ : Addr).add 2) (fun σ =>
        Y44 (IntKind.i64.wrap (x7_45 + 1)) σ) [Sl.v x46_53] 0 σ) σ) [.int .i64 x40_49] 0 σ) [.string x37_47, .int .i64 0] 0 σ)) σ
 else
 j7_ref17_GetReply B ro x2_1 x5_4 x17_2 x25_6 Q σ

def f_ref17_GetReply (B : World) (ro : AH) (a0 : Sl) (σ : AH) (Q : Int → Int → Sl → Int → Sl → Int → Int → Int → Int → Sl → Sl → Int → Bool → AH → Prop) : Prop :=
 nw ro σ (.cells #[.int .i64 0, .int .i64 0, Sl.v (⟨none, 0, 0⟩ : Sl), .int .i64 0, Sl.v (⟨none, 0, 0⟩ : Sl), .int .i64 0, .int .i64 0, .int .i64 0, .int .i64 0, Sl.v (⟨none, 0, 0⟩ : Sl), Sl.v (⟨none, 0, 0⟩ : Sl), .int .i64 0] 39) fun x2_1 σ =>
 nw ro σ (.cells #[Sl.v a0, .int .i64 0, .int .i64 0] 147) fun x17_2 σ =>
 c_ref01_Reader_Num B ro (some ⟨x17_2, 0, none⟩) σ fun x19_3 σ =>
 nw ro σ (.cells #[.int .i64 0, .int .i64 0, Sl.v (⟨none, 0, 0⟩ : Sl), .int .i64 0, Sl.v (⟨none, 0, 0⟩ : Sl), .int .i64 0, .int .i64 0, .int .i64 0, .int .i64 0, Sl.v (⟨none, 0, 0⟩ : Sl), Sl.v (⟨none, 0, 0⟩ : Sl), .int .i64 0] 39) fun x5_4 σ =>
 stN ⟨x5_4, 0, none⟩ (fun σ =>
  c_ref01_Reader_Num B ro (some ⟨x17_2, 0, none⟩) σ fun x22_5 σ =>
  stN ((⟨x5_4, 0, none⟩ : Addr).add 1) (fun σ =>
   c_ref01_Reader_Num B ro (some ⟨x17_2, 0, none⟩) σ fun x25_6 σ =>
   lfpD (l44_ref17_GetReply B ro x2_1 x5_4 x17_2 x25_6 Q ) (0) σ) [.int .i64 x22_5] 0 σ) [.int .i64 x19_3, .int .i64 0, Sl.v (⟨none, 0, 0⟩ : Sl), .int .i64 0, Sl.v (⟨none, 0, 0⟩ : Sl), .int .i64 0, .int .i64 0, .int .i64 0, .int .i64 0, Sl.v (⟨none, 0, 0⟩ : Sl), Sl.v (⟨none, 0, 0⟩ : Sl), .int .i64 0] 0 σ

set_option maxRecDepth 100000 in
set_option maxHeartbeats 4000000 in
theorem ref17_GetReply_ok {B : World} {ro : AH} {a0 : Sl} {σ : AH} {Q : Int → Int → Sl → Int → Sl → Int → Int → Int → Int → Sl → Sl → Int → Bool → AH → Prop} (h : Sep ro σ → f_ref17_GetReply B ro a0 σ Q) : c_ref17_GetReply B ro a0 σ Q := by
  refine ACalls.of_sep fun hsep => ?_
  replace h := h hsep
  refine ACalls.of_body (args := [Sl.v a0]) Tryz.func17 rfl (by rw [Tryz.ntmps17]; simp) ?_
  rw [Tryz.ntmps17]
  unfold f_ref17_GetReply at h
  refine AW.seq ?_
  refine AW.reg ?_
  refine Ls rfl rfl (X_new (A_alloc rfl ty39) fun x2_1 g1 g2 => ?_)
  replace h := h x2_1 g1 g2
  refine Lp (V_asg rfl rfl) rfl rfl ?_
  refine Lnil ?_
  refine thenN ?_
  refine AW.seq ?_
  refine AW.reg ?_
  refine Lp (V_move rfl rfl) rfl rfl ?_
  refine Lp (V_bld (vs := [(0, Sl.v a0)]) (cs := #[Sl.v a0, .int .i64 0, .int .i64 0]) rfl Tryz.underlying147 ty147 pl147 rfl rfl) rfl rfl ?_
  refine Ls rfl rfl (X_new (A_box rfl rfl) fun x17_2 g1 g2 => ?_)
  replace h := h x17_2 g1 g2
  refine Lp (V_asg rfl rfl) rfl rfl ?_
  refine Lnil ?_
  refine thenN ?_
  refine AW.seq ?_
  refine AW.reg ?_
  refine Lp (V_move rfl rfl) rfl rfl ?_
  refine Ls rfl rfl (X_call rfl Tryz.func59 rfl rfl rfl (ACalls.mono h ?_))
  rintro v σ ⟨x19_3, rfl, h⟩
  refine Lp (V_bld (vs := [(0, .int .i64 x19_3)]) (cs := #[.int .i64 x19_3, .int .i64 0, Sl.v (⟨none, 0, 0⟩ : Sl), .int .i64 0, Sl.v (⟨none, 0, 0⟩ : Sl), .int .i64 0, .int .i64 0, .int .i64 0, .int .i64 0, Sl.v (⟨none, 0, 0⟩ : Sl), Sl.v (⟨none, 0, 0⟩ : Sl), .int .i64 0]) rfl Tryz.underlying39 ty39 pl39 rfl (by kernel_rfl)) rfl rfl ?_
  refine Ls rfl rfl (X_new (A_alloc rfl ty39) fun x5_4 g1 g2 => ?_)
  replace h := h x5_4 g1 g2
  refine Ls rfl rfl (X_st rfl ty39 rfl rfl rfl rfl (stN_mono h fun σ h => ?_))
  refine Lnil ?_
  refine thenN ?_
  refine AW.seq ?_
  refine AW.reg ?_
  refine Lp (V_move rfl rfl) rfl rfl ?_
  refine Ls rfl rfl (X_call rfl Tryz.func59 rfl rfl rfl (ACalls.mono h ?_))
  rintro v σ ⟨x22_5, rfl, h⟩
  refine Lp (V_fld rfl Tryz.underlying39 rfl ty3 (by decide) rfl) rfl rfl ?_
  refine Ls rfl rfl (X_st rfl ty3 rfl rfl rfl rfl (stN_mono h fun σ h => ?_))
  refine Lnil ?_
  refine thenN ?_
  refine AW.seq ?_
  refine AW.reg ?_
  refine Lp (V_move rfl rfl) rfl rfl ?_
  refine Ls rfl rfl (X_call rfl Tryz.func59 rfl rfl rfl (ACalls.mono h ?_))
  rintro v σ ⟨x25_6, rfl, h⟩
  refine Lp (V_asg rfl rfl) rfl rfl ?_
  refine Lnil ?_
  refine thenN ?_
  refine AW.seqJ (fun fr σ => FrLe [(2, .pointer (some ⟨x2_1, 0, none⟩)), (4, .pointer (some ⟨x17_2, 0, none⟩)), (5, .pointer (some ⟨x5_4, 0, none⟩)), (6, .int .i64 x25_6)] fr ∧ j7_ref17_GetReply B ro x2_1 x5_4 x17_2 x25_6 Q σ) ?_ ?_
  rotate_left
  · refine AW.seq ?_
    refine AW.reg ?_
    refine Lp (V_asg rfl rfl) rfl rfl ?_
    refine Lnil ?_
    refine thenN ?_
    refine AW.block ?_
    refine ARound.loop (fr' := [(2, .pointer (some ⟨x2_1, 0, none⟩)), (4, .pointer (some ⟨x17_2, 0, none⟩)), (5, .pointer (some ⟨x5_4, 0, none⟩)), (6, .int .i64 x25_6), (7, .int .i64 0)]) ?_ (FrLe.cons rfl (FrLe.cons rfl (FrLe.cons rfl (FrLe.cons rfl (FrLe.cons rfl (FrLe.nil _))))))
    refine h (fun x7_45 σ => ARound _ _ _ _ _ _ [(2, .pointer (some ⟨x2_1, 0, none⟩)), (4, .pointer (some ⟨x17_2, 0, none⟩)), (5, .pointer (some ⟨x5_4, 0, none⟩)), (6, .int .i64 x25_6), (7, .int .i64 x7_45)] σ) ?_
    rintro x7_45 σ Y44 hY44 h
    show AW _ _ _ _ _ _ _ _
    unfold l44_ref17_GetReply at h
    refine AW.seq ?_
    refine AW.seq ?_
    refine AW.reg ?_
    refine Lp (V_move rfl rfl) rfl rfl ?_
    refine Lp (V_move rfl rfl) rfl rfl ?_
    refine Lp (V_lss rfl rfl rfl) rfl rfl ?_
    refine Lp (V_move rfl rfl) rfl rfl ?_
    refine Lsplit 3 (decide (x7_45 < x25_6)) [(2, .pointer (some ⟨x2_1, 0, none⟩)), (4, .pointer (some ⟨x17_2, 0, none⟩)), (5, .pointer (some ⟨x5_4, 0, none⟩)), (6, .int .i64 x25_6), (7, .int .i64 x7_45), (32, .bool ((decide (x7_45 < x25_6)) && (decide (x7_45 < 16))))] ?_ ?_ ?_
    · intro e3 hk3
      refine Lypb (V_move rfl rfl) rfl rfl rfl rfl e3 ?_
      refine Lypb (V_lss rfl rfl rfl) rfl rfl rfl rfl e3 ?_
      refine Lp (V_pickT rfl (evb e3) rfl) rfl rfl ?_
      exact hk3 _ (FrLe.cons rfl (FrLe.cons rfl (FrLe.cons rfl (FrLe.cons rfl (FrLe.cons rfl (FrLe.cons (by rw [e3]; rfl) (FrLe.nil _)))))))
    · intro e3 hk3
      refine Ln rfl rfl rfl rfl (.inl (by rw [e3]; rfl)) ?_
      refine Ln rfl rfl rfl rfl (.inl (by rw [e3]; rfl)) ?_
      refine Lp (V_pickF rfl (evb e3) rfl) rfl rfl ?_
      exact hk3 _ (FrLe.cons rfl (FrLe.cons rfl (FrLe.cons rfl (FrLe.cons rfl (FrLe.cons rfl (FrLe.cons (by rw [e3]; rfl) (FrLe.nil _)))))))
    intro fr hl
    refine Lfr hl ?_
    refine Lnil ?_
    refine thenN ?_
    refine AW.iff rfl (band_iff decide_eq_true_iff decide_eq_true_iff) h (fun h => ?_) (fun h => ?_)
    rotate_left
    · refine AW.exit ?_
      refine thenE ?_
      refine thenE ?_
      refine blockE ?_
      refine thenN ?_
      exact ⟨(FrLe.cons rfl (FrLe.cons rfl (FrLe.cons rfl (FrLe.cons rfl (FrLe.nil _))))), h⟩
    refine AW.skip ?_
    refine thenN ?_
    refine AW.seq ?_
    refine AW.block ?_
    refine AW.seq ?_
    refine AW.reg ?_
    refine Lp (V_move rfl rfl) rfl rfl ?_
    refine Ls rfl rfl (X_call rfl Tryz.func60 rfl rfl rfl (ACalls.mono h ?_))
    rintro v σ ⟨x36_46, rfl, h⟩
    refine Ls rfl rfl (X_cvt rfl rfl (awp_mono _ h ?_))
    rintro v σ ⟨x37_47, rfl, h⟩
    refine Lp (V_bld (vs := [(0, .string x37_47)]) (cs := #[.string x37_47, .int .i64 0]) rfl Tryz.underlying136 ty136 pl136 rfl rfl) rfl rfl ?_
    refine Ls rfl rfl (X_new (A_alloc rfl ty136) fun x8_48 g1 g2 => ?_)
    replace h := h x8_48 g1 g2
    refine Ls rfl rfl (X_st rfl ty136 rfl rfl rfl rfl (stN_mono h fun σ h => ?_))
    refine Lnil ?_
    refine thenN ?_
    refine AW.seq ?_
    refine AW.reg ?_
    refine Lp (V_move rfl rfl) rfl rfl ?_
    refine Ls rfl rfl (X_call rfl Tryz.func59 rfl rfl rfl (ACalls.mono h ?_))
    rintro v σ ⟨x40_49, rfl, h⟩
    refine Lp (V_fld rfl Tryz.underlying136 rfl ty3 (by decide) rfl) rfl rfl ?_
    refine Ls rfl rfl (X_st rfl ty3 rfl rfl rfl rfl (stN_mono h fun σ h => ?_))
    refine Lnil ?_
    refine thenN ?_
    refine AW.reg ?_
    refine Lp (V_fld rfl Tryz.underlying39 rfl ty35 (by decide) rfl) rfl rfl ?_
    obtain ⟨x43_50, hc, h⟩ := h
    refine Ls rfl rfl (X_ld rfl Tryz.underlying35 rfl rfl hc ?_)
    obtain ⟨x44_51a, x44_51b, hc, h⟩ := h
    refine Ls rfl rfl (X_lda rfl Tryz.underlying136 rfl ty136 rfl hc ?_)
    refine Ls rfl rfl (X_new (A_bsl (vs := [(0, .agg #[.string x44_51a, .int .i64 x44_51b])]) (cs := #[.string x44_51a, .int .i64 x44_51b]) rfl Tryz.underlying35 ty136 (by decide) rfl rfl) fun x45_52 g1 g2 => ?_)
    replace h := h x45_52 g1 g2
    refine Ls rfl rfl (X_bi (s := Builtin.append_ #[35, 35] 35 #[Sl.v x43_50, Sl.v (⟨some ⟨x45_52, 0, none⟩, 1, 1⟩ : Sl)]) rfl rfl (fun _ => rfl) (awp_mono _ h ?_))
    rintro v σ ⟨x46_53, rfl, h⟩
    refine Lp (V_fld rfl Tryz.underlying39 rfl ty35 (by decide) rfl) rfl rfl ?_
    refine Ls rfl rfl (X_st rfl ty35 rfl rfl rfl rfl (stN_mono h fun σ h => ?_))
    refine Lnil ?_
    refine blockN ?_
    refine thenN ?_
    refine AW.reg ?_
    refine Lp (V_move rfl rfl) rfl rfl ?_
    refine Lp (V_add rfl rfl rfl) rfl rfl ?_
    refine Lp (V_asg rfl rfl) rfl rfl ?_
    refine Lnil ?_
    refine thenN ?_
    refine ARound.head (fr' := [(2, .pointer (some ⟨x2_1, 0, none⟩)), (4, .pointer (some ⟨x17_2, 0, none⟩)), (5, .pointer (some ⟨x5_4, 0, none⟩)), (6, .int .i64 x25_6), (7, .int .i64 (IntKind.i64.wrap (x7_45 + 1)))]) ?_ (FrLe.cons rfl (FrLe.cons rfl (FrLe.cons rfl (FrLe.cons rfl (FrLe.cons rfl (FrLe.nil _))))))
    exact hY44 _ _ h
  rintro fr σ ⟨hl, h⟩
  refine AW.weaken ?_ hl (HLe.refl _)
  unfold j7_ref17_GetReply at h
  refine AW.seq ?_
  refine AW.reg ?_
  refine Lp (V_move rfl rfl) rfl rfl ?_
  refine Ls rfl rfl (X_call rfl Tryz.func59 rfl rfl rfl (ACalls.mono h ?_))
  rintro v σ ⟨x49_8, rfl, h⟩
  refine Lp (V_sub rfl rfl rfl) rfl rfl ?_
  refine Lp (V_fld rfl Tryz.underlying39 rfl ty3 (by decide) rfl) rfl rfl ?_
  refine Ls rfl rfl (X_st rfl ty3 rfl rfl rfl rfl (stN_mono h fun σ h => ?_))
  refine Lnil ?_
  refine thenN ?_
  refine AW.seq ?_
  refine AW.reg ?_
  refine Lp (V_move rfl rfl) rfl rfl ?_
  refine Ls rfl rfl (X_call rfl Tryz.func60 rfl rfl rfl (ACalls.mono h ?_))
  rintro v σ ⟨x53_9, rfl, h⟩
  refine Lp (V_fld rfl Tryz.underlying39 rfl ty24 (by decide) rfl) rfl rfl ?_
  refine Ls rfl rfl (X_st rfl ty24 rfl rfl rfl rfl (stN_mono h fun σ h => ?_))
  refine Lnil ?_
  refine thenN ?_
  refine AW.seqJ (fun fr σ => FrLe [(2, .pointer (some ⟨x2_1, 0, none⟩)), (4, .pointer (some ⟨x17_2, 0, none⟩)), (5, .pointer (some ⟨x5_4, 0, none⟩)), (6, .int .i64 x25_6)] fr ∧ j10_ref17_GetReply B ro x2_1 x5_4 x17_2 x25_6 Q σ) ?_ ?_
  rotate_left
  · refine AW.seq ?_
    refine AW.reg ?_
    refine Lp (V_asg rfl rfl) rfl rfl ?_
    refine Lnil ?_
    refine thenN ?_
    refine AW.block ?_
    refine ARound.loop (fr' := [(2, .pointer (some ⟨x2_1, 0, none⟩)), (4, .pointer (some ⟨x17_2, 0, none⟩)), (5, .pointer (some ⟨x5_4, 0, none⟩)), (6, .int .i64 x25_6), (9, .int .i64 0)]) ?_ (FrLe.cons rfl (FrLe.cons rfl (FrLe.cons rfl (FrLe.cons rfl (FrLe.cons rfl (FrLe.nil _))))))
    refine h (fun x9_42 σ => ARound _ _ _ _ _ _ [(2, .pointer (some ⟨x2_1, 0, none⟩)), (4, .pointer (some ⟨x17_2, 0, none⟩)), (5, .pointer (some ⟨x5_4, 0, none⟩)), (6, .int .i64 x25_6), (9, .int .i64 x9_42)] σ) ?_
    rintro x9_42 σ Y41 hY41 h
    show AW _ _ _ _ _ _ _ _
    unfold l41_ref17_GetReply at h
    refine AW.seq ?_
    refine AW.seq ?_
    refine AW.reg ?_
    refine Lp (V_move rfl rfl) rfl rfl ?_
    refine Lp (V_lss rfl rfl rfl) rfl rfl ?_
    refine Lnil ?_
    refine thenN ?_
    refine AW.iff rfl decide_eq_true_iff h (fun h => ?_) (fun h => ?_)
    rotate_left
    · refine AW.exit ?_
      refine thenE ?_
      refine thenE ?_
      refine blockE ?_
      refine thenN ?_
      exact ⟨(FrLe.cons rfl (FrLe.cons rfl (FrLe.cons rfl (FrLe.cons rfl (FrLe.nil _))))), h⟩
    refine AW.skip ?_
    refine thenN ?_
    refine AW.seq ?_
    refine AW.block ?_
    refine AW.reg ?_
    refine Lp (V_move rfl rfl) rfl rfl ?_
    refine Lp (V_move rfl rfl) rfl rfl ?_
    refine Ls rfl rfl (X_call rfl Tryz.func59 rfl rfl rfl (ACalls.mono h ?_))
    rintro v σ ⟨x61_43, rfl, h⟩
    refine Lp (V_fld rfl Tryz.underlying39 rfl ty36 (by decide) rfl) rfl rfl ?_
    obtain ⟨⟨h0, h1⟩, h⟩ := h
    refine Lp (V_ixP rfl Tryz.underlying36 ty3 rfl rfl h0 (by omega)) rfl rfl ?_
    refine Ls rfl rfl (X_st rfl ty3 rfl rfl rfl rfl (stN_mono h fun σ h => ?_))
    refine Lnil ?_
    refine blockN ?_
    refine thenN ?_
    refine AW.reg ?_
    refine Lp (V_move rfl rfl) rfl rfl ?_
    refine Lp (V_add rfl rfl rfl) rfl rfl ?_
    refine Lp (V_asg rfl rfl) rfl rfl ?_
    refine Lnil ?_
    refine thenN ?_
    refine ARound.head (fr' := [(2, .pointer (some ⟨x2_1, 0, none⟩)), (4, .pointer (some ⟨x17_2, 0, none⟩)), (5, .pointer (some ⟨x5_4, 0, none⟩)), (6, .int .i64 x25_6), (9, .int .i64 (IntKind.i64.wrap (x9_42 + 1)))]) ?_ (FrLe.cons rfl (FrLe.cons rfl (FrLe.cons rfl (FrLe.cons rfl (FrLe.cons rfl (FrLe.nil _))))))
    exact hY41 _ _ h
  rintro fr σ ⟨hl, h⟩
  refine AW.weaken ?_ hl (HLe.refl _)
  unfold j10_ref17_GetReply at h
  refine AW.seq ?_
  refine AW.reg ?_
  refine Lp (V_move rfl rfl) rfl rfl ?_
  refine Ls rfl rfl (X_call rfl Tryz.func59 rfl rfl rfl (ACalls.mono h ?_))
  rintro v σ ⟨x65_11, rfl, h⟩
  refine Lp (V_asg rfl rfl) rfl rfl ?_
  refine Lnil ?_
  refine thenN ?_
  refine AW.seqJ (fun fr σ => FrLe [(2, .pointer (some ⟨x2_1, 0, none⟩)), (4, .pointer (some ⟨x17_2, 0, none⟩)), (5, .pointer (some ⟨x5_4, 0, none⟩)), (6, .int .i64 x25_6), (10, .int .i64 x65_11)] fr ∧ j12_ref17_GetReply B ro x2_1 x5_4 x17_2 x25_6 x65_11 Q σ) ?_ ?_
  rotate_left
  · refine AW.seq ?_
    refine AW.reg ?_
    refine Lp (V_asg rfl rfl) rfl rfl ?_
    refine Lnil ?_
    refine thenN ?_
    refine AW.block ?_
    refine ARound.loop (fr' := [(2, .pointer (some ⟨x2_1, 0, none⟩)), (4, .pointer (some ⟨x17_2, 0, none⟩)), (5, .pointer (some ⟨x5_4, 0, none⟩)), (6, .int .i64 x25_6), (10, .int .i64 x65_11), (11, .int .i64 0)]) ?_ (FrLe.cons rfl (FrLe.cons rfl (FrLe.cons rfl (FrLe.cons rfl (FrLe.cons rfl (FrLe.cons rfl (FrLe.nil _)))))))
    refine h (fun x11_35 σ => ARound _ _ _ _ _ _ [(2, .pointer (some ⟨x2_1, 0, none⟩)), (4, .pointer (some ⟨x17_2, 0, none⟩)), (5, .pointer (some ⟨x5_4, 0, none⟩)), (6, .int .i64 x25_6), (10, .int .i64 x65_11), (11, .int .i64 x11_35)] σ) ?_
    rintro x11_35 σ Y34 hY34 h
    show AW _ _ _ _ _ _ _ _
    unfold l34_ref17_GetReply at h
    refine AW.seq ?_
    refine AW.seq ?_
    refine AW.reg ?_
    refine Lp (V_move rfl rfl) rfl rfl ?_
    refine Lp (V_move rfl rfl) rfl rfl ?_
    refine Lp (V_lss rfl rfl rfl) rfl rfl ?_
    refine Lp (V_move rfl rfl) rfl rfl ?_
    refine Lsplit 3 (decide (x11_35 < x65_11)) [(2, .pointer (some ⟨x2_1, 0, none⟩)), (4, .pointer (some ⟨x17_2, 0, none⟩)), (5, .pointer (some ⟨x5_4, 0, none⟩)), (6, .int .i64 x25_6), (10, .int .i64 x65_11), (11, .int .i64 x11_35), (72, .bool ((decide (x11_35 < x65_11)) && (decide (x11_35 < 4096))))] ?_ ?_ ?_
    · intro e3 hk3
      refine Lypb (V_move rfl rfl) rfl rfl rfl rfl e3 ?_
      refine Lypb (V_lss rfl rfl rfl) rfl rfl rfl rfl e3 ?_
      refine Lp (V_pickT rfl (evb e3) rfl) rfl rfl ?_
      exact hk3 _ (FrLe.cons rfl (FrLe.cons rfl (FrLe.cons rfl (FrLe.cons rfl (FrLe.cons rfl (FrLe.cons rfl (FrLe.cons (by rw [e3]; rfl) (FrLe.nil _))))))))
    · intro e3 hk3
      refine Ln rfl rfl rfl rfl (.inl (by rw [e3]; rfl)) ?_
      refine Ln rfl rfl rfl rfl (.inl (by rw [e3]; rfl)) ?_
      refine Lp (V_pickF rfl (evb e3) rfl) rfl rfl ?_
      exact hk3 _ (FrLe.cons rfl (FrLe.cons rfl (FrLe.cons rfl (FrLe.cons rfl (FrLe.cons rfl (FrLe.cons rfl (FrLe.cons (by rw [e3]; rfl) (FrLe.nil _))))))))
    intro fr hl
    refine Lfr hl ?_
    refine Lnil ?_
    refine thenN ?_
    refine AW.iff rfl (band_iff decide_eq_true_iff decide_eq_true_iff) h (fun h => ?_) (fun h => ?_)
    rotate_left
    · refine AW.exit ?_
      refine thenE ?_
      refine thenE ?_
      refine blockE ?_
      refine thenN ?_
      exact ⟨(FrLe.cons rfl (FrLe.cons rfl (FrLe.cons rfl (FrLe.cons rfl (FrLe.cons rfl (FrLe.nil _)))))), h⟩
    refine AW.skip ?_
    refine thenN ?_
    refine AW.seq ?_
    refine AW.block ?_
    refine AW.drawn2 (fun i => ([0, 0, 0, 2, 2, 1, 2, 0, 2] : List Nat).getD i 2) [(0, 1), (0, 6), (2, 3), (2, 4), (2, 5), (2, 6), (4, 5), (4, 6)] [0, 1, 2, 3, 4, 5] [6, 7, 8] Tryz.mixed h (by decide +kernel) ?_
    clear h
    intro ψ σ h
    refine Dp rfl rfl rfl rfl (V_fld rfl Tryz.underlying39 rfl ty27 (by decide) rfl) ?_
    obtain ⟨x76_36, hc, h⟩ := h
    refine Dp rfl rfl rfl rfl (V_ld rfl Tryz.underlying27 rfl rfl hc) ?_
    refine Dp rfl rfl rfl rfl (V_move rfl rfl) ?_
    refine Dg rfl rfl rfl rfl (X_call rfl Tryz.func60 rfl rfl rfl (ACalls.mono h ?_))
    rintro v σ ⟨x78_37, rfl, h⟩
    refine Dg rfl rfl rfl rfl (X_cvt rfl rfl (awp_mono _ h ?_))
    rintro v σ ⟨x79_38, rfl, h⟩
    refine Da rfl rfl rfl rfl (A_bsl (vs := [(0, .string x79_38)]) (cs := #[.string x79_38]) rfl Tryz.underlying27 ty9 (by decide) rfl rfl) fun x80_39 g1 g2 => ?_
    replace h := h x80_39 g1 g2
    refine ⟨_, FrEq.refl _, fun hdj => ?_⟩
    replace h := h hdj
    refine Dg rfl rfl rfl rfl (X_bi (s := Builtin.append_ #[27, 27] 27 #[Sl.v x76_36, Sl.v (⟨some ⟨x80_39, 0, none⟩, 1, 1⟩ : Sl)]) rfl rfl (fun _ => rfl) (awp_mono _ h ?_))
    rintro v σ ⟨x81_40, rfl, h⟩
    refine Dp rfl rfl rfl rfl (V_fld rfl Tryz.underlying39 rfl ty27 (by decide) rfl) ?_
    refine Dg rfl rfl rfl rfl (X_st rfl ty27 rfl rfl rfl rfl (stN_mono h fun σ h => ?_))
    refine Dend ?_
    refine blockN ?_
    refine thenN ?_
    refine AW.reg ?_
    refine Lp (V_move rfl rfl) rfl rfl ?_
    refine Lp (V_add rfl rfl rfl) rfl rfl ?_
    refine Lp (V_asg rfl rfl) rfl rfl ?_
    refine Lnil ?_
    refine thenN ?_
    refine ARound.head (fr' := [(2, .pointer (some ⟨x2_1, 0, none⟩)), (4, .pointer (some ⟨x17_2, 0, none⟩)), (5, .pointer (some ⟨x5_4, 0, none⟩)), (6, .int .i64 x25_6), (10, .int .i64 x65_11), (11, .int .i64 (IntKind.i64.wrap (x11_35 + 1)))]) ?_ (FrLe.cons rfl (FrLe.cons rfl (FrLe.cons rfl (FrLe.cons rfl (FrLe.cons rfl (FrLe.cons rfl (FrLe.nil _)))))))
    exact hY34 _ _ h
  rintro fr σ ⟨hl, h⟩
  refine AW.weaken ?_ hl (HLe.refl _)
  unfold j12_ref17_GetReply at h
  refine AW.seq ?_
  refine AW.reg ?_
  refine Lp (V_move rfl rfl) rfl rfl ?_
  refine Ls rfl rfl (X_call rfl Tryz.func59 rfl rfl rfl (ACalls.mono h ?_))
  rintro v σ ⟨x84_13, rfl, h⟩
  refine Lp (V_asg rfl rfl) rfl rfl ?_
  refine Lnil ?_
  refine thenN ?_
  refine AW.seqJ (fun fr σ => FrLe [(2, .pointer (some ⟨x2_1, 0, none⟩)), (4, .pointer (some ⟨x17_2, 0, none⟩)), (5, .pointer (some ⟨x5_4, 0, none⟩)), (6, .int .i64 x25_6), (10, .int .i64 x65_11), (12, .int .i64 x84_13)] fr ∧ j14_ref17_GetReply B ro x2_1 x5_4 x17_2 x25_6 x65_11 x84_13 Q σ) ?_ ?_
  rotate_left
  · refine AW.seq ?_
    refine AW.reg ?_
    refine Lp (V_asg rfl rfl) rfl rfl ?_
    refine Lnil ?_
    refine thenN ?_
    refine AW.block ?_
    refine ARound.loop (fr' := [(2, .pointer (some ⟨x2_1, 0, none⟩)), (4, .pointer (some ⟨x17_2, 0, none⟩)), (5, .pointer (some ⟨x5_4, 0, none⟩)), (6, .int .i64 x25_6), (10, .int .i64 x65_11), (12, .int .i64 x84_13), (13, .int .i64 0)]) ?_ (FrLe.cons rfl (FrLe.cons rfl (FrLe.cons rfl (FrLe.cons rfl (FrLe.cons rfl (FrLe.cons rfl (FrLe.cons rfl (FrLe.nil _))))))))
    refine h (fun x13_24 σ => ARound _ _ _ _ _ _ [(2, .pointer (some ⟨x2_1, 0, none⟩)), (4, .pointer (some ⟨x17_2, 0, none⟩)), (5, .pointer (some ⟨x5_4, 0, none⟩)), (6, .int .i64 x25_6), (10, .int .i64 x65_11), (12, .int .i64 x84_13), (13, .int .i64 x13_24)] σ) ?_
    rintro x13_24 σ Y23 hY23 h
    show AW _ _ _ _ _ _ _ _
    unfold l23_ref17_GetReply at h
    refine AW.seq ?_
    refine AW.seq ?_
    refine AW.reg ?_
    refine Lp (V_move rfl rfl) rfl rfl ?_
    refine Lp (V_move rfl rfl) rfl rfl ?_
    refine Lp (V_lss rfl rfl rfl) rfl rfl ?_
    refine Lp (V_move rfl rfl) rfl rfl ?_
    refine Lsplit 3 (decide (x13_24 < x84_13)) [(2, .pointer (some ⟨x2_1, 0, none⟩)), (4, .pointer (some ⟨x17_2, 0, none⟩)), (5, .pointer (some ⟨x5_4, 0, none⟩)), (6, .int .i64 x25_6), (10, .int .i64 x65_11), (12, .int .i64 x84_13), (13, .int .i64 x13_24), (91, .bool ((decide (x13_24 < x84_13)) && (decide (x13_24 < 32))))] ?_ ?_ ?_
    · intro e3 hk3
      refine Lypb (V_move rfl rfl) rfl rfl rfl rfl e3 ?_
      refine Lypb (V_lss rfl rfl rfl) rfl rfl rfl rfl e3 ?_
      refine Lp (V_pickT rfl (evb e3) rfl) rfl rfl ?_
      exact hk3 _ (FrLe.cons rfl (FrLe.cons rfl (FrLe.cons rfl (FrLe.cons rfl (FrLe.cons rfl (FrLe.cons rfl (FrLe.cons rfl (FrLe.cons (by rw [e3]; rfl) (FrLe.nil _)))))))))
    · intro e3 hk3
      refine Ln rfl rfl rfl rfl (.inl (by rw [e3]; rfl)) ?_
      refine Ln rfl rfl rfl rfl (.inl (by rw [e3]; rfl)) ?_
      refine Lp (V_pickF rfl (evb e3) rfl) rfl rfl ?_
      exact hk3 _ (FrLe.cons rfl (FrLe.cons rfl (FrLe.cons rfl (FrLe.cons rfl (FrLe.cons rfl (FrLe.cons rfl (FrLe.cons rfl (FrLe.cons (by rw [e3]; rfl) (FrLe.nil _)))))))))
    intro fr hl
    refine Lfr hl ?_
    refine Lnil ?_
    refine thenN ?_
    refine AW.iff rfl (band_iff decide_eq_true_iff decide_eq_true_iff) h (fun h => ?_) (fun h => ?_)
    rotate_left
    · refine AW.exit ?_
      refine thenE ?_
      refine thenE ?_
      refine blockE ?_
      refine thenN ?_
      exact ⟨(FrLe.cons rfl (FrLe.cons rfl (FrLe.cons rfl (FrLe.cons rfl (FrLe.cons rfl (FrLe.cons rfl (FrLe.nil _))))))), h⟩
    refine AW.skip ?_
    refine thenN ?_
    refine AW.seq ?_
    refine AW.block ?_
    refine AW.seq ?_
    refine AW.reg ?_
    refine Lp (V_move rfl rfl) rfl rfl ?_
    refine Ls rfl rfl (X_call rfl Tryz.func59 rfl rfl rfl (ACalls.mono h ?_))
    rintro v σ ⟨x95_25, rfl, h⟩
    refine Lp (V_bld (vs := [(0, .int .i64 x95_25)]) (cs := #[.int .i64 x95_25, .int .i64 0, .string ByteArray.empty]) rfl Tryz.underlying139 ty139 pl139 rfl rfl) rfl rfl ?_
    refine Ls rfl rfl (X_new (A_alloc rfl ty139) fun x14_26 g1 g2 => ?_)
    replace h := h x14_26 g1 g2
    refine Ls rfl rfl (X_st rfl ty139 rfl rfl rfl rfl (stN_mono h fun σ h => ?_))
    refine Lnil ?_
    refine thenN ?_
    refine AW.seq ?_
    refine AW.reg ?_
    refine Lp (V_move rfl rfl) rfl rfl ?_
    refine Ls rfl rfl (X_call rfl Tryz.func59 rfl rfl rfl (ACalls.mono h ?_))
    rintro v σ ⟨x98_27, rfl, h⟩
    refine Lp (V_fld rfl Tryz.underlying139 rfl ty3 (by decide) rfl) rfl rfl ?_
    refine Ls rfl rfl (X_st rfl ty3 rfl rfl rfl rfl (stN_mono h fun σ h => ?_))
    refine Lnil ?_
    refine thenN ?_
    refine AW.seq ?_
    refine AW.reg ?_
    refine Lp (V_move rfl rfl) rfl rfl ?_
    refine Ls rfl rfl (X_call rfl Tryz.func60 rfl rfl rfl (ACalls.mono h ?_))
    rintro v σ ⟨x101_28, rfl, h⟩
    refine Ls rfl rfl (X_cvt rfl rfl (awp_mono _ h ?_))
    rintro v σ ⟨x102_29, rfl, h⟩
    refine Lp (V_fld rfl Tryz.underlying139 rfl ty9 (by decide) rfl) rfl rfl ?_
    refine Ls rfl rfl (X_st rfl ty9 rfl rfl rfl rfl (stN_mono h fun σ h => ?_))
    refine Lnil ?_
    refine thenN ?_
    refine AW.reg ?_
    refine Lp (V_fld rfl Tryz.underlying39 rfl ty37 (by decide) rfl) rfl rfl ?_
    obtain ⟨x105_30, hc, h⟩ := h
    refine Ls rfl rfl (X_ld rfl Tryz.underlying37 rfl rfl hc ?_)
    obtain ⟨x106_31a, x106_31b, x106_31c, hc, h⟩ := h
    refine Ls rfl rfl (X_lda rfl Tryz.underlying139 rfl ty139 rfl hc ?_)
    refine Ls rfl rfl (X_new (A_bsl (vs := [(0, .agg #[.int .i64 x106_31a, .int .i64 x106_31b, .string x106_31c])]) (cs := #[.int .i64 x106_31a, .int .i64 x106_31b, .string x106_31c]) rfl Tryz.underlying37 ty139 (by decide) rfl rfl) fun x107_32 g1 g2 => ?_)
    replace h := h x107_32 g1 g2
    refine Ls rfl rfl (X_bi (s := Builtin.append_ #[37, 37] 37 #[Sl.v x105_30, Sl.v (⟨some ⟨x107_32, 0, none⟩, 1, 1⟩ : Sl)]) rfl rfl (fun _ => rfl) (awp_mono _ h ?_))
    rintro v σ ⟨x108_33, rfl, h⟩
    refine Lp (V_fld rfl Tryz.underlying39 rfl ty37 (by decide) rfl) rfl rfl ?_
    refine Ls rfl rfl (X_st rfl ty37 rfl rfl rfl rfl (stN_mono h fun σ h => ?_))
    refine Lnil ?_
    refine blockN ?_
    refine thenN ?_
    refine AW.reg ?_
    refine Lp (V_move rfl rfl) rfl rfl ?_
    refine Lp (V_add rfl rfl rfl) rfl rfl ?_
    refine Lp (V_asg rfl rfl) rfl rfl ?_
    refine Lnil ?_
    refine thenN ?_
    refine ARound.head (fr' := [(2, .pointer (some ⟨x2_1, 0, none⟩)), (4, .pointer (some ⟨x17_2, 0, none⟩)), (5, .pointer (some ⟨x5_4, 0, none⟩)), (6, .int .i64 x25_6), (10, .int .i64 x65_11), (12, .int .i64 x84_13), (13, .int .i64 (IntKind.i64.wrap (x13_24 + 1)))]) ?_ (FrLe.cons rfl (FrLe.cons rfl (FrLe.cons rfl (FrLe.cons rfl (FrLe.cons rfl (FrLe.cons rfl (FrLe.cons rfl (FrLe.nil _))))))))
    exact hY23 _ _ h
  rintro fr σ ⟨hl, h⟩
  refine AW.weaken ?_ hl (HLe.refl _)
  unfold j14_ref17_GetReply at h
  refine AW.seq ?_
  refine AW.reg ?_
  refine Lp (V_move rfl rfl) rfl rfl ?_
  refine Ls rfl rfl (X_call rfl Tryz.func59 rfl rfl rfl (ACalls.mono h ?_))
  rintro v σ ⟨x111_15, rfl, h⟩
  refine Lp (V_fld rfl Tryz.underlying39 rfl ty3 (by decide) rfl) rfl rfl ?_
  refine Ls rfl rfl (X_st rfl ty3 rfl rfl rfl rfl (stN_mono h fun σ h => ?_))
  refine Lnil ?_
  refine thenN ?_
  refine AW.seq ?_
  refine AW.seq ?_
  refine AW.reg ?_
  refine Lp (V_move rfl rfl) rfl rfl ?_
  refine Lp (V_nil rfl rfl) rfl rfl ?_
  refine Lp (V_fld rfl Tryz.underlying147 rfl ty3 (by decide) rfl) rfl rfl ?_
  obtain ⟨x116_16, hc, h⟩ := h
  refine Ls rfl rfl (X_ld rfl Tryz.underlying3 rfl rfl hc ?_)
  refine Lp (V_neq rfl rfl rfl) rfl rfl ?_
  refine Lp (V_move rfl rfl) rfl rfl ?_
  refine LsplitJ 4 (!(decide (x116_16 = 0))) (bnot_iff decide_eq_true_iff) h (fun fr σ => ∃ (x122_18 : Bool), FrLe [(2, .pointer (some ⟨x2_1, 0, none⟩)), (5, .pointer (some ⟨x5_4, 0, none⟩)), (6, .int .i64 x25_6), (10, .int .i64 x65_11), (12, .int .i64 x84_13), (122, .bool x122_18)] fr ∧ j17_ref17_GetReply B ro x2_1 x5_4 x25_6 x65_11 x84_13 Q x122_18 σ) ?_ ?_ ?_
  · intro h e5 hk5
    refine Ln rfl rfl rfl rfl (.inl (by rw [e5]; rfl)) ?_
    refine Ln rfl rfl rfl rfl (.inl (by rw [e5]; rfl)) ?_
    refine Ln rfl rfl rfl rfl (.inl (by rw [e5]; rfl)) ?_
    refine Lp (V_pickT rfl (evb e5) rfl) rfl rfl ?_
    exact hk5 _ _ ⟨_, (FrLe.cons rfl (FrLe.cons rfl (FrLe.cons rfl (FrLe.cons rfl (FrLe.cons rfl (FrLe.cons rfl (FrLe.nil _))))))), h⟩
  · intro h e5 hk5
    refine Lypb (V_move rfl rfl) rfl rfl rfl rfl e5 ?_
    refine Lyb rfl rfl rfl rfl e5 (X_call rfl Tryz.func61 rfl rfl rfl (ACalls.mono h ?_))
    rintro v σ ⟨x120_22, rfl, h⟩
    refine Lypb (V_neq rfl rfl rfl) rfl rfl rfl rfl e5 ?_
    refine Lp (V_pickF rfl (evb e5) rfl) rfl rfl ?_
    exact hk5 _ _ ⟨_, (FrLe.cons rfl (FrLe.cons rfl (FrLe.cons rfl (FrLe.cons rfl (FrLe.cons rfl (FrLe.cons rfl (FrLe.nil _))))))), h⟩
  rintro fr σ ⟨x122_18, hl, h⟩
  unfold j17_ref17_GetReply at h
  refine Lfr hl ?_
  refine Lp (V_move rfl rfl) rfl rfl ?_
  refine Lsplit 3 x122_18 [(2, .pointer (some ⟨x2_1, 0, none⟩)), (5, .pointer (some ⟨x5_4, 0, none⟩)), (10, .int .i64 x65_11), (12, .int .i64 x84_13), (126, .bool (x122_18 || (decide (16 < x25_6))))] ?_ ?_ ?_
  · intro e10 hk10
    refine Ln rfl rfl rfl rfl (.inl (by rw [e10]; rfl)) ?_
    refine Ln rfl rfl rfl rfl (.inl (by rw [e10]; rfl)) ?_
    refine Lp (V_pickT rfl (evb e10) rfl) rfl rfl ?_
    exact hk10 _ (FrLe.cons rfl (FrLe.cons rfl (FrLe.cons rfl (FrLe.cons rfl (FrLe.cons (by rw [e10]; rfl) (FrLe.nil _))))))
  · intro e10 hk10
    refine Lypb (V_move rfl rfl) rfl rfl rfl rfl e10 ?_
    refine Lypb (V_gtr rfl rfl rfl) rfl rfl rfl rfl e10 ?_
    refine Lp (V_pickF rfl (evb e10) rfl) rfl rfl ?_
    exact hk10 _ (FrLe.cons rfl (FrLe.cons rfl (FrLe.cons rfl (FrLe.cons rfl (FrLe.cons (by rw [e10]; rfl) (FrLe.nil _))))))
  intro fr hl
  refine Lfr hl ?_
  refine Lp (V_move rfl rfl) rfl rfl ?_
  refine Lsplit 3 (x122_18 || (decide (16 < x25_6))) [(2, .pointer (some ⟨x2_1, 0, none⟩)), (5, .pointer (some ⟨x5_4, 0, none⟩)), (12, .int .i64 x84_13), (130, .bool ((x122_18 || (decide (16 < x25_6))) || (decide (4096 < x65_11))))] ?_ ?_ ?_
  · intro e14 hk14
    refine Ln rfl rfl rfl rfl (.inl (by rw [e14]; rfl)) ?_
    refine Ln rfl rfl rfl rfl (.inl (by rw [e14]; rfl)) ?_
    refine Lp (V_pickT rfl (evb e14) rfl) rfl rfl ?_
    exact hk14 _ (FrLe.cons rfl (FrLe.cons rfl (FrLe.cons rfl (FrLe.cons (by rw [e14]; rfl) (FrLe.nil _)))))
  · intro e14 hk14
    refine Lypb (V_move rfl rfl) rfl rfl rfl rfl e14 ?_
    refine Lypb (V_gtr rfl rfl rfl) rfl rfl rfl rfl e14 ?_
    refine Lp (V_pickF rfl (evb e14) rfl) rfl rfl ?_
    exact hk14 _ (FrLe.cons rfl (FrLe.cons rfl (FrLe.cons rfl (FrLe.cons (by rw [e14]; rfl) (FrLe.nil _)))))
  intro fr hl
  refine Lfr hl ?_
  refine Lp (V_move rfl rfl) rfl rfl ?_
  refine Lsplit 3 ((x122_18 || (decide (16 < x25_6))) || (decide (4096 < x65_11))) [(2, .pointer (some ⟨x2_1, 0, none⟩)), (5, .pointer (some ⟨x5_4, 0, none⟩)), (134, .bool (((x122_18 || (decide (16 < x25_6))) || (decide (4096 < x65_11))) || (decide (32 < x84_13))))] ?_ ?_ ?_
  · intro e18 hk18
    refine Ln rfl rfl rfl rfl (.inl (by rw [e18]; rfl)) ?_
    refine Ln rfl rfl rfl rfl (.inl (by rw [e18]; rfl)) ?_
    refine Lp (V_pickT rfl (evb e18) rfl) rfl rfl ?_
    exact hk18 _ (FrLe.cons rfl (FrLe.cons rfl (FrLe.cons (by rw [e18]; rfl) (FrLe.nil _))))
  · intro e18 hk18
    refine Lypb (V_move rfl rfl) rfl rfl rfl rfl e18 ?_
    refine Lypb (V_gtr rfl rfl rfl) rfl rfl rfl rfl e18 ?_
    refine Lp (V_pickF rfl (evb e18) rfl) rfl rfl ?_
    exact hk18 _ (FrLe.cons rfl (FrLe.cons rfl (FrLe.cons (by rw [e18]; rfl) (FrLe.nil _))))
  intro fr hl
  refine Lfr hl ?_
  refine Lnil ?_
  refine thenN ?_
  refine AW.iff rfl (bor_iff (bor_iff (bor_iff Iff.rfl decide_eq_true_iff) decide_eq_true_iff) decide_eq_true_iff) h (fun h => ?_) (fun h => ?_)
  rotate_left
  · refine AW.skip ?_
    refine thenN ?_
    refine AW.seq ?_
    refine AW.reg ?_
    obtain ⟨x136_20a, x136_20b, x136_20c, x136_20d, x136_20e, x136_20f, x136_20g, x136_20h, x136_20i, x136_20j, x136_20k, x136_20l, hc, h⟩ := h
    refine Ls rfl rfl (X_lda rfl Tryz.underlying39 rfl ty39 rfl hc ?_)
    refine Ls rfl rfl (X_st rfl ty39 rfl rfl rfl rfl (stN_mono h fun σ h => ?_))
    refine Lp (V_asg rfl rfl) rfl rfl ?_
    refine Lnil ?_
    refine thenN ?_
    refine AW.ret ?_
    obtain ⟨x2_21a, x2_21b, x2_21c, x2_21d, x2_21e, x2_21f, x2_21g, x2_21h, x2_21i, x2_21j, x2_21k, x2_21l, hc0, h⟩ := h
    exact bRM Tryz.results17 (rCons (rAgg rfl Tryz.underlying39 rfl ty39 hc0) (rCons (rTmp rfl) rNil)) ⟨_, _, _, _, _, _, _, _, _, _, _, _, _, rfl, h⟩
  refine AW.seq ?_
  refine AW.reg ?_
  refine Lp (V_bld (vs := []) (cs := #[.int .i64 0, .int .i64 0, Sl.v (⟨none, 0, 0⟩ : Sl), .int .i64 0, Sl.v (⟨none, 0, 0⟩ : Sl), .int .i64 0, .int .i64 0, .int .i64 0, .int .i64 0, Sl.v (⟨none, 0, 0⟩ : Sl), Sl.v (⟨none, 0, 0⟩ : Sl), .int .i64 0]) rfl Tryz.underlying39 ty39 pl39 rfl (by kernel_rfl)) rfl rfl ?_
  refine Ls rfl rfl (X_st rfl ty39 rfl rfl rfl rfl (stN_mono h fun σ h => ?_))
  refine Lp (V_asg rfl rfl) rfl rfl ?_
  refine Lnil ?_
  refine thenN ?_
  refine AW.ret ?_
  refine thenR ?_
  obtain ⟨x2_19a, x2_19b, x2_19c, x2_19d, x2_19e, x2_19f, x2_19g, x2_19h, x2_19i, x2_19j, x2_19k, x2_19l, hc0, h⟩ := h
  exact bRM Tryz.results17 (rCons (rAgg rfl Tryz.underlying39 rfl ty39 hc0) (rCons (rTmp rfl) rNil)) ⟨_, _, _, _, _, _, _, _, _, _, _, _, _, rfl, h⟩

def j9_ref17_Same (B : World) (ro : AH) (Q : Bool → AH → Prop) (x27_10 : Bool) (σ : AH) : Prop :=
 Q x27_10 σ

def f_ref17_Same (B : World) (ro : AH) (a0_0 : Int) (a0_1 : Int) (a0_2 : Sl) (a0_3 : Int) (a0_4 : Sl) (a0_5 : Int) (a0_6 : Int) (a0_7 : Int) (a0_8 : Int) (a0_9 : Sl) (a0_10 : Sl) (a0_11 : Int) (a1_0 : Int) (a1_1 : Int) (a1_2 : Sl) (a1_3 : Int) (a1_4 : Sl) (a1_5 : Int) (a1_6 : Int) (a1_7 : Int) (a1_8 : Int) (a1_9 : Sl) (a1_10 : Sl) (a1_11 : Int) (σ : AH) (Q : Bool → AH → Prop) : Prop :=
 nw ro σ (.cells #[.int .i64 a0_0, .int .i64 a0_1, Sl.v a0_2, .int .i64 a0_3, Sl.v a0_4, .int .i64 a0_5, .int .i64 a0_6, .int .i64 a0_7, .int .i64 a0_8, Sl.v a0_9, Sl.v a0_10, .int .i64 a0_11] 39) fun x2_1 σ =>
 nw ro σ (.cells #[.int .i64 a1_0, .int .i64 a1_1, Sl.v a1_2, .int .i64 a1_3, Sl.v a1_4, .int .i64 a1_5, .int .i64 a1_6, .int .i64 a1_7, .int .i64 a1_8, Sl.v a1_9, Sl.v a1_10, .int .i64 a1_11] 39) fun x3_2 σ =>
 ∃ (x10_3a : Int) (x10_3b : Int) (x10_3c : Sl) (x10_3d : Int) (x10_3e : Sl) (x10_3f : Int) (x10_3g : Int) (x10_3h : Int) (x10_3i : Int) (x10_3j : Sl) (x10_3k : Sl) (x10_3l : Int), cellsAt ro σ ⟨x2_1, 0, none⟩ 0 [.int .i64 x10_3a, .int .i64 x10_3b, Sl.v x10_3c, .int .i64 x10_3d, Sl.v x10_3e, .int .i64 x10_3f, .int .i64 x10_3g, .int .i64 x10_3h, .int .i64 x10_3i, Sl.v x10_3j, Sl.v x10_3k, .int .i64 x10_3l] ∧
 c_ref17_PutReply B ro x10_3a x10_3b x10_3c x10_3d x10_3e x10_3f x10_3g x10_3h x10_3i x10_3j x10_3k x10_3l σ fun x11_4 x11_5 σ =>
 ∃ (x15_6a : Int) (x15_6b : Int) (x15_6c : Sl) (x15_6d : Int) (x15_6e : Sl) (x15_6f : Int) (x15_6g : Int) (x15_6h : Int) (x15_6i : Int) (x15_6j : Sl) (x15_6k : Sl) (x15_6l : Int), cellsAt ro σ ⟨x3_2, 0, none⟩ 0 [.int .i64 x15_6a, .int .i64 x15_6b, Sl.v x15_6c, .int .i64 x15_6d, Sl.v x15_6e, .int .i64 x15_6f, .int .i64 x15_6g, .int .i64 x15_6h, .int .i64 x15_6i, Sl.v x15_6j, Sl.v x15_6k, .int .i64 x15_6l] ∧
 c_ref17_PutReply B ro x15_6a x15_6b x15_6c x15_6d x15_6e x15_6f x15_6g x15_6h x15_6i x15_6j x15_6k x15_6l σ fun x16_7 x16_8 σ =>
 if (x11_5 = true) ∧ (x16_8 = true) then
  c_ref01_Same B ro x11_4 x16_7 σ fun x26_11 σ =>
  j9_ref17_Same B ro Q x26_11 σ
 else
 j9_ref17_Same B ro Q false σ

set_option maxRecDepth 100000 in
set_option maxHeartbeats 4000000 in
theorem ref17_Same_ok {B : World} {ro : AH} {a0_0 : Int} {a0_1 : Int} {a0_2 : Sl} {a0_3 : Int} {a0_4 : Sl} {a0_5 : Int} {a0_6 : Int} {a0_7 : Int} {a0_8 : Int} {a0_9 : Sl} {a0_10 : Sl} {a0_11 : Int} {a1_0 : Int} {a1_1 : Int} {a1_2 : Sl} {a1_3 : Int} {a1_4 : Sl} {a1_5 : Int} {a1_6 : Int} {a1_7 : Int} {a1_8 : Int} {a1_9 : Sl} {a1_10 : Sl} {a1_11 : Int} {σ : AH} {Q : Bool → AH → Prop} (h : Sep ro σ → f_ref17_Same B ro a0_0 a0_1 a0_2 a0_3 a0_4 a0_5 a0_6 a0_7 a0_8 a0_9 a0_10 a0_11 a1_0 a1_1 a1_2 a1_3 a1_4 a1_5 a1_6 a1_7 a1_8 a1_9 a1_10 a1_11 σ Q) : c_ref17_Same B ro a0_0 a0_1 a0_2 a0_3 a0_4 a0_5 a0_6 a0_7 a0_8 a0_9 a0_10 a0_11 a1_0 a1_1 a1_2 a1_3 a1_4 a1_5 a1_6 a1_7 a1_8 a1_9 a1_10 a1_11 σ Q := by
  refine ACalls.of_sep fun hsep => ?_
  replace h := h hsep
  refine ACalls.of_body (args := [.agg #[.int .i64 a0_0, .int .i64 a0_1, Sl.v a0_2, .int .i64 a0_3, Sl.v a0_4, .int .i64 a0_5, .int .i64 a0_6, .int .i64 a0_7, .int .i64 a0_8, Sl.v a0_9, Sl.v a0_10, .int .i64 a0_11], .agg #[.int .i64 a1_0, .int .i64 a1_1, Sl.v a1_2, .int .i64 a1_3, Sl.v a1_4, .int .i64 a1_5, .int .i64 a1_6, .int .i64 a1_7, .int .i64 a1_8, Sl.v a1_9, Sl.v a1_10, .int .i64 a1_11]]) Tryz.func19 rfl (by rw [Tryz.ntmps19]; simp) ?_
  rw [Tryz.ntmps19]
  unfold f_ref17_Same at h
  refine AW.seq ?_
  refine AW.reg ?_
  refine Ls rfl rfl (X_new (A_box rfl rfl) fun x2_1 g1 g2 => ?_)
  replace h := h x2_1 g1 g2
  refine Ls rfl rfl (X_new (A_box rfl rfl) fun x3_2 g1 g2 => ?_)
  replace h := h x3_2 g1 g2
  refine Lp (V_asg rfl rfl) rfl rfl ?_
  refine Lnil ?_
  refine thenN ?_
  refine AW.seq ?_
  refine AW.reg ?_
  obtain ⟨x10_3a, x10_3b, x10_3c, x10_3d, x10_3e, x10_3f, x10_3g, x10_3h, x10_3i, x10_3j, x10_3k, x10_3l, hc, h⟩ := h
  refine Ls rfl rfl (X_lda rfl Tryz.underlying39 rfl ty39 rfl hc ?_)
  refine Ls rfl rfl (X_call rfl Tryz.func13 rfl rfl rfl (ACalls.mono h ?_))
  rintro v σ ⟨x11_4, x11_5, rfl, h⟩
  refine Lp (V_move rfl rfl) rfl rfl ?_
  refine Lp (V_ext rfl rfl rfl) rfl rfl ?_
  refine Lp (V_ext rfl rfl rfl) rfl rfl ?_
  refine Lp (V_asg rfl rfl) rfl rfl ?_
  refine Lp (V_asg rfl rfl) rfl rfl ?_
  refine Lnil ?_
  refine thenN ?_
  refine AW.seq ?_
  refine AW.reg ?_
  obtain ⟨x15_6a, x15_6b, x15_6c, x15_6d, x15_6e, x15_6f, x15_6g, x15_6h, x15_6i, x15_6j, x15_6k, x15_6l, hc, h⟩ := h
  refine Ls rfl rfl (X_lda rfl Tryz.underlying39 rfl ty39 rfl hc ?_)
  refine Ls rfl rfl (X_call rfl Tryz.func13 rfl rfl rfl (ACalls.mono h ?_))
  rintro v σ ⟨x16_7, x16_8, rfl, h⟩
  refine Lp (V_move rfl rfl) rfl rfl ?_
  refine Lp (V_ext rfl rfl rfl) rfl rfl ?_
  refine Lp (V_ext rfl rfl rfl) rfl rfl ?_
  refine Lp (V_asg rfl rfl) rfl rfl ?_
  refine Lp (V_asg rfl rfl) rfl rfl ?_
  refine Lnil ?_
  refine thenN ?_
  refine AW.seq ?_
  refine AW.reg ?_
  refine Lp (V_move rfl rfl) rfl rfl ?_
  refine Lp (V_move rfl rfl) rfl rfl ?_
  refine Lsplit 2 x11_5 [(5, Sl.v x11_4), (7, Sl.v x16_7), (22, .bool (x11_5 && x16_8))] ?_ ?_ ?_
  · intro e1 hk1
    refine Lypb (V_move rfl rfl) rfl rfl rfl rfl e1 ?_
    refine Lp (V_pickT rfl (evb e1) rfl) rfl rfl ?_
    exact hk1 _ (FrLe.cons rfl (FrLe.cons rfl (FrLe.cons (by rw [e1]; rfl) (FrLe.nil _))))
  · intro e1 hk1
    refine Ln rfl rfl rfl rfl (.inl (by rw [e1]; rfl)) ?_
    refine Lp (V_pickF rfl (evb e1) rfl) rfl rfl ?_
    exact hk1 _ (FrLe.cons rfl (FrLe.cons rfl (FrLe.cons (by rw [e1]; rfl) (FrLe.nil _))))
  intro fr hl
  refine Lfr hl ?_
  refine Lp (V_move rfl rfl) rfl rfl ?_
  refine LsplitJ 4 (x11_5 && x16_8) (band_iff Iff.rfl Iff.rfl) h (fun fr σ => ∃ (x27_10 : Bool), FrLe [(27, .bool x27_10)] fr ∧ j9_ref17_Same B ro Q x27_10 σ) ?_ ?_ ?_
  · intro h e4 hk4
    refine Lypb (V_move rfl rfl) rfl rfl rfl rfl e4 ?_
    refine Lypb (V_move rfl rfl) rfl rfl rfl rfl e4 ?_
    refine Lyb rfl rfl rfl rfl e4 (X_call rfl Tryz.func18 rfl rfl rfl (ACalls.mono h ?_))
    rintro v σ ⟨x26_11, rfl, h⟩
    refine Lp (V_pickT rfl (evb e4) rfl) rfl rfl ?_
    exact hk4 _ _ ⟨_, (FrLe.cons rfl (FrLe.nil _)), h⟩
  · intro h e4 hk4
    refine Ln rfl rfl rfl rfl (.inl (by rw [e4]; rfl)) ?_
    refine Ln rfl rfl rfl rfl (.inl (by rw [e4]; rfl)) ?_
    refine Ln rfl rfl rfl rfl (.inl (by rw [e4]; rfl)) ?_
    refine Lp (V_pickF rfl (evb e4) rfl) rfl rfl ?_
    exact hk4 _ _ ⟨_, (FrLe.cons rfl (FrLe.nil _)), h⟩
  rintro fr σ ⟨x27_10, hl, h⟩
  unfold j9_ref17_Same at h
  refine Lfr hl ?_
  refine Lp (V_asg rfl rfl) rfl rfl ?_
  refine Lnil ?_
  refine thenN ?_
  refine AW.ret ?_
  exact bR1 Tryz.results19 rfl ⟨_, rfl, h⟩

def j1_ref17_bad (B : World) (ro : AH) (Q : Bool → AH → Prop) (σ : AH) : Prop :=
 Q false σ

def l2_ref17_bad (B : World) (ro : AH) (a0 : Sl) (Q : Bool → AH → Prop) : (Int) → AH → ((Int) → AH → Prop) → Prop := fun x3_3 σ Y2 =>
 if x3_3 < (a0.len : Int) then
  ∃ p12_4 : Addr, a0.a = some p12_4 ∧ (0 : Int) ≤ x3_3 ∧ x3_3 < (a0.len : Int) ∧
  ∃ (x13_5 : Int), acell ro σ (p12_4.add (Int.toNat x3_3 * 1)) = some (.int .i64 x13_5) ∧
  c_ref01_Bad B ro x13_5 σ fun x14_6 σ =>
  if x14_6 = true then
   Q true σ
  else
  Y2 (IntKind.i64.wrap (x3_3 + 1)) σ
 else
 j1_ref17_bad B ro Q σ

def f_ref17_bad (B : World) (ro : AH) (a0 : Sl) (σ : AH) (Q : Bool → AH → Prop) : Prop :=
 lfpD (l2_ref17_bad B ro a0 Q ) (0) σ

set_option maxRecDepth 100000 in
set_option maxHeartbeats 4000000 in
theorem ref17_bad_ok {B : World} {ro : AH} {a0 : Sl} {σ : AH} {Q : Bool → AH → Prop} (h : Sep ro σ → f_ref17_bad B ro a0 σ Q) : c_ref17_bad B ro a0 σ Q := by
  refine ACalls.of_sep fun hsep => ?_
  replace h := h hsep
  refine ACalls.of_body (args := [Sl.v a0]) Tryz.func48 rfl (by rw [Tryz.ntmps48]; simp) ?_
  rw [Tryz.ntmps48]
  unfold f_ref17_bad at h
  refine AW.seq ?_
  refine AW.reg ?_
  refine Lp (V_asg rfl rfl) rfl rfl ?_
  refine Lnil ?_
  refine thenN ?_
  refine AW.seqJ (fun fr σ => FrLe [] fr ∧ j1_ref17_bad B ro Q σ) ?_ ?_
  · rintro fr σ ⟨hl, h⟩
    refine AW.weaken ?_ hl (HLe.refl _)
    unfold j1_ref17_bad at h
    refine AW.seq ?_
    refine AW.reg ?_
    refine Lp (V_asg rfl rfl) rfl rfl ?_
    refine Lnil ?_
    refine thenN ?_
    refine AW.ret ?_
    exact bR1 Tryz.results48 rfl ⟨_, rfl, h⟩
  refine AW.seq ?_
  refine AW.reg ?_
  refine Lp (V_asg rfl rfl) rfl rfl ?_
  refine Lnil ?_
  refine thenN ?_
  refine AW.block ?_
  refine ARound.loop (fr' := [(0, Sl.v a0), (3, .int .i64 0)]) ?_ (FrLe.cons rfl (FrLe.cons rfl (FrLe.nil _)))
  refine h (fun x3_3 σ => ARound _ _ _ _ _ _ [(0, Sl.v a0), (3, .int .i64 x3_3)] σ) ?_
  rintro x3_3 σ Y2 hY2 h
  show AW _ _ _ _ _ _ _ _
  unfold l2_ref17_bad at h
  refine AW.seq ?_
  refine AW.seq ?_
  refine AW.reg ?_
  refine Lp (V_move rfl rfl) rfl rfl ?_
  refine Lp (V_move rfl rfl) rfl rfl ?_
  refine Lp (V_lenL rfl rfl Tryz.underlying55 rfl rfl) rfl rfl ?_
  refine Lp (V_lss rfl rfl rfl) rfl rfl ?_
  refine Lnil ?_
  refine thenN ?_
  refine AW.iff rfl decide_eq_true_iff h (fun h => ?_) (fun h => ?_)
  rotate_left
  · refine AW.exit ?_
    refine thenE ?_
    refine thenE ?_
    refine blockE ?_
    refine thenN ?_
    exact ⟨(FrLe.nil _), h⟩
  refine AW.skip ?_
  refine thenN ?_
  refine AW.seq ?_
  refine AW.block ?_
  refine AW.seq ?_
  refine AW.reg ?_
  refine Lp (V_move rfl rfl) rfl rfl ?_
  refine Lp (V_move rfl rfl) rfl rfl ?_
  obtain ⟨p12_4, ha, h0, h1, h⟩ := h
  refine Lp (V_ixA rfl Tryz.underlying55 ty3 (ixL rfl ha) rfl h0 h1) rfl rfl ?_
  obtain ⟨x13_5, hc, h⟩ := h
  refine Ls rfl rfl (X_ld rfl Tryz.underlying3 rfl rfl hc ?_)
  refine Ls rfl rfl (X_call rfl Tryz.func118 rfl rfl rfl (ACalls.mono h ?_))
  rintro v σ ⟨x14_6, rfl, h⟩
  refine Lnil ?_
  refine thenN ?_
  refine AW.iff rfl Iff.rfl h (fun h => ?_) (fun h => ?_)
  · refine AW.seq ?_
    refine AW.reg ?_
    refine Lp (V_asg rfl rfl) rfl rfl ?_
    refine Lnil ?_
    refine thenN ?_
    refine AW.ret ?_
    refine blockR ?_
    refine thenR ?_
    refine thenR ?_
    refine blockR ?_
    refine thenR ?_
    exact bR1 Tryz.results48 rfl ⟨_, rfl, h⟩
  refine AW.skip ?_
  refine blockN ?_
  refine thenN ?_
  refine AW.reg ?_
  refine Lp (V_move rfl rfl) rfl rfl ?_
  refine Lp (V_add rfl rfl rfl) rfl rfl ?_
  refine Lp (V_asg rfl rfl) rfl rfl ?_
  refine Lnil ?_
  refine thenN ?_
  refine ARound.head (fr' := [(0, Sl.v a0), (3, .int .i64 (IntKind.i64.wrap (x3_3 + 1)))]) ?_ (FrLe.cons rfl (FrLe.cons rfl (FrLe.nil _)))
  exact hY2 _ _ h

def j2_ref17_nums (B : World) (ro : AH) (Q : Sl → AH → Prop) (x3_3 : Sl) (σ : AH) : Prop :=
 Q x3_3 σ

def l4_ref17_nums (B : World) (ro : AH) (a0 : Sl) (Q : Sl → AH → Prop) : (Sl × Int) → AH → ((Sl × Int) → AH → Prop) → Prop := fun ⟨x3_5, x4_6⟩ σ Y4 =>
 if x4_6 < (a0.len : Int) then
  ∃ p15_7 : Addr, a0.a = some p15_7 ∧ (0 : Int) ≤ x4_6 ∧ x4_6 < (a0.len : Int) ∧
  ∃ (x16_8 : Int), acell ro σ (p15_7.add (Int.toNat x4_6 * 1)) = some (.int .i64 x16_8) ∧
  c_ref01_Put B ro x16_8 σ fun x17_9 σ =>
  awp Tryz.prog ro (Builtin.append_ #[24, 24] 24 #[Sl.v x3_5, Sl.v x17_9]) (fun v σ => ∃ (x18_10 : Sl), v = Sl.v x18_10 ∧
   Y4 (x18_10, IntKind.i64.wrap (x4_6 + 1)) σ) σ
 else
 j2_ref17_nums B ro Q x3_5 σ

def f_ref17_nums (B : World) (ro : AH) (a0 : Sl) (σ : AH) (Q : Sl → AH → Prop) : Prop :=
 nw ro σ (.cells #[] 5) fun x5_1 σ =>
 lfpD (l4_ref17_nums B ro a0 Q ) ((⟨some ⟨x5_1, 0, none⟩, 0, 0⟩ : Sl), 0) σ

set_option maxRecDepth 100000 in
set_option maxHeartbeats 4000000 in
theorem ref17_nums_ok {B : World} {ro : AH} {a0 : Sl} {σ : AH} {Q : Sl → AH → Prop} (h : Sep ro σ → f_ref17_nums B ro a0 σ Q) : c_ref17_nums B ro a0 σ Q := by
  refine ACalls.of_sep fun hsep => ?_
  replace h := h hsep
  refine ACalls.of_body (args := [Sl.v a0]) Tryz.func49 rfl (by rw [Tryz.ntmps49]; simp) ?_
  rw [Tryz.ntmps49]
  unfold f_ref17_nums at h
  refine AW.seq ?_
  refine AW.reg ?_
  refine Lp (V_asg rfl rfl) rfl rfl ?_
  refine Lnil ?_
  refine thenN ?_
  refine AW.seq ?_
  refine AW.reg ?_
  refine Ls rfl rfl (X_new (A_bsl (vs := []) (cs := #[]) rfl Tryz.underlying24 ty5 (by decide) rfl rfl) fun x5_1 g1 g2 => ?_)
  replace h := h x5_1 g1 g2
  refine Lp (V_asg rfl rfl) rfl rfl ?_
  refine Lnil ?_
  refine thenN ?_
  refine AW.seqJ (fun fr σ => ∃ (x3_3 : Sl), FrLe [(3, Sl.v x3_3)] fr ∧ j2_ref17_nums B ro Q x3_3 σ) ?_ ?_
  · rintro fr σ ⟨x3_3, hl, h⟩
    refine AW.weaken ?_ hl (HLe.refl _)
    unfold j2_ref17_nums at h
    refine AW.seq ?_
    refine AW.reg ?_
    refine Lp (V_move rfl rfl) rfl rfl ?_
    refine Lp (V_asg rfl rfl) rfl rfl ?_
    refine Lnil ?_
    refine thenN ?_
    refine AW.ret ?_
    exact bR1 Tryz.results49 rfl ⟨_, rfl, h⟩
  refine AW.seq ?_
  refine AW.reg ?_
  refine Lp (V_asg rfl rfl) rfl rfl ?_
  refine Lnil ?_
  refine thenN ?_
  refine AW.block ?_
  refine ARound.loop (fr' := [(0, Sl.v a0), (3, Sl.v (⟨some ⟨x5_1, 0, none⟩, 0, 0⟩ : Sl)), (4, .int .i64 0)]) ?_ (FrLe.cons rfl (FrLe.cons rfl (FrLe.cons rfl (FrLe.nil _))))
  refine h (fun ⟨x3_5, x4_6⟩ σ => ARound _ _ _ _ _ _ [(0, Sl.v a0), (3, Sl.v x3_5), (4, .int .i64 x4_6)] σ) ?_
  rintro ⟨x3_5, x4_6⟩ σ Y4 hY4 h
  show AW _ _ _ _ _ _ _ _
  unfold l4_ref17_nums at h
  dsimp only at h
  refine AW.seq ?_
  refine AW.seq ?_
  refine AW.reg ?_
  refine Lp (V_move rfl rfl) rfl rfl ?_
  refine Lp (V_move rfl rfl) rfl rfl ?_
  refine Lp (V_lenL rfl rfl Tryz.underlying55 rfl rfl) rfl rfl ?_
  refine Lp (V_lss rfl rfl rfl) rfl rfl ?_
  refine Lnil ?_
  refine thenN ?_
  refine AW.iff rfl decide_eq_true_iff h (fun h => ?_) (fun h => ?_)
  rotate_left
  · refine AW.exit ?_
    refine thenE ?_
    refine thenE ?_
    refine blockE ?_
    refine thenN ?_
    exact ⟨_, (FrLe.cons rfl (FrLe.nil _)), h⟩
  refine AW.skip ?_
  refine thenN ?_
  refine AW.seq ?_
  refine AW.block ?_
  refine AW.reg ?_
  refine Lp (V_move rfl rfl) rfl rfl ?_
  refine Lp (V_move rfl rfl) rfl rfl ?_
  refine Lp (V_move rfl rfl) rfl rfl ?_
  obtain ⟨p15_7, ha, h0, h1, h⟩ := h
  refine Lp (V_ixA rfl Tryz.underlying55 ty3 (ixL rfl ha) rfl h0 h1) rfl rfl ?_
  obtain ⟨x16_8, hc, h⟩ := h
  refine Ls rfl rfl (X_ld rfl Tryz.underlying3 rfl rfl hc ?_)
  refine Ls rfl rfl (X_call rfl Tryz.func52 rfl rfl rfl (ACalls.mono h ?_))
  rintro v σ ⟨x17_9, rfl, h⟩
  refine Ls rfl rfl (X_bi (s := Builtin.append_ #[24, 24] 24 #[Sl.v x3_5, Sl.v x17_9]) rfl rfl (fun _ => rfl) (awp_mono _ h ?_))
  rintro v σ ⟨x18_10, rfl, h⟩
  refine Lp (V_asg rfl rfl) rfl rfl ?_
  refine Lnil ?_
  refine blockN ?_
  refine thenN ?_
  refine AW.reg ?_
  refine Lp (V_move rfl rfl) rfl rfl ?_
  refine Lp (V_add rfl rfl rfl) rfl rfl ?_
  refine Lp (V_asg rfl rfl) rfl rfl ?_
  refine Lnil ?_
  refine thenN ?_
  refine ARound.head (fr' := [(0, Sl.v a0), (3, Sl.v x18_10), (4, .int .i64 (IntKind.i64.wrap (x4_6 + 1)))]) ?_ (FrLe.cons rfl (FrLe.cons rfl (FrLe.cons rfl (FrLe.nil _))))
  exact hY4 _ _ h

end Go.Proofs.YtomdigihapdhnaaGreatDoor.G
