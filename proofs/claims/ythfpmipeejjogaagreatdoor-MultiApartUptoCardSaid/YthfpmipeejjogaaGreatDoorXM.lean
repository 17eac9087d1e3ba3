/- GL8, MuG, MuH, MuE84, MuI, MuL -/
import Derived.Test.YthfpmipeejjogaaGreatDoorXL
/- Functions as predicate transformers, and the proofs that the code does what they tell: printed by wip/tools/gen.py. -/
namespace Go.Proofs.YthfpmipeejjogaaGreatDoor.G
open Go Go.Proofs.YthfpmipeejjogaaGreatDoor.SL
set_option linter.unusedVariables false
set_option linter.unusedSimpArgs false

def j12_law08_MultiApart (B : World) (ro : AH) (Q : Bool → AH → Prop) (x48_13 : Bool) (σ : AH) : Prop :=
 Q x48_13 σ

def j58_law08_MultiApart (B : World) (ro : AH) (Q : Bool → AH → Prop) (x183_59 : Bool) (σ : AH) : Prop :=
 Q x183_59 σ

def j56_law08_MultiApart (B : World) (ro : AH) (Q : Bool → AH → Prop) (x180_57 : Bool) (σ : AH) : Prop :=
 if x180_57 = true then
  c_law08_awake B ro σ fun x182_60 σ =>
  j58_law08_MultiApart B ro Q x182_60 σ
 else
 j58_law08_MultiApart B ro Q false σ

def j54_law08_MultiApart (B : World) (ro : AH) (x28_8 : Option Addr) (x30_9 : Option Addr) (Q : Bool → AH → Prop) (x173_55 : Bool) (σ : AH) : Prop :=
 if x173_55 = true then
  c_ztree_Tree_Encode B ro x28_8 σ fun x176_61 σ =>
  c_ztree_Tree_Encode B ro x30_9 σ fun x178_62 σ =>
  c_ref01_Same B ro x176_61 x178_62 σ fun x179_63 σ =>
  j56_law08_MultiApart B ro Q x179_63 σ
 else
 j56_law08_MultiApart B ro Q false σ

def j52_law08_MultiApart (B : World) (ro : AH) (x13_31 : Nat) (x15_39 : Nat) (x28_8 : Option Addr) (x30_9 : Option Addr) (Q : Bool → AH → Prop) (x164_53 : Bool) (σ : AH) : Prop :=
 if x164_53 = true then
  ∃ (x167_64 : Sl), acell ro σ ⟨x13_31, 0, none⟩ = some (Sl.v x167_64) ∧
  ∃ (x170_65 : Sl), acell ro σ ⟨x15_39, 0, none⟩ = some (Sl.v x170_65) ∧
  j54_law08_MultiApart B ro x28_8 x30_9 Q (decide ((x167_64.len : Int) = (x170_65.len : Int))) σ
 else
 j54_law08_MultiApart B ro x28_8 x30_9 Q false σ

def j50_law08_MultiApart (B : World) (ro : AH) (x11_23 : Nat) (x13_31 : Nat) (x15_39 : Nat) (x17_47 : Nat) (x28_8 : Option Addr) (x30_9 : Option Addr) (Q : Bool → AH → Prop) (x155_51 : Bool) (σ : AH) : Prop :=
 if x155_51 = true then
  ∃ (x158_66 : Sl), acell ro σ ⟨x11_23, 0, none⟩ = some (Sl.v x158_66) ∧
  ∃ (x161_67 : Sl), acell ro σ ⟨x17_47, 0, none⟩ = some (Sl.v x161_67) ∧
  j52_law08_MultiApart B ro x13_31 x15_39 x28_8 x30_9 Q (decide ((x158_66.len : Int) = (x161_67.len : Int))) σ
 else
 j52_law08_MultiApart B ro x13_31 x15_39 x28_8 x30_9 Q false σ

def j48_law08_MultiApart (B : World) (ro : AH) (x11_23 : Nat) (x13_31 : Nat) (x15_39 : Nat) (x17_47 : Nat) (x28_8 : Option Addr) (x30_9 : Option Addr) (Q : Bool → AH → Prop) (x148_49 : Bool) (σ : AH) : Prop :=
 if x148_49 = true then
  ∃ (x151_68 : Int), acell ro σ ((⟨x13_31, 0, none⟩ : Addr).add 2) = some (.int .i64 x151_68) ∧
  ∃ (x153_69 : Int), acell ro σ ((⟨x15_39, 0, none⟩ : Addr).add 2) = some (.int .i64 x153_69) ∧
  j50_law08_MultiApart B ro x11_23 x13_31 x15_39 x17_47 x28_8 x30_9 Q (decide (x151_68 = x153_69)) σ
 else
 j50_law08_MultiApart B ro x11_23 x13_31 x15_39 x17_47 x28_8 x30_9 Q false σ

def j15_law08_MultiApart (B : World) (ro : AH) (x5_6 : Nat) (x6_7 : Nat) (x28_8 : Option Addr) (x30_9 : Option Addr) (Q : Bool → AH → Prop) (σ : AH) : Prop :=
 lent σ fun ψ σ =>
  ∃ (x81_16 : ByteArray), acell (join ro ψ) (fun _ => none) ⟨x5_6, 0, none⟩ = some (.string x81_16) ∧
  ∃ (x83_17 : Int), acell (join ro ψ) (fun _ => none) ((⟨x5_6, 0, none⟩ : Addr).add 1) = some (.int .i64 x83_17) ∧
  ∃ (x85_18a : Int) (x85_18b : Int), cellsAt (join ro ψ) (fun _ => none) ((⟨x5_6, 0, none⟩ : Addr).add 2) 0 [.int .i64 x85_18a, .int .i64 x85_18b] ∧
  ∃ (x87_19 : Sl), acell (join ro ψ) σ ((⟨x5_6, 0, none⟩ : Addr).add 4) = some (Sl.v x87_19) ∧
  c_law08_copied B (join ro ψ) x87_19 σ fun x88_20 σ =>
  c_multi_Apply B (join ro ψ) x28_8 x81_16 x83_17 x85_18a x85_18b x88_20 σ fun x89_21a x89_21b x89_21c x89_22 σ =>
  nw (join ro ψ) σ (.cells #[Sl.v (⟨none, 0, 0⟩ : Sl), Sl.v (⟨none, 0, 0⟩ : Sl), .int .i64 0] 77) fun x11_23 σ =>
  stN ⟨x11_23, 0, none⟩ (fun σ =>
   (Disj ψ σ → (fun σ => 
    lent σ fun ψ σ =>
     ∃ (x95_24 : ByteArray), acell (join ro ψ) (fun _ => none) ⟨x6_7, 0, none⟩ = some (.string x95_24) ∧
     ∃ (x97_25 : Int), acell (join ro ψ) (fun _ => none) ((⟨x6_7, 0, none⟩ : Addr).add 1) = some (.int .i64 x97_25) ∧
     ∃ (x99_26a : Int) (x99_26b : Int), cellsAt (join ro ψ) (fun _ => none) ((⟨x6_7, 0, none⟩ : Addr).add 2) 0 [.int .i64 x99_26a, .int .i64 x99_26b] ∧
     ∃ (x101_27 : Sl), acell (join ro ψ) σ ((⟨x6_7, 0, none⟩ : Addr).add 4) = some (Sl.v x101_27) ∧
     c_law08_copied B (join ro ψ) x101_27 σ fun x102_28 σ =>
     c_multi_Apply B (join ro ψ) x28_8 x95_24 x97_25 x99_26a x99_26b x102_28 σ fun x103_29a x103_29b x103_29c x103_30 σ =>
     nw (join ro ψ) σ (.cells #[Sl.v (⟨none, 0, 0⟩ : Sl), Sl.v (⟨none, 0, 0⟩ : Sl), .int .i64 0] 77) fun x13_31 σ =>
     stN ⟨x13_31, 0, none⟩ (fun σ =>
      (Disj ψ σ → (fun σ => 
       lent σ fun ψ σ =>
        ∃ (x109_32 : ByteArray), acell (join ro ψ) (fun _ => none) ⟨x6_7, 0, none⟩ = some (.string x109_32) ∧
        ∃ (x111_33 : Int), acell (join ro ψ) (fun _ => none) ((⟨x6_7, 0, none⟩ : Addr).add 1) = some (.int .i64 x111_33) ∧
        ∃ (x113_34a : Int) (x113_34b : Int), cellsAt (join ro ψ) (fun _ => none) ((⟨x6_7, 0, none⟩ : Addr).add 2) 0 [.int .i64 x113_34a, .int .i64 x113_34b] ∧
        ∃ (x115_35 : Sl), acell (join ro ψ) σ ((⟨x6_7, 0, none⟩ : Addr).add 4) = some (Sl.v x115_35) ∧
        c_law08_copied B (join ro ψ) x115_35 σ fun x116_36 σ =>
        c_multi_Apply B (join ro ψ) x30_9 x109_32 x111_33 x113_34a x113_34b x116_36 σ fun x117_37a x117_37b x117_37c x117_38 σ =>
        nw (join ro ψ) σ (.cells #[Sl.v (⟨none, 0, 0⟩ : Sl), Sl.v (⟨none, 0, 0⟩ : Sl), .int .i64 0] 77) fun x15_39 σ =>
        stN ⟨x15_39, 0, none⟩ (fun σ =>
         (Disj ψ σ → (fun σ => 
          lent σ fun ψ σ =>
           ∃ (x123_40 : ByteArray), acell (join ro ψ) (fun _ => none) ⟨x5_6, 0, none⟩ = some (.string x123_40) ∧
           ∃ (x125_41 : Int), acell (join ro ψ) (fun _ => none) ((⟨x5_6, 0, none⟩ : Addr).add 1) = some (.int .i64 x125_41) ∧
           ∃ (x127_42a : Int) (x127_42b : Int), cellsAt (join ro ψ) (fun _ => none) ((⟨x5_6, 0, none⟩ : Addr).add 2) 0 [.int .i64 x127_42a, .int .i64 x127_42b] ∧
           ∃ (x129_43 : Sl), acell (join ro ψ) σ ((⟨x5_6, 0, none⟩ : Addr).add 4) = some (Sl.v x129_43) ∧
           c_law08_copied B (join ro ψ) x129_43 σ fun x130_44 σ =>
           c_multi_Apply B (join ro ψ) x30_9 x123_40 x125_41 x127_42a x127_42b x130_44 σ fun x131_45a x131_45b x131_45c x131_46 σ =>
           nw (join ro ψ) σ (.cells #[Sl.v (⟨none, 0, 0⟩ : Sl), Sl.v (⟨none, 0, 0⟩ : Sl), .int .i64 0] 77) fun x17_47 σ =>
           stN ⟨x17_47, 0, none⟩ (fun σ =>
            (Disj ψ σ → (fun σ => 
             if (x89_22 = x131_46) ∧ (x103_30 = x117_38) then
              ∃ (x144_70 : Int), acell ro σ ((⟨x11_23, 0, none⟩ : Addr).add 2) = some (.int .i64 x144_70) ∧
              ∃ (x146_71 : Int), acell ro σ ((⟨x17_47, 0, none⟩ : Addr).add 2) = some (.int .i64 x146_71) ∧
              j48_law08_MultiApart B ro x11_23 x13_31 x15_39 x17_47 x28_8 x30_9 Q (decide (x144_70 = x146_71)) σ
             else
             j48_law08_MultiApart B ro x11_23 x13_31 x15_39 x17_47 x28_8 x30_9 Q false σ) (join ψ σ))) [Sl.v x131_45a, Sl.v x131_45b, .int .i64 x131_45c] 0 σ) (join ψ σ))) [Sl.v x117_37a, Sl.v x117_37b, .int .i64 x117_37c] 0 σ) (join ψ σ))) [Sl.v x103_29a, Sl.v x103_29b, .int .i64 x103_29c] 0 σ) (join ψ σ))) [Sl.v x89_21a, Sl.v x89_21b, .int .i64 x89_21c] 0 σ

def l72_law08_MultiApart (B : World) (ro : AH) (x5_6 : Nat) (x6_7 : Nat) (x22_4 : Sl) (x28_8 : Option Addr) (x30_9 : Option Addr) (Q : Bool → AH → Prop) : (Int) → AH → ((Int) → AH → Prop) → Prop := fun x51_73 σ Y72 =>
 if x51_73 < (x22_4.len : Int) then
  ∃ p53_74 : Addr, x22_4.a = some p53_74 ∧ (0 : Int) ≤ x51_73 ∧ x51_73 < (x22_4.len : Int) ∧
  ∃ (x54_75a : ByteArray) (x54_75b : Int) (x54_75c : Int) (x54_75d : Int) (x54_75e : Sl) (x54_75f : Bool), cellsAt ro σ (p53_74.add (Int.toNat x51_73 * 6)) 0 [.string x54_75a, .int .i64 x54_75b, .int .i64 x54_75c, .int .i64 x54_75d, Sl.v x54_75e, .bool x54_75f] ∧
  nw ro σ (.cells #[.string ByteArray.empty, .int .i64 0, .int .i64 0, .int .i64 0, Sl.v (⟨none, 0, 0⟩ : Sl), .bool false] 72) fun x10_76 σ =>
  stN ⟨x10_76, 0, none⟩ (fun σ =>
   lent σ fun ψ σ =>
    ∃ (x57_77 : ByteArray), acell (join ro ψ) (fun _ => none) ⟨x10_76, 0, none⟩ = some (.string x57_77) ∧
    ∃ (x59_78 : Int), acell (join ro ψ) (fun _ => none) ((⟨x10_76, 0, none⟩ : Addr).add 1) = some (.int .i64 x59_78) ∧
    ∃ (x61_79a : Int) (x61_79b : Int), cellsAt (join ro ψ) (fun _ => none) ((⟨x10_76, 0, none⟩ : Addr).add 2) 0 [.int .i64 x61_79a, .int .i64 x61_79b] ∧
    ∃ (x63_80 : Sl), acell (join ro ψ) σ ((⟨x10_76, 0, none⟩ : Addr).add 4) = some (Sl.v x63_80) ∧
    c_law08_copied B (join ro ψ) x63_80 σ fun x64_81 σ =>
    c_multi_Apply B (join ro ψ) x28_8 x57_77 x59_78 x61_79a x61_79b x64_81 σ fun x65_82a x65_82b x65_82c x65_83 σ =>
    (Disj ψ σ → (fun σ => 
     lent σ fun ψ σ =>
      ∃ (x68_84 : ByteArray), acell (join ro ψ) (fun _ => none) ⟨x10_76, 0, none⟩ = some (.string x68_84) ∧
      ∃ (x70_85 : Int), acell (join ro ψ) (fun _ => none) ((⟨x10_76, 0, none⟩ : Addr).add 1) = some (.int .i64 x70_85) ∧
      ∃ (x72_86a : Int) (x72_86b : Int), cellsAt (join ro ψ) (fun _ => none) ((⟨x10_76, 0, none⟩ : Addr).add 2) 0 [.int .i64 x72_86a, .int .i64 x72_86b] ∧
      ∃ (x74_87 : Sl), acell (join ro ψ) σ ((⟨x10_76, 0, none⟩ : Addr).add 4) = some (Sl.v x74_87) ∧
      c_law08_copied B (join ro ψ) x74_87 σ fun x75_88 σ =>
      c_multi_Apply B (join ro ψ) x30_9 x68_84 x70_85 x72_86a x72_86b x75_88 σ fun x76_89a x76_89b x76_89c x76_90 σ =>
      (Disj ψ σ → (fun σ => 
       Y72 (IntKind.i64.wrap (x51_73 + 1)) σ) (join ψ σ))) (join ψ σ))) [.string x54_75a, .int .i64 x54_75b, .int .i64 x54_75c, .int .i64 x54_75d, Sl.v x54_75e, .bool x54_75f] 0 σ
 else
 j15_law08_MultiApart B ro x5_6 x6_7 x28_8 x30_9 Q σ

def j10_law08_MultiApart (B : World) (ro : AH) (x5_6 : Nat) (x6_7 : Nat) (x22_4 : Sl) (x28_8 : Option Addr) (x30_9 : Option Addr) (Q : Bool → AH → Prop) (x43_11 : Bool) (σ : AH) : Prop :=
 if x43_11 = true then
  if ¬ (x28_8 = none) then
   c_law08_awake B ro σ fun x47_14 σ =>
   j12_law08_MultiApart B ro Q x47_14 σ
  else
  j12_law08_MultiApart B ro Q false σ
 else
 lfpD (l72_law08_MultiApart B ro x5_6 x6_7 x22_4 x28_8 x30_9 Q ) (0) σ

def f_law08_MultiApart (B : World) (ro : AH) (a0_0 : Sl) (a0_1 : Sl) (a0_2 : ByteArray) (a0_3 : Int) (a0_4 : Int) (a0_5 : Int) (a0_6 : Sl) (a0_7 : Bool) (a0_8 : ByteArray) (a0_9 : Int) (a0_10 : Int) (a0_11 : Int) (a0_12 : Sl) (a0_13 : Bool) (σ : AH) (Q : Bool → AH → Prop) : Prop :=
 nw ro σ (.cells #[Sl.v a0_0, Sl.v a0_1, .string a0_2, .int .i64 a0_3, .int .i64 a0_4, .int .i64 a0_5, Sl.v a0_6, .bool a0_7, .string a0_8, .int .i64 a0_9, .int .i64 a0_10, .int .i64 a0_11, Sl.v a0_12, .bool a0_13] 89) fun x1_1 σ =>
 lent σ fun ψ σ =>
  ∃ (x26_2a : ByteArray) (x26_2b : Int) (x26_2c : Int) (x26_2d : Int) (x26_2e : Sl) (x26_2f : Bool), cellsAt (join ro ψ) (fun _ => none) ((⟨x1_1, 0, none⟩ : Addr).add 8) 0 [.string x26_2a, .int .i64 x26_2b, .int .i64 x26_2c, .int .i64 x26_2d, Sl.v x26_2e, .bool x26_2f] ∧
  ∃ (x20_3 : Sl), acell (join ro ψ) σ ⟨x1_1, 0, none⟩ = some (Sl.v x20_3) ∧
  ∃ (x22_4 : Sl), acell (join ro ψ) σ ((⟨x1_1, 0, none⟩ : Addr).add 1) = some (Sl.v x22_4) ∧
  ∃ (x24_5a : ByteArray) (x24_5b : Int) (x24_5c : Int) (x24_5d : Int) (x24_5e : Sl) (x24_5f : Bool), cellsAt (join ro ψ) σ ((⟨x1_1, 0, none⟩ : Addr).add 2) 0 [.string x24_5a, .int .i64 x24_5b, .int .i64 x24_5c, .int .i64 x24_5d, Sl.v x24_5e, .bool x24_5f] ∧
  nw (join ro ψ) σ (.cells #[.string ByteArray.empty, .int .i64 0, .int .i64 0, .int .i64 0, Sl.v (⟨none, 0, 0⟩ : Sl), .bool false] 72) fun x5_6 σ =>
  nw (join ro ψ) σ (.cells #[.string ByteArray.empty, .int .i64 0, .int .i64 0, .int .i64 0, Sl.v (⟨none, 0, 0⟩ : Sl), .bool false] 72) fun x6_7 σ =>
  stN ⟨x5_6, 0, none⟩ (fun σ =>
   stN ⟨x6_7, 0, none⟩ (fun σ =>
    (Disj ψ σ → (fun σ => 
     c_law08_start B ro x20_3 σ fun x28_8 σ =>
     c_law08_start B ro x20_3 σ fun x30_9 σ =>
     if (x28_8 = none) ∨ (x30_9 = none) then
      j10_law08_MultiApart B ro x5_6 x6_7 x22_4 x28_8 x30_9 Q true σ
     else
     ∃ (x39_91 : ByteArray), acell ro σ ⟨x5_6, 0, none⟩ = some (.string x39_91) ∧
     ∃ (x41_92 : ByteArray), acell ro σ ⟨x6_7, 0, none⟩ = some (.string x41_92) ∧
     j10_law08_MultiApart B ro x5_6 x6_7 x22_4 x28_8 x30_9 Q (decide (x39_91 = x41_92)) σ) (join ψ σ))) [.string x26_2a, .int .i64 x26_2b, .int .i64 x26_2c, .int .i64 x26_2d, Sl.v x26_2e, .bool x26_2f] 0 σ) [.string x24_5a, .int .i64 x24_5b, .int .i64 x24_5c, .int .i64 x24_5d, Sl.v x24_5e, .bool x24_5f] 0 σ

set_option maxRecDepth 100000 in
set_option maxHeartbeats 4000000 in
theorem law08_MultiApart_ok {B : World} {ro : AH} {a0_0 : Sl} {a0_1 : Sl} {a0_2 : ByteArray} {a0_3 : Int} {a0_4 : Int} {a0_5 : Int} {a0_6 : Sl} {a0_7 : Bool} {a0_8 : ByteArray} {a0_9 : Int} {a0_10 : Int} {a0_11 : Int} {a0_12 : Sl} {a0_13 : Bool} {σ : AH} {Q : Bool → AH → Prop} (h : Sep ro σ → f_law08_MultiApart B ro a0_0 a0_1 a0_2 a0_3 a0_4 a0_5 a0_6 a0_7 a0_8 a0_9 a0_10 a0_11 a0_12 a0_13 σ Q) : c_law08_MultiApart B ro a0_0 a0_1 a0_2 a0_3 a0_4 a0_5 a0_6 a0_7 a0_8 a0_9 a0_10 a0_11 a0_12 a0_13 σ Q := by
  refine ACalls.of_sep fun hsep => ?_
  replace h := h hsep
  refine ACalls.of_body (args := [.agg #[Sl.v a0_0, Sl.v a0_1, .string a0_2, .int .i64 a0_3, .int .i64 a0_4, .int .i64 a0_5, Sl.v a0_6, .bool a0_7, .string a0_8, .int .i64 a0_9, .int .i64 a0_10, .int .i64 a0_11, Sl.v a0_12, .bool a0_13]]) Tryz.func10 rfl (by rw [Tryz.ntmps10]; simp) ?_
  rw [Tryz.ntmps10]
  unfold f_law08_MultiApart at h
  refine AW.seq ?_
  refine AW.reg ?_
  refine Ls rfl rfl (X_new (A_box rfl rfl) fun x1_1 g1 g2 => ?_)
  replace h := h x1_1 g1 g2
  refine Lp (V_asg rfl rfl) rfl rfl ?_
  refine Lnil ?_
  refine thenN ?_
  refine AW.seq ?_
  refine AW.drawnL (fun i => ([0, 3, 0, 3, 0, 3, 0, 0, 1, 1, 0, 0, 2, 2] : List Nat).getD i 2) [] [0, 2, 4, 6, 7, 1, 3, 5, 8, 9, 10, 11, 12, 13] Tryz.mixed h (by decide +kernel) ?_
  clear h
  intro ψ σ h
  refine Dp rfl rfl rfl rfl (V_fld rfl Tryz.underlying89 rfl ty25 (by decide) rfl) ?_
  refine Dp rfl rfl rfl rfl (V_fld rfl Tryz.underlying89 rfl ty67 (by decide) rfl) ?_
  refine Dp rfl rfl rfl rfl (V_fld rfl Tryz.underlying89 rfl ty72 (by decide) rfl) ?_
  refine Dp rfl rfl rfl rfl (V_fld rfl Tryz.underlying89 rfl ty72 (by decide) rfl) ?_
  obtain ⟨x26_2a, x26_2b, x26_2c, x26_2d, x26_2e, x26_2f, hc, h⟩ := h
  refine Dp rfl rfl rfl rfl (V_lda rfl Tryz.underlying72 rfl ty72 rfl hc) ?_
  obtain ⟨x20_3, hc, h⟩ := h
  refine Dr rfl rfl rfl rfl (R_ld rfl Tryz.underlying25 rfl rfl hc) ?_
  obtain ⟨x22_4, hc, h⟩ := h
  refine Dr rfl rfl rfl rfl (R_ld rfl Tryz.underlying67 rfl rfl hc) ?_
  obtain ⟨x24_5a, x24_5b, x24_5c, x24_5d, x24_5e, x24_5f, hc, h⟩ := h
  refine Dr rfl rfl rfl rfl (R_lda rfl Tryz.underlying72 rfl ty72 rfl hc) ?_
  refine Da rfl rfl rfl rfl (A_alloc rfl ty72) fun x5_6 g1 g2 => ?_
  replace h := h x5_6 g1 g2
  refine Da rfl rfl rfl rfl (A_alloc rfl ty72) fun x6_7 g1 g2 => ?_
  replace h := h x6_7 g1 g2
  refine Dp rfl rfl rfl rfl (V_asg rfl rfl) ?_
  refine Dp rfl rfl rfl rfl (V_asg rfl rfl) ?_
  refine Dg rfl rfl rfl rfl (X_st rfl ty72 rfl rfl rfl rfl (stN_mono h fun σ h => ?_))
  refine Dg rfl rfl rfl rfl (X_st rfl ty72 rfl rfl rfl rfl (stN_mono h fun σ h => ?_))
  refine ⟨_, FrEq.refl _, fun hdj => ?_⟩
  replace h := h hdj
  refine thenN ?_
  refine AW.seq ?_
  refine AW.reg ?_
  refine Lp (V_move rfl rfl) rfl rfl ?_
  refine Ls rfl rfl (X_call rfl Tryz.func35 rfl rfl rfl (ACalls.mono h ?_))
  rintro v σ ⟨x28_8, rfl, h⟩
  refine Lp (V_move rfl rfl) rfl rfl ?_
  refine Ls rfl rfl (X_call rfl Tryz.func35 rfl rfl rfl (ACalls.mono h ?_))
  rintro v σ ⟨x30_9, rfl, h⟩
  refine Lp (V_asg rfl rfl) rfl rfl ?_
  refine Lp (V_asg rfl rfl) rfl rfl ?_
  refine Lnil ?_
  refine thenN ?_
  refine AW.seq ?_
  refine AW.seq ?_
  refine AW.reg ?_
  refine Lp (V_move rfl rfl) rfl rfl ?_
  refine Lp (V_eqP rfl Tryz.underlying23 rfl rfl) rfl rfl ?_
  refine Lp (V_move rfl rfl) rfl rfl ?_
  refine Lsplit 3 x28_8.isNone [(4, Sl.v x22_4), (5, .pointer (some ⟨x5_6, 0, none⟩)), (6, .pointer (some ⟨x6_7, 0, none⟩)), (7, .pointer x28_8), (8, .pointer x30_9), (36, .bool (x28_8.isNone || x30_9.isNone))] ?_ ?_ ?_
  · intro e2 hk2
    refine Ln rfl rfl rfl rfl (.inl (by rw [e2]; rfl)) ?_
    refine Ln rfl rfl rfl rfl (.inl (by rw [e2]; rfl)) ?_
    refine Lp (V_pickT rfl (evb e2) rfl) rfl rfl ?_
    exact hk2 _ (FrLe.cons rfl (FrLe.cons rfl (FrLe.cons rfl (FrLe.cons rfl (FrLe.cons rfl (FrLe.cons (by rw [e2]; rfl) (FrLe.nil _)))))))
  · intro e2 hk2
    refine Lypb (V_move rfl rfl) rfl rfl rfl rfl e2 ?_
    refine Lypb (V_eqP rfl Tryz.underlying23 rfl rfl) rfl rfl rfl rfl e2 ?_
    refine Lp (V_pickF rfl (evb e2) rfl) rfl rfl ?_
    exact hk2 _ (FrLe.cons rfl (FrLe.cons rfl (FrLe.cons rfl (FrLe.cons rfl (FrLe.cons rfl (FrLe.cons (by rw [e2]; rfl) (FrLe.nil _)))))))
  intro fr hl
  refine Lfr hl ?_
  refine Lp (V_move rfl rfl) rfl rfl ?_
  refine LsplitJ 6 (x28_8.isNone || x30_9.isNone) (bor_iff isNone_iff isNone_iff) h (fun fr σ => ∃ (x43_11 : Bool), FrLe [(4, Sl.v x22_4), (5, .pointer (some ⟨x5_6, 0, none⟩)), (6, .pointer (some ⟨x6_7, 0, none⟩)), (7, .pointer x28_8), (8, .pointer x30_9), (43, .bool x43_11)] fr ∧ j10_law08_MultiApart B ro x5_6 x6_7 x22_4 x28_8 x30_9 Q x43_11 σ) ?_ ?_ ?_
  · intro h e6 hk6
    refine Ln rfl rfl rfl rfl (.inl (by rw [e6]; rfl)) ?_
    refine Ln rfl rfl rfl rfl (.inl (by rw [e6]; rfl)) ?_
    refine Ln rfl rfl rfl rfl (.inl (by rw [e6]; rfl)) ?_
    refine Ln rfl rfl rfl rfl (.inl (by rw [e6]; rfl)) ?_
    refine Ln rfl rfl rfl rfl (.inl (by rw [e6]; rfl)) ?_
    refine Lp (V_pickT rfl (evb e6) rfl) rfl rfl ?_
    exact hk6 _ _ ⟨_, (FrLe.cons rfl (FrLe.cons rfl (FrLe.cons rfl (FrLe.cons rfl (FrLe.cons rfl (FrLe.cons rfl (FrLe.nil _))))))), h⟩
  · intro h e6 hk6
    refine Lypb (V_fld rfl Tryz.underlying72 rfl ty9 (by decide) rfl) rfl rfl rfl rfl e6 ?_
    obtain ⟨x39_91, hc, h⟩ := h
    refine Lyb rfl rfl rfl rfl e6 (X_ld rfl Tryz.underlying9 rfl rfl hc ?_)
    refine Lypb (V_fld rfl Tryz.underlying72 rfl ty9 (by decide) rfl) rfl rfl rfl rfl e6 ?_
    obtain ⟨x41_92, hc, h⟩ := h
    refine Lyb rfl rfl rfl rfl e6 (X_ld rfl Tryz.underlying9 rfl rfl hc ?_)
    refine Lypb (V_eqlS rfl rfl rfl) rfl rfl rfl rfl e6 ?_
    refine Lp (V_pickF rfl (evb e6) rfl) rfl rfl ?_
    exact hk6 _ _ ⟨_, (FrLe.cons rfl (FrLe.cons rfl (FrLe.cons rfl (FrLe.cons rfl (FrLe.cons rfl (FrLe.cons rfl (FrLe.nil _))))))), h⟩
  rintro fr σ ⟨x43_11, hl, h⟩
  unfold j10_law08_MultiApart at h
  refine Lfr hl ?_
  refine Lnil ?_
  refine thenN ?_
  refine AW.iff rfl Iff.rfl h (fun h => ?_) (fun h => ?_)
  · refine AW.seq ?_
    refine AW.reg ?_
    refine Lp (V_move rfl rfl) rfl rfl ?_
    refine Lp (V_neP rfl Tryz.underlying23 rfl rfl) rfl rfl ?_
    refine Lp (V_move rfl rfl) rfl rfl ?_
    refine LsplitJ 2 (!x28_8.isNone) (bnot_iff isNone_iff) h (fun fr σ => ∃ (x48_13 : Bool), FrLe [(48, .bool x48_13)] fr ∧ j12_law08_MultiApart B ro Q x48_13 σ) ?_ ?_ ?_
    · intro h e2 hk2
      refine Lyb rfl rfl rfl rfl e2 (X_call rfl Tryz.func38 rfl rfl rfl (ACalls.mono h ?_))
      rintro v σ ⟨x47_14, rfl, h⟩
      refine Lp (V_pickT rfl (evb e2) rfl) rfl rfl ?_
      exact hk2 _ _ ⟨_, (FrLe.cons rfl (FrLe.nil _)), h⟩
    · intro h e2 hk2
      refine Ln rfl rfl rfl rfl (.inl (by rw [e2]; rfl)) ?_
      refine Lp (V_pickF rfl (evb e2) rfl) rfl rfl ?_
      exact hk2 _ _ ⟨_, (FrLe.cons rfl (FrLe.nil _)), h⟩
    rintro fr σ ⟨x48_13, hl, h⟩
    unfold j12_law08_MultiApart at h
    refine Lfr hl ?_
    refine Lp (V_asg rfl rfl) rfl rfl ?_
    refine Lnil ?_
    refine thenN ?_
    refine AW.ret ?_
    refine thenR ?_
    exact bR1 Tryz.results10 rfl ⟨_, rfl, h⟩
  refine AW.skip ?_
  refine thenN ?_
  refine AW.seqJ (fun fr σ => FrLe [(5, .pointer (some ⟨x5_6, 0, none⟩)), (6, .pointer (some ⟨x6_7, 0, none⟩)), (7, .pointer x28_8), (8, .pointer x30_9)] fr ∧ j15_law08_MultiApart B ro x5_6 x6_7 x28_8 x30_9 Q σ) ?_ ?_
  rotate_left
  · refine AW.seq ?_
    refine AW.reg ?_
    refine Lp (V_move rfl rfl) rfl rfl ?_
    refine Lp (V_lenL rfl rfl Tryz.underlying67 rfl rfl) rfl rfl ?_
    refine Lp (V_move rfl rfl) rfl rfl ?_
    refine Lnil ?_
    refine thenN ?_
    refine AW.block ?_
    refine ARound.loop (fr' := [(5, .pointer (some ⟨x5_6, 0, none⟩)), (6, .pointer (some ⟨x6_7, 0, none⟩)), (7, .pointer x28_8), (8, .pointer x30_9), (49, Sl.v x22_4), (50, .int .i64 (x22_4.len : Int)), (51, .int .i64 0)]) ?_ (FrLe.cons rfl (FrLe.cons rfl (FrLe.cons rfl (FrLe.cons rfl (FrLe.cons rfl (FrLe.cons rfl (FrLe.cons rfl (FrLe.nil _))))))))
    refine h (fun x51_73 σ => ARound _ _ _ _ _ _ [(5, .pointer (some ⟨x5_6, 0, none⟩)), (6, .pointer (some ⟨x6_7, 0, none⟩)), (7, .pointer x28_8), (8, .pointer x30_9), (49, Sl.v x22_4), (50, .int .i64 (x22_4.len : Int)), (51, .int .i64 x51_73)] σ) ?_
    rintro x51_73 σ Y72 hY72 h
    show AW _ _ _ _ _ _ _ _
    unfold l72_law08_MultiApart at h
    refine AW.seq ?_
    refine AW.reg ?_
    refine Lp (V_lss rfl rfl rfl) rfl rfl ?_
    refine Lnil ?_
    refine thenN ?_
    refine AW.seq ?_
    refine AW.iff rfl decide_eq_true_iff h (fun h => ?_) (fun h => ?_)
    rotate_left
    · refine AW.exit ?_
      refine thenE ?_
      refine thenE ?_
      refine blockE ?_
      refine thenN ?_
      exact ⟨(FrLe.cons rfl (FrLe.cons rfl (FrLe.cons rfl (FrLe.cons rfl (FrLe.nil _))))), h⟩
    refine AW.skip ?_
    refine thenN ?_
    refine AW.seq ?_
    refine AW.block ?_
    refine AW.seq ?_
    refine AW.reg ?_
    obtain ⟨p53_74, ha, h0, h1, h⟩ := h
    refine Lp (V_ixA rfl Tryz.underlying67 ty72 (ixL rfl ha) rfl h0 h1) rfl rfl ?_
    obtain ⟨x54_75a, x54_75b, x54_75c, x54_75d, x54_75e, x54_75f, hc, h⟩ := h
    refine Ls rfl rfl (X_lda rfl Tryz.underlying72 rfl ty72 rfl hc ?_)
    refine Ls rfl rfl (X_new (A_alloc rfl ty72) fun x10_76 g1 g2 => ?_)
    replace h := h x10_76 g1 g2
    refine Ls rfl rfl (X_st rfl ty72 rfl rfl rfl rfl (stN_mono h fun σ h => ?_))
    refine Lnil ?_
    refine thenN ?_
    refine AW.seq ?_
    refine AW.drawnL (fun i => ([0, 0, 0, 0, 0, 0, 0, 0, 3, 2, 2] : List Nat).getD i 2) [(8, 9), (8, 10)] [0, 1, 2, 3, 4, 5, 6, 7, 8, 9, 10] Tryz.mixed h (by decide +kernel) ?_
    clear h
    intro ψ σ h
    refine Dp rfl rfl rfl rfl (V_move rfl rfl) ?_
    refine Dp rfl rfl rfl rfl (V_fld rfl Tryz.underlying72 rfl ty9 (by decide) rfl) ?_
    obtain ⟨x57_77, hc, h⟩ := h
    refine Dp rfl rfl rfl rfl (V_ld rfl Tryz.underlying9 rfl rfl hc) ?_
    refine Dp rfl rfl rfl rfl (V_fld rfl Tryz.underlying72 rfl ty3 (by decide) rfl) ?_
    obtain ⟨x59_78, hc, h⟩ := h
    refine Dp rfl rfl rfl rfl (V_ld rfl Tryz.underlying3 rfl rfl hc) ?_
    refine Dp rfl rfl rfl rfl (V_fld rfl Tryz.underlying72 rfl ty69 (by decide) rfl) ?_
    obtain ⟨x61_79a, x61_79b, hc, h⟩ := h
    refine Dp rfl rfl rfl rfl (V_lda rfl Tryz.underlying69 rfl ty69 rfl hc) ?_
    refine Dp rfl rfl rfl rfl (V_fld rfl Tryz.underlying72 rfl ty70 (by decide) rfl) ?_
    obtain ⟨x63_80, hc, h⟩ := h
    refine Dr rfl rfl rfl rfl (R_ld rfl Tryz.underlying70 rfl rfl hc) ?_
    refine Dg rfl rfl rfl rfl (X_call rfl Tryz.func37 rfl rfl rfl (ACalls.mono h ?_))
    rintro v σ ⟨x64_81, rfl, h⟩
    refine Dg rfl rfl rfl rfl (X_call rfl Tryz.func36 rfl rfl rfl (ACalls.mono h ?_))
    rintro v σ ⟨x65_82a, x65_82b, x65_82c, x65_83, rfl, h⟩
    refine ⟨_, FrEq.refl _, fun hdj => ?_⟩
    replace h := h hdj
    refine thenN ?_
    refine AW.drawnL (fun i => ([0, 0, 0, 0, 0, 0, 0, 0, 3, 2, 2] : List Nat).getD i 2) [(8, 9), (8, 10)] [0, 1, 2, 3, 4, 5, 6, 7, 8, 9, 10] Tryz.mixed h (by decide +kernel) ?_
    clear h
    intro ψ σ h
    refine Dp rfl rfl rfl rfl (V_move rfl rfl) ?_
    refine Dp rfl rfl rfl rfl (V_fld rfl Tryz.underlying72 rfl ty9 (by decide) rfl) ?_
    obtain ⟨x68_84, hc, h⟩ := h
    refine Dp rfl rfl rfl rfl (V_ld rfl Tryz.underlying9 rfl rfl hc) ?_
    refine Dp rfl rfl rfl rfl (V_fld rfl Tryz.underlying72 rfl ty3 (by decide) rfl) ?_
    obtain ⟨x70_85, hc, h⟩ := h
    refine Dp rfl rfl rfl rfl (V_ld rfl Tryz.underlying3 rfl rfl hc) ?_
    refine Dp rfl rfl rfl rfl (V_fld rfl Tryz.underlying72 rfl ty69 (by decide) rfl) ?_
    obtain ⟨x72_86a, x72_86b, hc, h⟩ := h
    refine Dp rfl rfl rfl rfl (V_lda rfl Tryz.underlying69 rfl ty69 rfl hc) ?_
    refine Dp rfl rfl rfl rfl (V_fld rfl Tryz.underlying72 rfl ty70 (by decide) rfl) ?_
    obtain ⟨x74_87, hc, h⟩ := h
    refine Dr rfl rfl rfl rfl (R_ld rfl Tryz.underlying70 rfl rfl hc) ?_
    refine Dg rfl rfl rfl rfl (X_call rfl Tryz.func37 rfl rfl rfl (ACalls.mono h ?_))
    rintro v σ ⟨x75_88, rfl, h⟩
    refine Dg rfl rfl rfl rfl (X_call rfl Tryz.func36 rfl rfl rfl (ACalls.mono h ?_))
    rintro v σ ⟨x76_89a, x76_89b, x76_89c, x76_90, rfl, h⟩
    refine ⟨_, FrEq.refl _, fun hdj => ?_⟩
    replace h := h hdj
    refine blockN ?_
    refine thenN ?_
    refine AW.reg ?_
    refine Lp (V_add rfl rfl rfl) rfl rfl ?_
    refine Lp (V_move rfl rfl) rfl rfl ?_
    refine Lnil ?_
    refine thenN ?_
    refine ARound.head (fr' := [(5, .pointer (some ⟨x5_6, 0, none⟩)), (6, .pointer (some ⟨x6_7, 0, none⟩)), (7, .pointer x28_8), (8, .pointer x30_9), (49, Sl.v x22_4), (50, .int .i64 (x22_4.len : Int)), (51, .int .i64 (IntKind.i64.wrap (x51_73 + 1)))]) ?_ (FrLe.cons rfl (FrLe.cons rfl (FrLe.cons rfl (FrLe.cons rfl (FrLe.cons rfl (FrLe.cons rfl (FrLe.cons rfl (FrLe.nil _))))))))
    exact hY72 _ _ h
  rintro fr σ ⟨hl, h⟩
  refine AW.weaken ?_ hl (HLe.refl _)
  unfold j15_law08_MultiApart at h
  refine AW.seq ?_
  refine AW.drawnL (fun i => ([0, 0, 0, 0, 0, 0, 0, 0, 3, 2, 2, 0, 0, 0, 1, 2, 0] : List Nat).getD i 2) [(8, 9), (8, 10)] [0, 1, 2, 3, 4, 5, 6, 7, 8, 9, 10, 11, 12, 13, 14, 15, 16] Tryz.mixed h (by decide +kernel) ?_
  clear h
  intro ψ σ h
  refine Dp rfl rfl rfl rfl (V_move rfl rfl) ?_
  refine Dp rfl rfl rfl rfl (V_fld rfl Tryz.underlying72 rfl ty9 (by decide) rfl) ?_
  obtain ⟨x81_16, hc, h⟩ := h
  refine Dp rfl rfl rfl rfl (V_ld rfl Tryz.underlying9 rfl rfl hc) ?_
  refine Dp rfl rfl rfl rfl (V_fld rfl Tryz.underlying72 rfl ty3 (by decide) rfl) ?_
  obtain ⟨x83_17, hc, h⟩ := h
  refine Dp rfl rfl rfl rfl (V_ld rfl Tryz.underlying3 rfl rfl hc) ?_
  refine Dp rfl rfl rfl rfl (V_fld rfl Tryz.underlying72 rfl ty69 (by decide) rfl) ?_
  obtain ⟨x85_18a, x85_18b, hc, h⟩ := h
  refine Dp rfl rfl rfl rfl (V_lda rfl Tryz.underlying69 rfl ty69 rfl hc) ?_
  refine Dp rfl rfl rfl rfl (V_fld rfl Tryz.underlying72 rfl ty70 (by decide) rfl) ?_
  obtain ⟨x87_19, hc, h⟩ := h
  refine Dr rfl rfl rfl rfl (R_ld rfl Tryz.underlying70 rfl rfl hc) ?_
  refine Dg rfl rfl rfl rfl (X_call rfl Tryz.func37 rfl rfl rfl (ACalls.mono h ?_))
  rintro v σ ⟨x88_20, rfl, h⟩
  refine Dg rfl rfl rfl rfl (X_call rfl Tryz.func36 rfl rfl rfl (ACalls.mono h ?_))
  rintro v σ ⟨x89_21a, x89_21b, x89_21c, x89_22, rfl, h⟩
  refine Dp rfl rfl rfl rfl (V_move rfl rfl) ?_
  refine Dp rfl rfl rfl rfl (V_ext rfl rfl rfl) ?_
  refine Dp rfl rfl rfl rfl (V_ext rfl rfl rfl) ?_
  refine Da rfl rfl rfl rfl (A_alloc rfl ty77) fun x11_23 g1 g2 => ?_
  replace h := h x11_23 g1 g2
  refine Dg rfl rfl rfl rfl (X_st rfl ty77 rfl rfl rfl rfl (stN_mono h fun σ h => ?_))
  refine Dp rfl rfl rfl rfl (V_asg rfl rfl) ?_
  refine ⟨_, FrEq.refl _, fun hdj => ?_⟩
  replace h := h hdj
  refine thenN ?_
  refine AW.seq ?_
  refine AW.drawnL (fun i => ([0, 0, 0, 0, 0, 0, 0, 0, 3, 2, 2, 0, 0, 0, 1, 2, 0] : List Nat).getD i 2) [(8, 9), (8, 10)] [0, 1, 2, 3, 4, 5, 6, 7, 8, 9, 10, 11, 12, 13, 14, 15, 16] Tryz.mixed h (by decide +kernel) ?_
  clear h
  intro ψ σ h
  refine Dp rfl rfl rfl rfl (V_move rfl rfl) ?_
  refine Dp rfl rfl rfl rfl (V_fld rfl Tryz.underlying72 rfl ty9 (by decide) rfl) ?_
  obtain ⟨x95_24, hc, h⟩ := h
  refine Dp rfl rfl rfl rfl (V_ld rfl Tryz.underlying9 rfl rfl hc) ?_
  refine Dp rfl rfl rfl rfl (V_fld rfl Tryz.underlying72 rfl ty3 (by decide) rfl) ?_
  obtain ⟨x97_25, hc, h⟩ := h
  refine Dp rfl rfl rfl rfl (V_ld rfl Tryz.underlying3 rfl rfl hc) ?_
  refine Dp rfl rfl rfl rfl (V_fld rfl Tryz.underlying72 rfl ty69 (by decide) rfl) ?_
  obtain ⟨x99_26a, x99_26b, hc, h⟩ := h
  refine Dp rfl rfl rfl rfl (V_lda rfl Tryz.underlying69 rfl ty69 rfl hc) ?_
  refine Dp rfl rfl rfl rfl (V_fld rfl Tryz.underlying72 rfl ty70 (by decide) rfl) ?_
  obtain ⟨x101_27, hc, h⟩ := h
  refine Dr rfl rfl rfl rfl (R_ld rfl Tryz.underlying70 rfl rfl hc) ?_
  refine Dg rfl rfl rfl rfl (X_call rfl Tryz.func37 rfl rfl rfl (ACalls.mono h ?_))
  rintro v σ ⟨x102_28, rfl, h⟩
  refine Dg rfl rfl rfl rfl (X_call rfl Tryz.func36 rfl rfl rfl (ACalls.mono h ?_))
  rintro v σ ⟨x103_29a, x103_29b, x103_29c, x103_30, rfl, h⟩
  refine Dp rfl rfl rfl rfl (V_move rfl rfl) ?_
  refine Dp rfl rfl rfl rfl (V_ext rfl rfl rfl) ?_
  refine Dp rfl rfl rfl rfl (V_ext rfl rfl rfl) ?_
  refine Da rfl rfl rfl rfl (A_alloc rfl ty77) fun x13_31 g1 g2 => ?_
  replace h := h x13_31 g1 g2
  refine Dg rfl rfl rfl rfl (X_st rfl ty77 rfl rfl rfl rfl (stN_mono h fun σ h => ?_))
  refine Dp rfl rfl rfl rfl (V_asg rfl rfl) ?_
  refine ⟨_, FrEq.refl _, fun hdj => ?_⟩
  replace h := h hdj
  refine thenN ?_
  refine AW.seq ?_
  refine AW.drawnL (fun i => ([0, 0, 0, 0, 0, 0, 0, 0, 3, 2, 2, 0, 0, 0, 1, 2, 0] : List Nat).getD i 2) [(8, 9), (8, 10)] [0, 1, 2, 3, 4, 5, 6, 7, 8, 9, 10, 11, 12, 13, 14, 15, 16] Tryz.mixed h (by decide +kernel) ?_
  clear h
  intro ψ σ h
  refine Dp rfl rfl rfl rfl (V_move rfl rfl) ?_
  refine Dp rfl rfl rfl rfl (V_fld rfl Tryz.underlying72 rfl ty9 (by decide) rfl) ?_
  obtain ⟨x109_32, hc, h⟩ := h
  refine Dp rfl rfl rfl rfl (V_ld rfl Tryz.underlying9 rfl rfl hc) ?_
  refine Dp rfl rfl rfl rfl (V_fld rfl Tryz.underlying72 rfl ty3 (by decide) rfl) ?_
  obtain ⟨x111_33, hc, h⟩ := h
  refine Dp rfl rfl rfl rfl (V_ld rfl Tryz.underlying3 rfl rfl hc) ?_
  refine Dp rfl rfl rfl rfl (V_fld rfl Tryz.underlying72 rfl ty69 (by decide) rfl) ?_
  obtain ⟨x113_34a, x113_34b, hc, h⟩ := h
  refine Dp rfl rfl rfl rfl (V_lda rfl Tryz.underlying69 rfl ty69 rfl hc) ?_
  refine Dp rfl rfl rfl rfl (V_fld rfl Tryz.underlying72 rfl ty70 (by decide) rfl) ?_
  obtain ⟨x115_35, hc, h⟩ := h
  refine Dr rfl rfl rfl rfl (R_ld rfl Tryz.underlying70 rfl rfl hc) ?_
  refine Dg rfl rfl rfl rfl (X_call rfl Tryz.func37 rfl rfl rfl (ACalls.mono h ?_))
  rintro v σ ⟨x116_36, rfl, h⟩
  refine Dg rfl rfl rfl rfl (X_call rfl Tryz.func36 rfl rfl rfl (ACalls.mono h ?_))
  rintro v σ ⟨x117_37a, x117_37b, x117_37c, x117_38, rfl, h⟩
  refine Dp rfl rfl rfl rfl (V_move rfl rfl) ?_
  refine Dp rfl rfl rfl rfl (V_ext rfl rfl rfl) ?_
  refine Dp rfl rfl rfl rfl (V_ext rfl rfl rfl) ?_
  refine Da rfl rfl rfl rfl (A_alloc rfl ty77) fun x15_39 g1 g2 => ?_
  replace h := h x15_39 g1 g2
  refine Dg rfl rfl rfl rfl (X_st rfl ty77 rfl rfl rfl rfl (stN_mono h fun σ h => ?_))
  refine Dp rfl rfl rfl rfl (V_asg rfl rfl) ?_
  refine ⟨_, FrEq.refl _, fun hdj => ?_⟩
  replace h := h hdj
  refine thenN ?_
  refine AW.seq ?_
  refine AW.drawnL (fun i => ([0, 0, 0, 0, 0, 0, 0, 0, 3, 2, 2, 0, 0, 0, 1, 2, 0] : List Nat).getD i 2) [(8, 9), (8, 10)] [0, 1, 2, 3, 4, 5, 6, 7, 8, 9, 10, 11, 12, 13, 14, 15, 16] Tryz.mixed h (by decide +kernel) ?_
  clear h
  intro ψ σ h
  refine Dp rfl rfl rfl rfl (V_move rfl rfl) ?_
  refine Dp rfl rfl rfl rfl (V_fld rfl Tryz.underlying72 rfl ty9 (by decide) rfl) ?_
  obtain ⟨x123_40, hc, h⟩ := h
  refine Dp rfl rfl rfl rfl (V_ld rfl Tryz.underlying9 rfl rfl hc) ?_
  refine Dp rfl rfl rfl rfl (V_fld rfl Tryz.underlying72 rfl ty3 (by decide) rfl) ?_
  obtain ⟨x125_41, hc, h⟩ := h
  refine Dp rfl rfl rfl rfl (V_ld rfl Tryz.underlying3 rfl rfl hc) ?_
  refine Dp rfl rfl rfl rfl (V_fld rfl Tryz.underlying72 rfl ty69 (by decide) rfl) ?_
  obtain ⟨x127_42a, x127_42b, hc, h⟩ := h
  refine Dp rfl rfl rfl rfl (V_lda rfl Tryz.underlying69 rfl ty69 rfl hc) ?_
  refine Dp rfl rfl rfl rfl (V_fld rfl Tryz.underlying72 rfl ty70 (by decide) rfl) ?_
  obtain ⟨x129_43, hc, h⟩ := h
  refine Dr rfl rfl rfl rfl (R_ld rfl Tryz.underlying70 rfl rfl hc) ?_
  refine Dg rfl rfl rfl rfl (X_call rfl Tryz.func37 rfl rfl rfl (ACalls.mono h ?_))
  rintro v σ ⟨x130_44, rfl, h⟩
  refine Dg rfl rfl rfl rfl (X_call rfl Tryz.func36 rfl rfl rfl (ACalls.mono h ?_))
  rintro v σ ⟨x131_45a, x131_45b, x131_45c, x131_46, rfl, h⟩
  refine Dp rfl rfl rfl rfl (V_move rfl rfl) ?_
  refine Dp rfl rfl rfl rfl (V_ext rfl rfl rfl) ?_
  refine Dp rfl rfl rfl rfl (V_ext rfl rfl rfl) ?_
  refine Da rfl rfl rfl rfl (A_alloc rfl ty77) fun x17_47 g1 g2 => ?_
  replace h := h x17_47 g1 g2
  refine Dg rfl rfl rfl rfl (X_st rfl ty77 rfl rfl rfl rfl (stN_mono h fun σ h => ?_))
  refine Dp rfl rfl rfl rfl (V_asg rfl rfl) ?_
  refine ⟨_, FrEq.refl _, fun hdj => ?_⟩
  replace h := h hdj
  refine thenN ?_
  refine AW.seq ?_
  refine AW.reg ?_
  refine Lp (V_move rfl rfl) rfl rfl ?_
  refine Lp (V_move rfl rfl) rfl rfl ?_
  refine Lp (V_eql rfl rfl rfl) rfl rfl ?_
  refine Lp (V_move rfl rfl) rfl rfl ?_
  refine Lsplit 4 (decide (x89_22 = x131_46)) [(7, .pointer x28_8), (8, .pointer x30_9), (11, .pointer (some ⟨x11_23, 0, none⟩)), (13, .pointer (some ⟨x13_31, 0, none⟩)), (15, .pointer (some ⟨x15_39, 0, none⟩)), (17, .pointer (some ⟨x17_47, 0, none⟩)), (141, .bool ((decide (x89_22 = x131_46)) && (decide (x103_30 = x117_38))))] ?_ ?_ ?_
  · intro e3 hk3
    refine Lypb (V_move rfl rfl) rfl rfl rfl rfl e3 ?_
    refine Lypb (V_move rfl rfl) rfl rfl rfl rfl e3 ?_
    refine Lypb (V_eql rfl rfl rfl) rfl rfl rfl rfl e3 ?_
    refine Lp (V_pickT rfl (evb e3) rfl) rfl rfl ?_
    exact hk3 _ (FrLe.cons rfl (FrLe.cons rfl (FrLe.cons rfl (FrLe.cons rfl (FrLe.cons rfl (FrLe.cons rfl (FrLe.cons (by rw [e3]; rfl) (FrLe.nil _))))))))
  · intro e3 hk3
    refine Ln rfl rfl rfl rfl (.inl (by rw [e3]; rfl)) ?_
    refine Ln rfl rfl rfl rfl (.inl (by rw [e3]; rfl)) ?_
    refine Ln rfl rfl rfl rfl (.inl (by rw [e3]; rfl)) ?_
    refine Lp (V_pickF rfl (evb e3) rfl) rfl rfl ?_
    exact hk3 _ (FrLe.cons rfl (FrLe.cons rfl (FrLe.cons rfl (FrLe.cons rfl (FrLe.cons rfl (FrLe.cons rfl (FrLe.cons (by rw [e3]; rfl) (FrLe.nil _))))))))
  intro fr hl
  refine Lfr hl ?_
  refine Lp (V_move rfl rfl) rfl rfl ?_
  refine LsplitJ 6 ((decide (x89_22 = x131_46)) && (decide (x103_30 = x117_38))) (band_iff decide_eq_true_iff decide_eq_true_iff) h (fun fr σ => ∃ (x148_49 : Bool), FrLe [(7, .pointer x28_8), (8, .pointer x30_9), (11, .pointer (some ⟨x11_23, 0, none⟩)), (13, .pointer (some ⟨x13_31, 0, none⟩)), (15, .pointer (some ⟨x15_39, 0, none⟩)), (17, .pointer (some ⟨x17_47, 0, none⟩)), (148, .bool x148_49)] fr ∧ j48_law08_MultiApart B ro x11_23 x13_31 x15_39 x17_47 x28_8 x30_9 Q x148_49 σ) ?_ ?_ ?_
  · intro h e8 hk8
    refine Lypb (V_fld rfl Tryz.underlying77 rfl ty3 (by decide) rfl) rfl rfl rfl rfl e8 ?_
    obtain ⟨x144_70, hc, h⟩ := h
    refine Lyb rfl rfl rfl rfl e8 (X_ld rfl Tryz.underlying3 rfl rfl hc ?_)
    refine Lypb (V_fld rfl Tryz.underlying77 rfl ty3 (by decide) rfl) rfl rfl rfl rfl e8 ?_
    obtain ⟨x146_71, hc, h⟩ := h
    refine Lyb rfl rfl rfl rfl e8 (X_ld rfl Tryz.underlying3 rfl rfl hc ?_)
    refine Lypb (V_eql rfl rfl rfl) rfl rfl rfl rfl e8 ?_
    refine Lp (V_pickT rfl (evb e8) rfl) rfl rfl ?_
    exact hk8 _ _ ⟨_, (FrLe.cons rfl (FrLe.cons rfl (FrLe.cons rfl (FrLe.cons rfl (FrLe.cons rfl (FrLe.cons rfl (FrLe.cons rfl (FrLe.nil _)))))))), h⟩
  · intro h e8 hk8
    refine Ln rfl rfl rfl rfl (.inl (by rw [e8]; rfl)) ?_
    refine Ln rfl rfl rfl rfl (.inl (by rw [e8]; rfl)) ?_
    refine Ln rfl rfl rfl rfl (.inl (by rw [e8]; rfl)) ?_
    refine Ln rfl rfl rfl rfl (.inl (by rw [e8]; rfl)) ?_
    refine Ln rfl rfl rfl rfl (.inl (by rw [e8]; rfl)) ?_
    refine Lp (V_pickF rfl (evb e8) rfl) rfl rfl ?_
    exact hk8 _ _ ⟨_, (FrLe.cons rfl (FrLe.cons rfl (FrLe.cons rfl (FrLe.cons rfl (FrLe.cons rfl (FrLe.cons rfl (FrLe.cons rfl (FrLe.nil _)))))))), h⟩
  rintro fr σ ⟨x148_49, hl, h⟩
  unfold j48_law08_MultiApart at h
  refine Lfr hl ?_
  refine Lp (V_move rfl rfl) rfl rfl ?_
  refine LsplitJ 6 x148_49 Iff.rfl h (fun fr σ => ∃ (x155_51 : Bool), FrLe [(7, .pointer x28_8), (8, .pointer x30_9), (11, .pointer (some ⟨x11_23, 0, none⟩)), (13, .pointer (some ⟨x13_31, 0, none⟩)), (15, .pointer (some ⟨x15_39, 0, none⟩)), (17, .pointer (some ⟨x17_47, 0, none⟩)), (155, .bool x155_51)] fr ∧ j50_law08_MultiApart B ro x11_23 x13_31 x15_39 x17_47 x28_8 x30_9 Q x155_51 σ) ?_ ?_ ?_
  · intro h e15 hk15
    refine Lypb (V_fld rfl Tryz.underlying77 rfl ty3 (by decide) rfl) rfl rfl rfl rfl e15 ?_
    obtain ⟨x151_68, hc, h⟩ := h
    refine Lyb rfl rfl rfl rfl e15 (X_ld rfl Tryz.underlying3 rfl rfl hc ?_)
    refine Lypb (V_fld rfl Tryz.underlying77 rfl ty3 (by decide) rfl) rfl rfl rfl rfl e15 ?_
    obtain ⟨x153_69, hc, h⟩ := h
    refine Lyb rfl rfl rfl rfl e15 (X_ld rfl Tryz.underlying3 rfl rfl hc ?_)
    refine Lypb (V_eql rfl rfl rfl) rfl rfl rfl rfl e15 ?_
    refine Lp (V_pickT rfl (evb e15) rfl) rfl rfl ?_
    exact hk15 _ _ ⟨_, (FrLe.cons rfl (FrLe.cons rfl (FrLe.cons rfl (FrLe.cons rfl (FrLe.cons rfl (FrLe.cons rfl (FrLe.cons rfl (FrLe.nil _)))))))), h⟩
  · intro h e15 hk15
    refine Ln rfl rfl rfl rfl (.inl (by rw [e15]; rfl)) ?_
    refine Ln rfl rfl rfl rfl (.inl (by rw [e15]; rfl)) ?_
    refine Ln rfl rfl rfl rfl (.inl (by rw [e15]; rfl)) ?_
    refine Ln rfl rfl rfl rfl (.inl (by rw [e15]; rfl)) ?_
    refine Ln rfl rfl rfl rfl (.inl (by rw [e15]; rfl)) ?_
    refine Lp (V_pickF rfl (evb e15) rfl) rfl rfl ?_
    exact hk15 _ _ ⟨_, (FrLe.cons rfl (FrLe.cons rfl (FrLe.cons rfl (FrLe.cons rfl (FrLe.cons rfl (FrLe.cons rfl (FrLe.cons rfl (FrLe.nil _)))))))), h⟩
  rintro fr σ ⟨x155_51, hl, h⟩
  unfold j50_law08_MultiApart at h
  refine Lfr hl ?_
  refine Lp (V_move rfl rfl) rfl rfl ?_
  refine LsplitJ 8 x155_51 Iff.rfl h (fun fr σ => ∃ (x164_53 : Bool), FrLe [(7, .pointer x28_8), (8, .pointer x30_9), (13, .pointer (some ⟨x13_31, 0, none⟩)), (15, .pointer (some ⟨x15_39, 0, none⟩)), (164, .bool x164_53)] fr ∧ j52_law08_MultiApart B ro x13_31 x15_39 x28_8 x30_9 Q x164_53 σ) ?_ ?_ ?_
  · intro h e22 hk22
    refine Lypb (V_fld rfl Tryz.underlying77 rfl ty74 (by decide) rfl) rfl rfl rfl rfl e22 ?_
    obtain ⟨x158_66, hc, h⟩ := h
    refine Lyb rfl rfl rfl rfl e22 (X_ld rfl Tryz.underlying74 rfl rfl hc ?_)
    refine Lypb (V_lenL rfl rfl Tryz.underlying74 rfl rfl) rfl rfl rfl rfl e22 ?_
    refine Lypb (V_fld rfl Tryz.underlying77 rfl ty74 (by decide) rfl) rfl rfl rfl rfl e22 ?_
    obtain ⟨x161_67, hc, h⟩ := h
    refine Lyb rfl rfl rfl rfl e22 (X_ld rfl Tryz.underlying74 rfl rfl hc ?_)
    refine Lypb (V_lenL rfl rfl Tryz.underlying74 rfl rfl) rfl rfl rfl rfl e22 ?_
    refine Lypb (V_eql rfl rfl rfl) rfl rfl rfl rfl e22 ?_
    refine Lp (V_pickT rfl (evb e22) rfl) rfl rfl ?_
    exact hk22 _ _ ⟨_, (FrLe.cons rfl (FrLe.cons rfl (FrLe.cons rfl (FrLe.cons rfl (FrLe.cons rfl (FrLe.nil _)))))), h⟩
  · intro h e22 hk22
    refine Ln rfl rfl rfl rfl (.inl (by rw [e22]; rfl)) ?_
    refine Ln rfl rfl rfl rfl (.inl (by rw [e22]; rfl)) ?_
    refine Ln rfl rfl rfl rfl (.inl (by rw [e22]; rfl)) ?_
    refine Ln rfl rfl rfl rfl (.inl (by rw [e22]; rfl)) ?_
    refine Ln rfl rfl rfl rfl (.inl (by rw [e22]; rfl)) ?_
    refine Ln rfl rfl rfl rfl (.inl (by rw [e22]; rfl)) ?_
    refine Ln rfl rfl rfl rfl (.inl (by rw [e22]; rfl)) ?_
    refine Lp (V_pickF rfl (evb e22) rfl) rfl rfl ?_
    exact hk22 _ _ ⟨_, (FrLe.cons rfl (FrLe.cons rfl (FrLe.cons rfl (FrLe.cons rfl (FrLe.cons rfl (FrLe.nil _)))))), h⟩
  rintro fr σ ⟨x164_53, hl, h⟩
  unfold j52_law08_MultiApart at h
  refine Lfr hl ?_
  refine Lp (V_move rfl rfl) rfl rfl ?_
  refine LsplitJ 8 x164_53 Iff.rfl h (fun fr σ => ∃ (x173_55 : Bool), FrLe [(7, .pointer x28_8), (8, .pointer x30_9), (173, .bool x173_55)] fr ∧ j54_law08_MultiApart B ro x28_8 x30_9 Q x173_55 σ) ?_ ?_ ?_
  · intro h e31 hk31
    refine Lypb (V_fld rfl Tryz.underlying77 rfl ty74 (by decide) rfl) rfl rfl rfl rfl e31 ?_
    obtain ⟨x167_64, hc, h⟩ := h
    refine Lyb rfl rfl rfl rfl e31 (X_ld rfl Tryz.underlying74 rfl rfl hc ?_)
    refine Lypb (V_lenL rfl rfl Tryz.underlying74 rfl rfl) rfl rfl rfl rfl e31 ?_
    refine Lypb (V_fld rfl Tryz.underlying77 rfl ty74 (by decide) rfl) rfl rfl rfl rfl e31 ?_
    obtain ⟨x170_65, hc, h⟩ := h
    refine Lyb rfl rfl rfl rfl e31 (X_ld rfl Tryz.underlying74 rfl rfl hc ?_)
    refine Lypb (V_lenL rfl rfl Tryz.underlying74 rfl rfl) rfl rfl rfl rfl e31 ?_
    refine Lypb (V_eql rfl rfl rfl) rfl rfl rfl rfl e31 ?_
    refine Lp (V_pickT rfl (evb e31) rfl) rfl rfl ?_
    exact hk31 _ _ ⟨_, (FrLe.cons rfl (FrLe.cons rfl (FrLe.cons rfl (FrLe.nil _)))), h⟩
  · intro h e31 hk31
    refine Ln rfl rfl rfl rfl (.inl (by rw [e31]; rfl)) ?_
    refine Ln rfl rfl rfl rfl (.inl (by rw [e31]; rfl)) ?_
    refine Ln rfl rfl rfl rfl (.inl (by rw [e31]; rfl)) ?_
    refine Ln rfl rfl rfl rfl (.inl (by rw [e31]; rfl)) ?_
    refine Ln rfl rfl rfl rfl (.inl (by rw [e31]; rfl)) ?_
    refine Ln rfl rfl rfl rfl (.inl (by rw [e31]; rfl)) ?_
    refine Ln rfl rfl rfl rfl (.inl (by rw [e31]; rfl)) ?_
    refine Lp (V_pickF rfl (evb e31) rfl) rfl rfl ?_
    exact hk31 _ _ ⟨_, (FrLe.cons rfl (FrLe.cons rfl (FrLe.cons rfl (FrLe.nil _)))), h⟩
  rintro fr σ ⟨x173_55, hl, h⟩
  unfold j54_law08_MultiApart at h
  refine Lfr hl ?_
  refine Lp (V_move rfl rfl) rfl rfl ?_
  refine LsplitJ 6 x173_55 Iff.rfl h (fun fr σ => ∃ (x180_57 : Bool), FrLe [(180, .bool x180_57)] fr ∧ j56_law08_MultiApart B ro Q x180_57 σ) ?_ ?_ ?_
  · intro h e40 hk40
    refine Lypb (V_move rfl rfl) rfl rfl rfl rfl e40 ?_
    refine Lyb rfl rfl rfl rfl e40 (X_call rfl Tryz.func21 rfl rfl rfl (ACalls.mono h ?_))
    rintro v σ ⟨x176_61, rfl, h⟩
    refine Lypb (V_move rfl rfl) rfl rfl rfl rfl e40 ?_
    refine Lyb rfl rfl rfl rfl e40 (X_call rfl Tryz.func21 rfl rfl rfl (ACalls.mono h ?_))
    rintro v σ ⟨x178_62, rfl, h⟩
    refine Lyb rfl rfl rfl rfl e40 (X_call rfl Tryz.func26 rfl rfl rfl (ACalls.mono h ?_))
    rintro v σ ⟨x179_63, rfl, h⟩
    refine Lp (V_pickT rfl (evb e40) rfl) rfl rfl ?_
    exact hk40 _ _ ⟨_, (FrLe.cons rfl (FrLe.nil _)), h⟩
  · intro h e40 hk40
    refine Ln rfl rfl rfl rfl (.inl (by rw [e40]; rfl)) ?_
    refine Ln rfl rfl rfl rfl (.inl (by rw [e40]; rfl)) ?_
    refine Ln rfl rfl rfl rfl (.inl (by rw [e40]; rfl)) ?_
    refine Ln rfl rfl rfl rfl (.inl (by rw [e40]; rfl)) ?_
    refine Ln rfl rfl rfl rfl (.inl (by rw [e40]; rfl)) ?_
    refine Lp (V_pickF rfl (evb e40) rfl) rfl rfl ?_
    exact hk40 _ _ ⟨_, (FrLe.cons rfl (FrLe.nil _)), h⟩
  rintro fr σ ⟨x180_57, hl, h⟩
  unfold j56_law08_MultiApart at h
  refine Lfr hl ?_
  refine Lp (V_move rfl rfl) rfl rfl ?_
  refine LsplitJ 2 x180_57 Iff.rfl h (fun fr σ => ∃ (x183_59 : Bool), FrLe [(183, .bool x183_59)] fr ∧ j58_law08_MultiApart B ro Q x183_59 σ) ?_ ?_ ?_
  · intro h e47 hk47
    refine Lyb rfl rfl rfl rfl e47 (X_call rfl Tryz.func38 rfl rfl rfl (ACalls.mono h ?_))
    rintro v σ ⟨x182_60, rfl, h⟩
    refine Lp (V_pickT rfl (evb e47) rfl) rfl rfl ?_
    exact hk47 _ _ ⟨_, (FrLe.cons rfl (FrLe.nil _)), h⟩
  · intro h e47 hk47
    refine Ln rfl rfl rfl rfl (.inl (by rw [e47]; rfl)) ?_
    refine Lp (V_pickF rfl (evb e47) rfl) rfl rfl ?_
    exact hk47 _ _ ⟨_, (FrLe.cons rfl (FrLe.nil _)), h⟩
  rintro fr σ ⟨x183_59, hl, h⟩
  unfold j58_law08_MultiApart at h
  refine Lfr hl ?_
  refine Lp (V_asg rfl rfl) rfl rfl ?_
  refine Lnil ?_
  refine thenN ?_
  refine AW.ret ?_
  exact bR1 Tryz.results10 rfl ⟨_, rfl, h⟩

def j2_law08_start (B : World) (ro : AH) (x6_1 : Option Addr) (Q : Option Addr → AH → Prop) (σ : AH) : Prop :=
 Q x6_1 σ

def l3_law08_start (B : World) (ro : AH) (a0 : Sl) (x6_1 : Option Addr) (Q : Option Addr → AH → Prop) : (Int) → AH → ((Int) → AH → Prop) → Prop := fun x11_4 σ Y3 =>
 if x11_4 < (a0.len : Int) then
  ∃ p13_5 : Addr, a0.a = some p13_5 ∧ (0 : Int) ≤ x11_4 ∧ x11_4 < (a0.len : Int) ∧
  ∃ (x14_6 : ByteArray), acell ro σ (p13_5.add (Int.toNat x11_4 * 1)) = some (.string x14_6) ∧
  (⟨#[47]⟩ : ByteArray).size + x14_6.size ≤ 9223372036854775807 ∧
  c_ztree_Tree_Create B ro x6_1 ((⟨#[47]⟩ : ByteArray) ++ x14_6) (⟨none, 0, 0⟩ : Sl) 0 false σ fun x18_7 x18_8 σ =>
  Y3 (IntKind.i64.wrap (x11_4 + 1)) σ
 else
 j2_law08_start B ro x6_1 Q σ

def f_law08_start (B : World) (ro : AH) (a0 : Sl) (σ : AH) (Q : Option Addr → AH → Prop) : Prop :=
 c_ztree_New B ro σ fun x6_1 σ =>
 if x6_1 = none then
  Q none σ
 else
 lfpD (l3_law08_start B ro a0 x6_1 Q ) (0) σ

set_option maxRecDepth 100000 in
set_option maxHeartbeats 4000000 in
theorem law08_start_ok {B : World} {ro : AH} {a0 : Sl} {σ : AH} {Q : Option Addr → AH → Prop} (h : Sep ro σ → f_law08_start B ro a0 σ Q) : c_law08_start B ro a0 σ Q := by
  refine ACalls.of_sep fun hsep => ?_
  replace h := h hsep
  refine ACalls.of_body (args := [Sl.v a0]) Tryz.func35 rfl (by rw [Tryz.ntmps35]; simp) ?_
  rw [Tryz.ntmps35]
  unfold f_law08_start at h
  refine AW.seq ?_
  refine AW.reg ?_
  refine Lp (V_asg rfl rfl) rfl rfl ?_
  refine Lnil ?_
  refine thenN ?_
  refine AW.seq ?_
  refine AW.reg ?_
  refine Ls rfl rfl (X_call rfl Tryz.func30 rfl rfl rfl (ACalls.mono h ?_))
  rintro v σ ⟨x6_1, rfl, h⟩
  refine Lp (V_asg rfl rfl) rfl rfl ?_
  refine Lnil ?_
  refine thenN ?_
  refine AW.seq ?_
  refine AW.seq ?_
  refine AW.reg ?_
  refine Lp (V_move rfl rfl) rfl rfl ?_
  refine Lp (V_eqP rfl Tryz.underlying23 rfl rfl) rfl rfl ?_
  refine Lnil ?_
  refine thenN ?_
  refine AW.iff rfl isNone_iff h (fun h => ?_) (fun h => ?_)
  · refine AW.seq ?_
    refine AW.reg ?_
    refine Lp (V_asg rfl rfl) rfl rfl ?_
    refine Lnil ?_
    refine thenN ?_
    refine AW.ret ?_
    refine thenR ?_
    exact bR1 Tryz.results35 rfl ⟨_, rfl, h⟩
  refine AW.skip ?_
  refine thenN ?_
  refine AW.seqJ (fun fr σ => FrLe [(3, .pointer x6_1)] fr ∧ j2_law08_start B ro x6_1 Q σ) ?_ ?_
  · rintro fr σ ⟨hl, h⟩
    refine AW.weaken ?_ hl (HLe.refl _)
    unfold j2_law08_start at h
    refine AW.seq ?_
    refine AW.reg ?_
    refine Lp (V_move rfl rfl) rfl rfl ?_
    refine Lp (V_asg rfl rfl) rfl rfl ?_
    refine Lnil ?_
    refine thenN ?_
    refine AW.ret ?_
    exact bR1 Tryz.results35 rfl ⟨_, rfl, h⟩
  refine AW.seq ?_
  refine AW.reg ?_
  refine Lp (V_move rfl rfl) rfl rfl ?_
  refine Lp (V_lenL rfl rfl Tryz.underlying25 rfl rfl) rfl rfl ?_
  refine Lp (V_move rfl rfl) rfl rfl ?_
  refine Lnil ?_
  refine thenN ?_
  refine AW.block ?_
  refine ARound.loop (fr' := [(3, .pointer x6_1), (9, Sl.v a0), (10, .int .i64 (a0.len : Int)), (11, .int .i64 0)]) ?_ (FrLe.cons rfl (FrLe.cons rfl (FrLe.cons rfl (FrLe.cons rfl (FrLe.nil _)))))
  refine h (fun x11_4 σ => ARound _ _ _ _ _ _ [(3, .pointer x6_1), (9, Sl.v a0), (10, .int .i64 (a0.len : Int)), (11, .int .i64 x11_4)] σ) ?_
  rintro x11_4 σ Y3 hY3 h
  show AW _ _ _ _ _ _ _ _
  unfold l3_law08_start at h
  refine AW.seq ?_
  refine AW.reg ?_
  refine Lp (V_lss rfl rfl rfl) rfl rfl ?_
  refine Lnil ?_
  refine thenN ?_
  refine AW.seq ?_
  refine AW.iff rfl decide_eq_true_iff h (fun h => ?_) (fun h => ?_)
  rotate_left
  · refine AW.exit ?_
    refine thenE ?_
    refine thenE ?_
    refine blockE ?_
    refine thenN ?_
    exact ⟨(FrLe.cons rfl (FrLe.nil _)), h⟩
  refine AW.skip ?_
  refine thenN ?_
  refine AW.seq ?_
  refine AW.block ?_
  refine AW.seq ?_
  refine AW.reg ?_
  obtain ⟨p13_5, ha, h0, h1, h⟩ := h
  refine Lp (V_ixA rfl Tryz.underlying25 ty9 (ixL rfl ha) rfl h0 h1) rfl rfl ?_
  obtain ⟨x14_6, hc, h⟩ := h
  refine Ls rfl rfl (X_ld rfl Tryz.underlying9 rfl rfl hc ?_)
  refine Lp (V_asg rfl rfl) rfl rfl ?_
  refine Lnil ?_
  refine thenN ?_
  refine AW.reg ?_
  refine Lp (V_move rfl rfl) rfl rfl ?_
  refine Lp (V_move rfl rfl) rfl rfl ?_
  obtain ⟨hc, h⟩ := h
  refine Lp (V_cat rfl rfl rfl hc) rfl rfl ?_
  refine Ls rfl rfl (X_call rfl Tryz.func22 rfl rfl rfl (ACalls.mono h ?_))
  rintro v σ ⟨x18_7, x18_8, rfl, h⟩
  refine Lnil ?_
  refine blockN ?_
  refine thenN ?_
  refine AW.reg ?_
  refine Lp (V_add rfl rfl rfl) rfl rfl ?_
  refine Lp (V_move rfl rfl) rfl rfl ?_
  refine Lnil ?_
  refine thenN ?_
  refine ARound.head (fr' := [(3, .pointer x6_1), (9, Sl.v a0), (10, .int .i64 (a0.len : Int)), (11, .int .i64 (IntKind.i64.wrap (x11_4 + 1)))]) ?_ (FrLe.cons rfl (FrLe.cons rfl (FrLe.cons rfl (FrLe.cons rfl (FrLe.nil _)))))
  exact hY3 _ _ h

def j1_law08_copied (B : World) (ro : AH) (Q : Sl → AH → Prop) (x3_2 : Sl) (σ : AH) : Prop :=
 Q x3_2 σ

def l3_law08_copied (B : World) (ro : AH) (a0 : Sl) (Q : Sl → AH → Prop) : (Sl × Int) → AH → ((Sl × Int) → AH → Prop) → Prop := fun ⟨x3_4, x8_5⟩ σ Y3 =>
 if x8_5 < (a0.len : Int) then
  ∃ p10_6 : Addr, a0.a = some p10_6 ∧ (0 : Int) ≤ x8_5 ∧ x8_5 < (a0.len : Int) ∧
  ∃ (x11_7a : Int) (x11_7b : ByteArray) (x11_7c : Sl) (x11_7d : Int) (x11_7e : Bool) (x11_7f : Bool), cellsAt ro σ (p10_6.add (Int.toNat x8_5 * 6)) 0 [.int .i64 x11_7a, .string x11_7b, Sl.v x11_7c, .int .i64 x11_7d, .bool x11_7e, .bool x11_7f] ∧
  nw ro σ (.cells #[.int .i64 0, .string ByteArray.empty, Sl.v (⟨none, 0, 0⟩ : Sl), .int .i64 0, .bool false, .bool false] 82) fun x5_8 σ =>
  stN ⟨x5_8, 0, none⟩ (fun σ =>
   ∃ (x13_9 : Sl), acell ro σ ((⟨x5_8, 0, none⟩ : Addr).add 2) = some (Sl.v x13_9) ∧
   c_ref01_Copy B ro x13_9 σ fun x14_10 σ =>
   stN ((⟨x5_8, 0, none⟩ : Addr).add 2) (fun σ =>
    ∃ (x17_11a : Int) (x17_11b : ByteArray) (x17_11c : Sl) (x17_11d : Int) (x17_11e : Bool) (x17_11f : Bool), cellsAt ro σ ⟨x5_8, 0, none⟩ 0 [.int .i64 x17_11a, .string x17_11b, Sl.v x17_11c, .int .i64 x17_11d, .bool x17_11e, .bool x17_11f] ∧
    nw ro σ (.cells #[.int .i64 x17_11a, .string x17_11b, Sl.v x17_11c, .int .i64 x17_11d, .bool x17_11e, .bool x17_11f] 82) fun x18_12 σ =>
    awp Tryz.prog ro (Builtin.append_ #[70, 70] 70 #[Sl.v x3_4, Sl.v (⟨some ⟨x18_12, 0, none⟩, 1, 1⟩ : Sl)]) (fun v σ => ∃ (x19_13 : Sl), v = Sl.v x19_13 ∧
     Y3 (x19_13, IntKind.i64.wrap (x8_5 + 1)) σ) σ) [Sl.v x14_10] 0 σ) [.int .i64 x11_7a, .string x11_7b, Sl.v x11_7c, .int .i64 x11_7d, .bool x11_7e, .bool x11_7f] 0 σ
 else
 j1_law08_copied B ro Q x3_4 σ

def f_law08_copied (B : World) (ro : AH) (a0 : Sl) (σ : AH) (Q : Sl → AH → Prop) : Prop :=
 lfpD (l3_law08_copied B ro a0 Q ) ((⟨none, 0, 0⟩ : Sl), 0) σ

set_option maxRecDepth 100000 in
set_option maxHeartbeats 4000000 in
theorem law08_copied_ok {B : World} {ro : AH} {a0 : Sl} {σ : AH} {Q : Sl → AH → Prop} (h : Sep ro σ → f_law08_copied B ro a0 σ Q) : c_law08_copied B ro a0 σ Q := by
  refine ACalls.of_sep fun hsep => ?_
  replace h := h hsep
  refine ACalls.of_body (args := [Sl.v a0]) Tryz.func37 rfl (by rw [Tryz.ntmps37]; simp) ?_
  rw [Tryz.ntmps37]
  unfold f_law08_copied at h
  refine AW.seq ?_
  refine AW.reg ?_
  refine Lp (V_asg rfl rfl) rfl rfl ?_
  refine Lnil ?_
  refine thenN ?_
  refine AW.seq ?_
  refine AW.reg ?_
  refine Lp (V_asg rfl rfl) rfl rfl ?_
  refine Lnil ?_
  refine thenN ?_
  refine AW.seqJ (fun fr σ => ∃ (x3_2 : Sl), FrLe [(3, Sl.v x3_2)] fr ∧ j1_law08_copied B ro Q x3_2 σ) ?_ ?_
  · rintro fr σ ⟨x3_2, hl, h⟩
    refine AW.weaken ?_ hl (HLe.refl _)
    unfold j1_law08_copied at h
    refine AW.seq ?_
    refine AW.reg ?_
    refine Lp (V_move rfl rfl) rfl rfl ?_
    refine Lp (V_asg rfl rfl) rfl rfl ?_
    refine Lnil ?_
    refine thenN ?_
    refine AW.ret ?_
    exact bR1 Tryz.results37 rfl ⟨_, rfl, h⟩
  refine AW.seq ?_
  refine AW.reg ?_
  refine Lp (V_move rfl rfl) rfl rfl ?_
  refine Lp (V_lenL rfl rfl Tryz.underlying70 rfl rfl) rfl rfl ?_
  refine Lp (V_move rfl rfl) rfl rfl ?_
  refine Lnil ?_
  refine thenN ?_
  refine AW.block ?_
  refine ARound.loop (fr' := [(6, Sl.v a0), (7, .int .i64 (a0.len : Int)), (3, Sl.v (⟨none, 0, 0⟩ : Sl)), (8, .int .i64 0)]) ?_ (FrLe.cons rfl (FrLe.cons rfl (FrLe.cons rfl (FrLe.cons rfl (FrLe.nil _)))))
  refine h (fun ⟨x3_4, x8_5⟩ σ => ARound _ _ _ _ _ _ [(6, Sl.v a0), (7, .int .i64 (a0.len : Int)), (3, Sl.v x3_4), (8, .int .i64 x8_5)] σ) ?_
  rintro ⟨x3_4, x8_5⟩ σ Y3 hY3 h
  show AW _ _ _ _ _ _ _ _
  unfold l3_law08_copied at h
  dsimp only at h
  refine AW.seq ?_
  refine AW.reg ?_
  refine Lp (V_lss rfl rfl rfl) rfl rfl ?_
  refine Lnil ?_
  refine thenN ?_
  refine AW.seq ?_
  refine AW.iff rfl decide_eq_true_iff h (fun h => ?_) (fun h => ?_)
  rotate_left
  · refine AW.exit ?_
    refine thenE ?_
    refine thenE ?_
    refine blockE ?_
    refine thenN ?_
    exact ⟨_, (FrLe.cons rfl (FrLe.nil _)), h⟩
  refine AW.skip ?_
  refine thenN ?_
  refine AW.seq ?_
  refine AW.block ?_
  refine AW.seq ?_
  refine AW.reg ?_
  obtain ⟨p10_6, ha, h0, h1, h⟩ := h
  refine Lp (V_ixA rfl Tryz.underlying70 ty82 (ixL rfl ha) rfl h0 h1) rfl rfl ?_
  obtain ⟨x11_7a, x11_7b, x11_7c, x11_7d, x11_7e, x11_7f, hc, h⟩ := h
  refine Ls rfl rfl (X_lda rfl Tryz.underlying82 rfl ty82 rfl hc ?_)
  refine Ls rfl rfl (X_new (A_alloc rfl ty82) fun x5_8 g1 g2 => ?_)
  replace h := h x5_8 g1 g2
  refine Ls rfl rfl (X_st rfl ty82 rfl rfl rfl rfl (stN_mono h fun σ h => ?_))
  refine Lnil ?_
  refine thenN ?_
  refine AW.seq ?_
  refine AW.reg ?_
  refine Lp (V_fld rfl Tryz.underlying82 rfl ty30 (by decide) rfl) rfl rfl ?_
  obtain ⟨x13_9, hc, h⟩ := h
  refine Ls rfl rfl (X_ld rfl Tryz.underlying30 rfl rfl hc ?_)
  refine Ls rfl rfl (X_call rfl Tryz.func23 rfl rfl rfl (ACalls.mono h ?_))
  rintro v σ ⟨x14_10, rfl, h⟩
  refine Lp (V_fld rfl Tryz.underlying82 rfl ty30 (by decide) rfl) rfl rfl ?_
  refine Ls rfl rfl (X_st rfl ty30 rfl rfl rfl rfl (stN_mono h fun σ h => ?_))
  refine Lnil ?_
  refine thenN ?_
  refine AW.reg ?_
  refine Lp (V_move rfl rfl) rfl rfl ?_
  obtain ⟨x17_11a, x17_11b, x17_11c, x17_11d, x17_11e, x17_11f, hc, h⟩ := h
  refine Ls rfl rfl (X_lda rfl Tryz.underlying82 rfl ty82 rfl hc ?_)
  refine Ls rfl rfl (X_new (A_bsl (vs := [(0, .agg #[.int .i64 x17_11a, .string x17_11b, Sl.v x17_11c, .int .i64 x17_11d, .bool x17_11e, .bool x17_11f])]) (cs := #[.int .i64 x17_11a, .string x17_11b, Sl.v x17_11c, .int .i64 x17_11d, .bool x17_11e, .bool x17_11f]) rfl Tryz.underlying70 ty82 (by decide) rfl rfl) fun x18_12 g1 g2 => ?_)
  replace h := h x18_12 g1 g2
  refine Ls rfl rfl (X_bi (s := Builtin.append_ #[70, 70] 70 #[Sl.v x3_4, Sl.v (⟨some ⟨x18_12, 0, none⟩, 1, 1⟩ : Sl)]) rfl rfl (fun _ => rfl) (awp_mono _ h ?_))
  rintro v σ ⟨x19_13, rfl, h⟩
  refine Lp (V_asg rfl rfl) rfl rfl ?_
  refine Lnil ?_
  refine blockN ?_
  refine thenN ?_
  refine AW.reg ?_
  refine Lp (V_add rfl rfl rfl) rfl rfl ?_
  refine Lp (V_move rfl rfl) rfl rfl ?_
  refine Lnil ?_
  refine thenN ?_
  refine ARound.head (fr' := [(6, Sl.v a0), (7, .int .i64 (a0.len : Int)), (3, Sl.v x19_13), (8, .int .i64 (IntKind.i64.wrap (x8_5 + 1)))]) ?_ (FrLe.cons rfl (FrLe.cons rfl (FrLe.cons rfl (FrLe.cons rfl (FrLe.nil _)))))
  exact hY3 _ _ h

def j13_law08_awake (B : World) (ro : AH) (Q : Bool → AH → Prop) (x41_14 : Bool) (σ : AH) : Prop :=
 Q x41_14 σ

def j11_law08_awake (B : World) (ro : AH) (x5_2 : Option Addr) (Q : Bool → AH → Prop) (x36_12 : Bool) (σ : AH) : Prop :=
 if x36_12 = true then
  c_ztree_Tree_Size B ro x5_2 σ fun x39_15 σ =>
  j13_law08_awake B ro Q (decide (x39_15 = 3)) σ
 else
 j13_law08_awake B ro Q false σ

def j9_law08_awake (B : World) (ro : AH) (x2_6 : Nat) (x5_2 : Option Addr) (Q : Bool → AH → Prop) (x28_10 : Bool) (σ : AH) : Prop :=
 if x28_10 = true then
  ∃ (x31_16 : Sl), acell ro σ ⟨x2_6, 0, none⟩ = some (Sl.v x31_16) ∧
  ∃ p32_17 : Addr, x31_16.a = some p32_17 ∧ (0 : Int) ≤ 0 ∧ 0 < (x31_16.len : Int) ∧
  ∃ (x34_18 : ByteArray), acell ro σ (p32_17.add (Int.toNat 0 * 2)) = some (.string x34_18) ∧
  j11_law08_awake B ro x5_2 Q (decide (x34_18 = (⟨#[47, 97, 47, 120]⟩ : ByteArray))) σ
 else
 j11_law08_awake B ro x5_2 Q false σ

def j7_law08_awake (B : World) (ro : AH) (x2_6 : Nat) (x5_2 : Option Addr) (Q : Bool → AH → Prop) (x22_8 : Bool) (σ : AH) : Prop :=
 if x22_8 = true then
  ∃ (x25_19 : Sl), acell ro σ ⟨x2_6, 0, none⟩ = some (Sl.v x25_19) ∧
  j9_law08_awake B ro x2_6 x5_2 Q (decide ((x25_19.len : Int) = 1)) σ
 else
 j9_law08_awake B ro x2_6 x5_2 Q false σ

def f_law08_awake (B : World) (ro : AH) (σ : AH) (Q : Bool → AH → Prop) : Prop :=
 nw ro σ (.cells #[.string (⟨#[97]⟩ : ByteArray)] 9) fun x4_1 σ =>
 c_law08_start B ro (⟨some ⟨x4_1, 0, none⟩, 1, 1⟩ : Sl) σ fun x5_2 σ =>
 if x5_2 = none then
  Q false σ
 else
 nw ro σ (.cells #[.int .i64 1, .string (⟨#[47, 97, 47, 120]⟩ : ByteArray), Sl.v (⟨none, 0, 0⟩ : Sl), .int .i64 0, .bool false, .bool false] 82) fun x12_3 σ =>
 c_multi_Apply B ro x5_2 (⟨#[97]⟩ : ByteArray) 5 9 99 (⟨some ⟨x12_3, 0, none⟩, 1, 1⟩ : Sl) σ fun x13_4a x13_4b x13_4c x13_5 σ =>
 nw ro σ (.cells #[Sl.v (⟨none, 0, 0⟩ : Sl), Sl.v (⟨none, 0, 0⟩ : Sl), .int .i64 0] 77) fun x2_6 σ =>
 stN ⟨x2_6, 0, none⟩ (fun σ =>
  if x13_5 = 0 then
   ∃ (x20_20 : Int), acell ro σ ((⟨x2_6, 0, none⟩ : Addr).add 2) = some (.int .i64 x20_20) ∧
   j7_law08_awake B ro x2_6 x5_2 Q (decide (x20_20 = (-1))) σ
  else
  j7_law08_awake B ro x2_6 x5_2 Q false σ) [Sl.v x13_4a, Sl.v x13_4b, .int .i64 x13_4c] 0 σ

set_option maxRecDepth 100000 in
set_option maxHeartbeats 4000000 in
theorem law08_awake_ok {B : World} {ro : AH} {σ : AH} {Q : Bool → AH → Prop} (h : Sep ro σ → f_law08_awake B ro σ Q) : c_law08_awake B ro σ Q := by
  refine ACalls.of_sep fun hsep => ?_
  replace h := h hsep
  refine ACalls.of_body (args := []) Tryz.func38 rfl (by rw [Tryz.ntmps38]; simp) ?_
  rw [Tryz.ntmps38]
  unfold f_law08_awake at h
  refine AW.seq ?_
  refine AW.reg ?_
  refine Lp (V_asg rfl rfl) rfl rfl ?_
  refine Lnil ?_
  refine thenN ?_
  refine AW.seq ?_
  refine AW.reg ?_
  refine Ls rfl rfl (X_new (A_bsl (vs := [(0, .string (⟨#[97]⟩ : ByteArray))]) (cs := #[.string (⟨#[97]⟩ : ByteArray)]) rfl Tryz.underlying25 ty9 (by decide) rfl rfl) fun x4_1 g1 g2 => ?_)
  replace h := h x4_1 g1 g2
  refine Ls rfl rfl (X_call rfl Tryz.func35 rfl rfl rfl (ACalls.mono h ?_))
  rintro v σ ⟨x5_2, rfl, h⟩
  refine Lp (V_asg rfl rfl) rfl rfl ?_
  refine Lnil ?_
  refine thenN ?_
  refine AW.seq ?_
  refine AW.seq ?_
  refine AW.reg ?_
  refine Lp (V_move rfl rfl) rfl rfl ?_
  refine Lp (V_eqP rfl Tryz.underlying23 rfl rfl) rfl rfl ?_
  refine Lnil ?_
  refine thenN ?_
  refine AW.iff rfl isNone_iff h (fun h => ?_) (fun h => ?_)
  · refine AW.seq ?_
    refine AW.reg ?_
    refine Lp (V_asg rfl rfl) rfl rfl ?_
    refine Lnil ?_
    refine thenN ?_
    refine AW.ret ?_
    refine thenR ?_
    exact bR1 Tryz.results38 rfl ⟨_, rfl, h⟩
  refine AW.skip ?_
  refine thenN ?_
  refine AW.seq ?_
  refine AW.reg ?_
  refine Lp (V_move rfl rfl) rfl rfl ?_
  refine Lp (V_bld (vs := [(0, .int .i64 9), (1, .int .i64 99)]) (cs := #[.int .i64 9, .int .i64 99]) rfl Tryz.underlying69 ty69 pl69 rfl rfl) rfl rfl ?_
  refine Lp (V_bld (vs := [(0, .int .i64 1), (1, .string (⟨#[47, 97, 47, 120]⟩ : ByteArray))]) (cs := #[.int .i64 1, .string (⟨#[47, 97, 47, 120]⟩ : ByteArray), Sl.v (⟨none, 0, 0⟩ : Sl), .int .i64 0, .bool false, .bool false]) rfl Tryz.underlying82 ty82 pl82 rfl rfl) rfl rfl ?_
  refine Ls rfl rfl (X_new (A_bsl (vs := [(0, .agg #[.int .i64 1, .string (⟨#[47, 97, 47, 120]⟩ : ByteArray), Sl.v (⟨none, 0, 0⟩ : Sl), .int .i64 0, .bool false, .bool false])]) (cs := #[.int .i64 1, .string (⟨#[47, 97, 47, 120]⟩ : ByteArray), Sl.v (⟨none, 0, 0⟩ : Sl), .int .i64 0, .bool false, .bool false]) rfl Tryz.underlying70 ty82 (by decide) rfl rfl) fun x12_3 g1 g2 => ?_)
  replace h := h x12_3 g1 g2
  refine Ls rfl rfl (X_call rfl Tryz.func36 rfl rfl rfl (ACalls.mono h ?_))
  rintro v σ ⟨x13_4a, x13_4b, x13_4c, x13_5, rfl, h⟩
  refine Lp (V_move rfl rfl) rfl rfl ?_
  refine Lp (V_ext rfl rfl rfl) rfl rfl ?_
  refine Lp (V_ext rfl rfl rfl) rfl rfl ?_
  refine Ls rfl rfl (X_new (A_alloc rfl ty77) fun x2_6 g1 g2 => ?_)
  replace h := h x2_6 g1 g2
  refine Ls rfl rfl (X_st rfl ty77 rfl rfl rfl rfl (stN_mono h fun σ h => ?_))
  refine Lp (V_asg rfl rfl) rfl rfl ?_
  refine Lnil ?_
  refine thenN ?_
  refine AW.seq ?_
  refine AW.reg ?_
  refine Lp (V_move rfl rfl) rfl rfl ?_
  refine Lp (V_eql rfl rfl rfl) rfl rfl ?_
  refine Lp (V_move rfl rfl) rfl rfl ?_
  refine LsplitJ 4 (decide (x13_5 = 0)) decide_eq_true_iff h (fun fr σ => ∃ (x22_8 : Bool), FrLe [(1, .pointer x5_2), (2, .pointer (some ⟨x2_6, 0, none⟩)), (22, .bool x22_8)] fr ∧ j7_law08_awake B ro x2_6 x5_2 Q x22_8 σ) ?_ ?_ ?_
  · intro h e2 hk2
    refine Lypb (V_fld rfl Tryz.underlying77 rfl ty3 (by decide) rfl) rfl rfl rfl rfl e2 ?_
    obtain ⟨x20_20, hc, h⟩ := h
    refine Lyb rfl rfl rfl rfl e2 (X_ld rfl Tryz.underlying3 rfl rfl hc ?_)
    refine Lypb (V_eql rfl rfl rfl) rfl rfl rfl rfl e2 ?_
    refine Lp (V_pickT rfl (evb e2) rfl) rfl rfl ?_
    exact hk2 _ _ ⟨_, (FrLe.cons rfl (FrLe.cons rfl (FrLe.cons rfl (FrLe.nil _)))), h⟩
  · intro h e2 hk2
    refine Ln rfl rfl rfl rfl (.inl (by rw [e2]; rfl)) ?_
    refine Ln rfl rfl rfl rfl (.inl (by rw [e2]; rfl)) ?_
    refine Ln rfl rfl rfl rfl (.inl (by rw [e2]; rfl)) ?_
    refine Lp (V_pickF rfl (evb e2) rfl) rfl rfl ?_
    exact hk2 _ _ ⟨_, (FrLe.cons rfl (FrLe.cons rfl (FrLe.cons rfl (FrLe.nil _)))), h⟩
  rintro fr σ ⟨x22_8, hl, h⟩
  unfold j7_law08_awake at h
  refine Lfr hl ?_
  refine Lp (V_move rfl rfl) rfl rfl ?_
  refine LsplitJ 5 x22_8 Iff.rfl h (fun fr σ => ∃ (x28_10 : Bool), FrLe [(1, .pointer x5_2), (2, .pointer (some ⟨x2_6, 0, none⟩)), (28, .bool x28_10)] fr ∧ j9_law08_awake B ro x2_6 x5_2 Q x28_10 σ) ?_ ?_ ?_
  · intro h e7 hk7
    refine Lypb (V_fld rfl Tryz.underlying77 rfl ty74 (by decide) rfl) rfl rfl rfl rfl e7 ?_
    obtain ⟨x25_19, hc, h⟩ := h
    refine Lyb rfl rfl rfl rfl e7 (X_ld rfl Tryz.underlying74 rfl rfl hc ?_)
    refine Lypb (V_lenL rfl rfl Tryz.underlying74 rfl rfl) rfl rfl rfl rfl e7 ?_
    refine Lypb (V_eql rfl rfl rfl) rfl rfl rfl rfl e7 ?_
    refine Lp (V_pickT rfl (evb e7) rfl) rfl rfl ?_
    exact hk7 _ _ ⟨_, (FrLe.cons rfl (FrLe.cons rfl (FrLe.cons rfl (FrLe.nil _)))), h⟩
  · intro h e7 hk7
    refine Ln rfl rfl rfl rfl (.inl (by rw [e7]; rfl)) ?_
    refine Ln rfl rfl rfl rfl (.inl (by rw [e7]; rfl)) ?_
    refine Ln rfl rfl rfl rfl (.inl (by rw [e7]; rfl)) ?_
    refine Ln rfl rfl rfl rfl (.inl (by rw [e7]; rfl)) ?_
    refine Lp (V_pickF rfl (evb e7) rfl) rfl rfl ?_
    exact hk7 _ _ ⟨_, (FrLe.cons rfl (FrLe.cons rfl (FrLe.cons rfl (FrLe.nil _)))), h⟩
  rintro fr σ ⟨x28_10, hl, h⟩
  unfold j9_law08_awake at h
  refine Lfr hl ?_
  refine Lp (V_move rfl rfl) rfl rfl ?_
  refine LsplitJ 7 x28_10 Iff.rfl h (fun fr σ => ∃ (x36_12 : Bool), FrLe [(1, .pointer x5_2), (36, .bool x36_12)] fr ∧ j11_law08_awake B ro x5_2 Q x36_12 σ) ?_ ?_ ?_
  · intro h e13 hk13
    refine Lypb (V_fld rfl Tryz.underlying77 rfl ty74 (by decide) rfl) rfl rfl rfl rfl e13 ?_
    obtain ⟨x31_16, hc, h⟩ := h
    refine Lyb rfl rfl rfl rfl e13 (X_ld rfl Tryz.underlying74 rfl rfl hc ?_)
    obtain ⟨p32_17, ha, h0, h1, h⟩ := h
    refine Lypb (V_ixA rfl Tryz.underlying74 ty84 (ixL rfl ha) rfl h0 h1) rfl rfl rfl rfl e13 ?_
    refine Lypb (V_fld rfl Tryz.underlying84 rfl ty9 (by decide) rfl) rfl rfl rfl rfl e13 ?_
    obtain ⟨x34_18, hc, h⟩ := h
    refine Lyb rfl rfl rfl rfl e13 (X_ld rfl Tryz.underlying9 rfl rfl hc ?_)
    refine Lypb (V_eqlS rfl rfl rfl) rfl rfl rfl rfl e13 ?_
    refine Lp (V_pickT rfl (evb e13) rfl) rfl rfl ?_
    exact hk13 _ _ ⟨_, (FrLe.cons rfl (FrLe.cons rfl (FrLe.nil _))), h⟩
  · intro h e13 hk13
    refine Ln rfl rfl rfl rfl (.inl (by rw [e13]; rfl)) ?_
    refine Ln rfl rfl rfl rfl (.inl (by rw [e13]; rfl)) ?_
    refine Ln rfl rfl rfl rfl (.inl (by rw [e13]; rfl)) ?_
    refine Ln rfl rfl rfl rfl (.inl (by rw [e13]; rfl)) ?_
    refine Ln rfl rfl rfl rfl (.inl (by rw [e13]; rfl)) ?_
    refine Ln rfl rfl rfl rfl (.inl (by rw [e13]; rfl)) ?_
    refine Lp (V_pickF rfl (evb e13) rfl) rfl rfl ?_
    exact hk13 _ _ ⟨_, (FrLe.cons rfl (FrLe.cons rfl (FrLe.nil _))), h⟩
  rintro fr σ ⟨x36_12, hl, h⟩
  unfold j11_law08_awake at h
  refine Lfr hl ?_
  refine Lp (V_move rfl rfl) rfl rfl ?_
  refine LsplitJ 4 x36_12 Iff.rfl h (fun fr σ => ∃ (x41_14 : Bool), FrLe [(41, .bool x41_14)] fr ∧ j13_law08_awake B ro Q x41_14 σ) ?_ ?_ ?_
  · intro h e21 hk21
    refine Lypb (V_move rfl rfl) rfl rfl rfl rfl e21 ?_
    refine Lyb rfl rfl rfl rfl e21 (X_call rfl Tryz.func16 rfl rfl rfl (ACalls.mono h ?_))
    rintro v σ ⟨x39_15, rfl, h⟩
    refine Lypb (V_eql rfl rfl rfl) rfl rfl rfl rfl e21 ?_
    refine Lp (V_pickT rfl (evb e21) rfl) rfl rfl ?_
    exact hk21 _ _ ⟨_, (FrLe.cons rfl (FrLe.nil _)), h⟩
  · intro h e21 hk21
    refine Ln rfl rfl rfl rfl (.inl (by rw [e21]; rfl)) ?_
    refine Ln rfl rfl rfl rfl (.inl (by rw [e21]; rfl)) ?_
    refine Ln rfl rfl rfl rfl (.inl (by rw [e21]; rfl)) ?_
    refine Lp (V_pickF rfl (evb e21) rfl) rfl rfl ?_
    exact hk21 _ _ ⟨_, (FrLe.cons rfl (FrLe.nil _)), h⟩
  rintro fr σ ⟨x41_14, hl, h⟩
  unfold j13_law08_awake at h
  refine Lfr hl ?_
  refine Lp (V_asg rfl rfl) rfl rfl ?_
  refine Lnil ?_
  refine thenN ?_
  refine AW.ret ?_
  exact bR1 Tryz.results38 rfl ⟨_, rfl, h⟩

end Go.Proofs.YthfpmipeejjogaaGreatDoor.G

/- Trees with homes, copies of ops, and the law's own example. -/
namespace Go.Proofs.YthfpmipeejjogaaGreatDoor.Zt
open Go Go.Proofs.YthfpmipeejjogaaGreatDoor.SL Go.Proofs.YthfpmipeejjogaaGreatDoor.G Go.Proofs.YthfpmipeejjogaaGreatDoor.Pa
set_option linter.unusedSimpArgs false
set_option linter.unusedVariables false
variable {B : World} {ro σ σ' : AH} {tag tag' : Nat → Nat}

def startE (hs : List Str) : St := hs.foldl (fun st h => (create st (47 :: h) [] 0 false).1) St.new
theorem invB_start : ∀ (hs : List Str), hs.length ≤ 1073741824 → InvB hs.length (startE hs) := by
  intro hs hl
  have key : ∀ (l : List Str) (b : Nat) (st : St), InvB b st → b + l.length ≤ 1073741824 → InvB (b + l.length) (l.foldl (fun st h => (create st (47 :: h) [] 0 false).1) st) := by
    intro l
    induction l with
    | nil => intro b st h _; exact h
    | cons x l ih =>
      intro b st h hb
      simp only [List.length_cons] at hb ⊢
      have h1 := ih (b + 1) _ (invB_create (p := 47 :: x) (d := []) (o := 0) (seq := false) h (by omega)) (by omega)
      rw [List.foldl_cons, show b + (l.length + 1) = b + 1 + l.length by omega]
      exact h1
  have := key hs 0 St.new invB_new (by omega)
  rw [Nat.zero_add] at this; exact this
set_option maxRecDepth 100000 in
theorem start_ok {a0 : Sl} {hs : List Str} {Q : Option Addr → AH → Prop} (r : Nat) (g : Glob ro) (hr : r < 64) (hr6 : r ≠ 6) (hr0 : r ≠ 0) (hrd : ∀ tag' σ', StepC r ro tag σ tag' σ' → SL.Read ro σ' a0 (hs.map Pa.vS)) (hl : hs.length ≤ 1073741824) (hhl : ∀ h ∈ hs, h.length ≤ 4611686018427387903)
    (hQ : ∀ T tag' σ', StepC r ro tag σ tag' σ' → TreeIs tag' σ' r T (startE hs) → InvB hs.length (startE hs) → Q (some ⟨T, 0, none⟩) σ') : c_law08_start B ro a0 σ Q := by
  refine law08_start_ok fun hsep => ?_
  unfold f_law08_start
  refine new_ok (tag := tag) r hr hr6 fun T tag1 σ1 st1 h1 => ?_
  rw [if_neg (by simp)]
  have hln : a0.len = hs.length := by rw [(hrd tag1 σ1 st1).1, List.length_map]
  suffices ∀ m j tag2 σ2, j + m = hs.length → StepC r ro tag σ tag2 σ2 → TreeIs tag2 σ2 r T (startE (hs.take j)) → lfpD (l3_law08_start B ro a0 (some ⟨T, 0, none⟩) Q) (j : Int) σ2 from
    this _ 0 tag1 σ1 (Nat.zero_add _) st1 h1
  intro m
  induction m with
  | zero =>
    intro j tag2 σ2 hj st2 h2
    refine lfpD.intro ?_
    unfold l3_law08_start
    rw [if_neg (by omega)]
    unfold j2_law08_start
    rw [List.take_of_length_le (by omega)] at h2
    exact hQ T tag2 σ2 st2 h2 (invB_start hs hl)
  | succ m ih =>
    intro j tag2 σ2 hj st2 h2
    have hjl : j < hs.length := by omega
    have rd := hrd tag2 σ2 st2
    obtain ⟨p, hp⟩ : ∃ p, a0.a = some p := by
      cases e : a0.a with
      | none => have := rd.2.1 e; simp at this; rw [this] at hjl; simp at hjl
      | some p => exact ⟨p, rfl⟩
    have hcell := rd.2.2 p hp j (Pa.vS hs[j]) (by rw [List.getElem?_map, List.getElem?_eq_getElem hjl]; rfl)
    have hxl := hhl _ (List.getElem_mem hjl)
    refine lfpD.intro ?_
    unfold l3_law08_start
    rw [if_pos (by omega)]
    refine ⟨p, hp, by omega, by omega, S hs[j], by rw [Int.toNat_natCast, Nat.mul_one]; exact hcell, ?_⟩
    refine ⟨by rw [show (⟨#[47]⟩ : ByteArray).size = 1 from rfl, show (S hs[j]).size = hs[j].length from by rw [← L_len, L_S]]; omega, ?_⟩
    have hcat : (⟨#[47]⟩ : ByteArray) ++ S hs[j] = S (47 :: hs[j]) := by
      rw [show (⟨#[47]⟩ : ByteArray) = S [47] from rfl, S_append]; rfl
    rw [hcat]
    refine create_ok (d := []) g hr hr6 hr0 h2 ⟨rfl, fun _ => rfl, fun p h => by cases h⟩ (by decide) fun tag3 σ3 st3 h3 => ?_
    rw [L_S] at h3
    rw [Pa.inc j (by omega)]
    refine ih (j + 1) tag3 σ3 (by omega) (st2.trans st3) ?_
    have e : startE (hs.take (j + 1)) = (create (startE (hs.take j)) (47 :: hs[j]) [] 0 false).1 := by
      unfold startE
      rw [List.take_add_one, List.getElem?_eq_getElem hjl, List.foldl_append]; rfl
    rw [e]; exact h3

/-- ops as they came in -/
def OpsR (ro : AH) (s : Sl) (ops : List MOp) : Prop := s.len = ops.length ∧ ∀ j o, ops[j]? = some o → ∃ q ds, s.a = some q ∧ (∀ σ, SL.cellsAt ro σ (q.add (j * 6)) 0 (opV o ds)) ∧ SL.Read ro (fun _ => none) ds (o.data.map vU) ∧ o.data.length ≤ 140737488351232
theorem OpsR.data {s : Sl} {ops : List MOp} (h : OpsR ro s ops) : ∀ o ∈ ops, o.data.length < 4611686018427387904 := fun o ho => by
  obtain ⟨j, hj, rfl⟩ := List.getElem_of_mem ho
  obtain ⟨_, _, _, _, _, h5⟩ := h.2 j _ (List.getElem?_eq_getElem hj)
  omega
/-- ops in memory, to be read only -/
def OpsM (ro σ : AH) (s : Sl) (ops : List MOp) : Prop := s.len = ops.length ∧ ∀ j o, ops[j]? = some o → ∃ q ds, s.a = some q ∧ SL.cellsAt ro σ (q.add (j * 6)) 0 (opV o ds) ∧ SL.Read ro (fun _ => none) ds (o.data.map vU) ∧ o.data.length ≤ 140737488351232
theorem OpsR.m {s : Sl} {ops : List MOp} (h : OpsR ro s ops) (σ : AH) : OpsM ro σ s ops := ⟨h.1, fun j o ho => by
  obtain ⟨q, ds, h1, h2, h3, h4⟩ := h.2 j o ho
  exact ⟨q, ds, h1, h2 σ, h3, h4⟩⟩
set_option maxRecDepth 100000 in
theorem copied_in {a0 : Sl} {ops : List MOp} {Q : Sl → AH → Prop} (hO : ∀ tag' σ', StepS [0, 24, 28] ro tag σ tag' σ' → OpsM ro σ' a0 ops) (hl : ops.length ≤ 2199023255488) (hQ : ∀ s tag' σ', StepS [0, 24, 28] ro tag σ tag' σ' → OpsAt tag' σ' 24 s ops → Q s σ') : c_law08_copied B ro a0 σ Q := by
  refine law08_copied_ok fun hsep => ?_
  unfold f_law08_copied
  have hln := (hO tag σ (StepS.refl hsep)).1
  suffices ∀ m j s tag2 σ2, j + m = ops.length → StepS [0, 24, 28] ro tag σ tag2 σ2 → OpsAt tag2 σ2 24 s (ops.take j) → lfpD (l3_law08_copied B ro a0 Q) (s, (j : Int)) σ2 from
    this _ 0 ⟨none, 0, 0⟩ tag σ (Nat.zero_add _) (StepS.refl hsep) ⟨[], rfl, RowW.nil _ _ _, fun i o d h => by cases h⟩
  intro m
  induction m with
  | zero =>
    intro j s tag2 σ2 hj st2 h2
    refine lfpD.intro ?_
    unfold l3_law08_copied
    simp only
    rw [if_neg (by omega)]
    unfold j1_law08_copied
    rw [List.take_of_length_le (by omega)] at h2
    exact hQ s tag2 σ2 st2 h2
  | succ m ih =>
    intro j s tag2 σ2 hj st2 h2
    have hjl : j < ops.length := by omega
    obtain ⟨q, ds, hq, hc, hrd, hdl⟩ := (hO tag2 σ2 st2).2 j ops[j] (List.getElem?_eq_getElem hjl)
    refine lfpD.intro ?_
    unfold l3_law08_copied
    simp only
    rw [if_pos (by omega)]
    refine ⟨q, hq, by omega, by omega, ops[j].kind, S ops[j].path, ds, ops[j].ver, ops[j].eph, ops[j].seq, by rw [Int.toNat_natCast]; exact hc, ?_⟩
    refine nw_st (tag := tag2) 28 st2.sep rfl (by simp [storable, Sl.v]) fun x tag3 σ3 st3 r3 => ?_
    obtain ⟨p3, hp3, hg3⟩ := r3.ptr (st3 []).sep (by simp)
    cases hp3
    refine ⟨ds, hg3 2 _ rfl, ?_⟩
    refine copy_ok (tag := tag3) (hrd.keep) (st3 []).sep (by simp; omega) (by simp [storable]) fun s' tag4 σ4 st4 r4 => ?_
    refine (r3.keep (st4 []) (by simp)).st (i := 2) (st4 []).sep rfl (by simp) rfl fun σ5 st5 r5 => ?_
    refine ⟨ops[j].kind, S ops[j].path, s', ops[j].ver, ops[j].eph, ops[j].seq, Row.cellsAt r5 st5.sep, ?_⟩
    refine nw_cells (tag := tag4) 0 st5.sep fun y tag6 σ6 st6 r6 => ?_
    have st26 : StepS [0, 24, 28] ro tag2 σ2 tag6 σ6 := ((st3 []).s (by simp)).trans (((st4 []).s (by simp)).trans ((st5.s (by simp)).trans ((st6 []).s (by simp))))
    have k26 : StepS [28] ro tag2 σ2 tag6 σ6 := ((st3 []).s (by simp)).trans (((st4 []).s (by simp)).trans ((st5.s (by simp)).trans ((st6 []).s (by simp))))
    obtain ⟨dd, d1, d2, d3⟩ := h2.keepS k26 (by decide) (by decide)
    have hlz : (List.zipWith opV (ops.take j) dd).length = j := by rw [List.length_zipWith, d1, Nat.min_self, List.length_take]; omega
    refine awp_appendW (l2 := [opV ops[j] s']) d2 (st6 []).sep (Row.readW1 r6 (st6 []).sep rfl (by decide)) (t := 70) (by kernel_rfl) ty82 rfl (by simp [opV, storable, Sl.v]) (by rw [hlz]; simp; omega) (by decide) fun sn tag7 σ7 st7 r7 => ?_
    have st7' := st7 [24] (.inr (by simp))
    refine ⟨sn, rfl, ?_⟩
    rw [Pa.inc j (by omega)]
    refine ih (j + 1) sn tag7 σ7 (by omega) (st2.trans (st26.trans (st7'.s (by simp)))) ?_
    have etk : ops.take (j + 1) = ops.take j ++ [ops[j]] := by rw [List.take_add_one, List.getElem?_eq_getElem hjl]; rfl
    rw [etk]
    refine ⟨dd ++ [s'], by rw [List.length_append, List.length_append, d1]; rfl, ?_, fun i o d ho hd => ?_⟩
    · rw [List.zipWith_append d1.symm]; exact r7
    · rcases Nat.lt_or_ge i (ops.take j).length with h | h
      · rw [List.getElem?_append_left h] at ho
        rw [List.getElem?_append_left (by omega)] at hd
        exact (d3 i o d ho hd).keep st7' (by simp)
      · rw [List.getElem?_append_right h] at ho
        rw [List.getElem?_append_right (by omega), d1] at hd
        cases hz : i - (ops.take j).length with
        | zero =>
          rw [hz] at ho hd
          cases ho; cases hd
          exact ((r4.keep st5 (by simp)).keep (st6 []) (by simp)).keep st7' (by simp)
        | succ k => rw [hz] at ho; cases ho

theorem copied_ok {a0 : Sl} {ops : List MOp} {Q : Sl → AH → Prop} (hO : OpsR ro a0 ops) (hl : ops.length ≤ 2199023255488) (hQ : ∀ s tag' σ', StepS [0, 24, 28] ro tag σ tag' σ' → OpsAt tag' σ' 24 s ops → Q s σ') : c_law08_copied B ro a0 σ Q :=
  copied_in (fun _ σ' _ => hO.m σ') hl hQ

def awakeSt : St := [([47], ⟨0, 1, 0, 1, []⟩), ([47, 97], ⟨0, 0, 0, 0, []⟩)]
set_option maxRecDepth 100000 in
theorem awake_start : startE [[97]] = awakeSt := by rfl
theorem awake_srt : srt awakeSt = awakeSt := by
  refine (srt_of ?_ (List.Perm.refl _)).symm
  unfold Srt awakeSt
  simp [List.pairwise_cons]
def awakeOp : MOp := ⟨1, [47, 97, 47, 120], [], 0, false, false⟩
theorem awake_apply : (applyE (startE [[97]]) [97] 5 9 99 [awakeOp]).err = 0 ∧ (applyE (startE [[97]]) [97] 5 9 99 [awakeOp]).bad = -1 ∧ (applyE (startE [[97]]) [97] 5 9 99 [awakeOp]).res = [([47, 97, 47, 120], 0)] ∧ (applyE (startE [[97]]) [97] 5 9 99 [awakeOp]).st.length = 3 := by
  rw [awake_start]
  unfold applyE
  rw [if_neg (by decide), if_neg (by decide), awake_srt]
  refine ⟨by decide, by decide, by decide, by decide⟩
set_option maxRecDepth 100000 in
theorem awake8_ok {Q : Bool → AH → Prop} (g : Glob ro) (hQ : ∀ σ, SL.Sep ro σ → Q true σ) : c_law08_awake B ro σ Q := by
  refine law08_awake_ok fun hs => ?_
  unfold f_law08_awake
  refine nw_cells (tag := fun _ => 0) 22 hs fun x4 tag1 σ1 st1 r1 => ?_
  have e97 : (⟨#[97]⟩ : ByteArray) = S [97] := rfl
  refine start_ok (tag := tag1) (hs := [[97]]) 10 g (by decide) (by decide) (by decide) (fun tag2 σ2 st2 => (r1.keepC st2 (by decide)).read st2.sep) (by decide) (by simp) fun T tag2 σ2 st2 h2 hi => ?_
  rw [if_neg (by simp)]
  refine nw_cells (tag := tag2) 24 st2.sep fun x12 tag3 σ3 st3 r3 => ?_
  have hops : OpsAt tag3 σ3 24 ⟨some ⟨x12, 0, none⟩, 1, 1⟩ [awakeOp] := by
    refine ⟨[⟨none, 0, 0⟩], rfl, ?_, fun i o d ho hd => ?_⟩
    · rcases r3 with ⟨h, _⟩ | ⟨b, cs, ha, htg, hbk, hln, hcp, hle, hg⟩
      · cases h
      · cases ha
        refine .inr ⟨x12, cs, rfl, htg, hbk, rfl, by simpa using hcp.symm, by simp, by simp [opV], fun i v hv => ?_⟩
        have hv' : [vI 1, Pa.vS [47, 97, 47, 120], Sl.v ⟨none, 0, 0⟩, vI 0, Value.bool false, Value.bool false][i]? = some v := by simpa [opV, awakeOp] using hv
        have hi6 : i < 6 := by
          rcases Nat.lt_or_ge i 6 with h | h
          · exact h
          · rw [List.getElem?_eq_none (by simpa using h)] at hv'; cases hv'
        rw [hg i (by simpa using hi6)]; exact hv'
    · rcases i with _ | i
      · cases ho; cases hd; exact Row.nil _ _
      · cases ho
  have hap := awake_apply
  rw [e97]
  refine apply_ok (b := 1) (q := 24) g (by decide) (by decide) (by decide) (by decide) (by decide) (by decide) (h2.keep (st3 []) (by simp)) hi (by decide) hops (fun o ho => by rw [List.mem_singleton.1 ho]; decide) (by decide) fun rs es tag4 σ4 st4 h4 r4 _ => ?_
  obtain ⟨a1, a2, a3, a4⟩ := hap
  rw [a3] at r4
  refine nw_st (tag := tag4) 22 st4.sep rfl (by simp [storable, Sl.v]) fun x2 tag5 σ5 st5 r5 => ?_
  have r45 := r4.keep (st5 []) (by simp)
  obtain ⟨p5, hp5, hg5⟩ := r5.ptr (st5 []).sep (by simp)
  cases hp5
  rw [a1, if_pos rfl]
  refine ⟨_, hg5 2 _ rfl, ?_⟩
  rw [a2, show decide ((-1 : Int) = -1) = true from rfl]
  unfold j7_law08_awake
  rw [if_pos rfl]
  refine ⟨rs, hg5 0 _ rfl, ?_⟩
  rw [show decide ((rs.len : Int) = 1) = true from by rw [r45.len]; rfl]
  unfold j9_law08_awake
  rw [if_pos rfl]
  obtain ⟨b, hb, _, hget⟩ := r45.get (st5 []).sep (j := 0) rfl
  refine ⟨rs, hg5 0 _ rfl, _, hb, by decide, by rw [r45.len]; decide, S [47, 97, 47, 120], hget 0 _ rfl, ?_⟩
  rw [show decide (S [47, 97, 47, 120] = (⟨#[47, 97, 47, 120]⟩ : ByteArray)) = true from by decide]
  unfold j11_law08_awake
  rw [if_pos rfl]
  obtain ⟨M, bs, hA⟩ := h4.keep (st5 []) (by simp)
  refine size_ok hA ?_
  unfold j13_law08_awake
  rw [a4]
  exact hQ σ5 (st5 []).sep
end Go.Proofs.YthfpmipeejjogaaGreatDoor.Zt

/- Usage stays within its quota; two blocks lent; scripts while blocks are lent. -/
namespace Go.Proofs.YthfpmipeejjogaaGreatDoor.SL
open Go
variable {ro σ σ' : AH} {tag tag' : Nat → Nat}
theorem acell_ro {ψ τ : AH} {a : Addr} {v : Value} (h : acell ro (fun _ => none) a = some v) : acell (join ro ψ) τ a = some v := by
  unfold acell rd at h ⊢
  cases e : ro a.block with
  | none => rw [e] at h; simp [cellOf] at h
  | some o => rw [e] at h; rw [join_left e]; exact h
theorem cellsAt_ro {ψ τ : AH} {a : Addr} : ∀ {l : List Value} {i : Nat}, cellsAt ro (fun _ => none) a i l → cellsAt (join ro ψ) τ a i l
  | [], _, _ => trivial
  | _ :: _, _, h => ⟨acell_ro h.1, cellsAt_ro h.2⟩
theorem Read.ro' {ψ : AH} {s : Sl} {l : List Value} (h : Read ro (fun _ => none) s l) : Read (join ro ψ) (fun _ => none) s l :=
  ⟨h.1, h.2.1, fun p hp i v hv => acell_ro (h.2.2 p hp i v hv)⟩
theorem StepS.back {C : List Nat} {b : Nat} {τ : AH} (h : StepS C (join ro (one σ b)) tag (del σ b) tag' τ) (hs : Sep ro σ) (hd : Disj (one σ b) τ) (hb : ∃ o, σ b = some o) : StepS C ro tag σ (setTag tag' b (tag b)) (join (one σ b) τ) := by
  obtain ⟨R, h1, h2⟩ := h
  exact ⟨R, h1, h2.back hs hd hb⟩
end Go.Proofs.YthfpmipeejjogaaGreatDoor.SL
namespace Go.Proofs.YthfpmipeejjogaaGreatDoor.Zt
open Go Go.Proofs.YthfpmipeejjogaaGreatDoor.SL Go.Proofs.YthfpmipeejjogaaGreatDoor.G Go.Proofs.YthfpmipeejjogaaGreatDoor.Pa
set_option linter.unusedSimpArgs false
set_option linter.unusedVariables false
variable {B : World} {ro σ σ' : AH} {tag tag' : Nat → Nat}

/-! usage -/
/-! scripts -/
theorem OpsR.ro' {ψ : AH} {s : Sl} {ops : List MOp} (h : OpsR ro s ops) : OpsR (join ro ψ) s ops := by
  refine ⟨h.1, fun j o ho => ?_⟩
  obtain ⟨q, ds, h1, h2, h3, h4⟩ := h.2 j o ho
  exact ⟨q, ds, h1, fun σ => cellsAt_ro (h2 _), h3.ro', h4⟩
structure Txn where
  home : Str
  owner : Int
  qn : Int
  qb : Int
  ops : List MOp
  sweep : Bool
/-- a transaction as it came in, its values -/
def txV (t : Txn) (s : Sl) : List Value := [.string (S t.home), .int .i64 t.owner, .int .i64 t.qn, .int .i64 t.qb, Sl.v s, .bool t.sweep]
def TxsR (ro : AH) (s : Sl) (txs : List Txn) : Prop := s.len = txs.length ∧ ∀ j t, txs[j]? = some t → ∃ q os, s.a = some q ∧ (∀ σ, SL.cellsAt ro σ (q.add (j * 6)) 0 (txV t os)) ∧ t.home.length ≤ reachBytes ∧ OpsR ro os t.ops ∧ t.ops.length ≤ 2199023255488
/-- a tree, with one block of another role lent -/
theorem TreeIs.del' {r T b x : Nat} {st : St} (h : TreeIs tag σ r T st) (hb : tag b = x) (hx : x < 64) (hr : r < 64) (hxr : x ≠ r) (hx6 : x ≠ 6) : TreeIs tag (SL.del σ b) r T st := by
  obtain ⟨M, bs, h⟩ := h
  refine ⟨M, bs, h.keys, h.len, h.nd, h.cell.del hb (Ne.symm hxr), h.map.del (by rw [hb]; omega), fun i c p hc hp => ?_⟩
  obtain ⟨s, h1, h2⟩ := h.nodes i c p hc hp
  exact ⟨s, h1.del hb (by omega), h2.del hb (by omega)⟩
end Go.Proofs.YthfpmipeejjogaaGreatDoor.Zt

/- results compared -/
namespace Go.Proofs.YthfpmipeejjogaaGreatDoor.Zt
open Go Go.Proofs.YthfpmipeejjogaaGreatDoor.SL Go.Proofs.YthfpmipeejjogaaGreatDoor.G Go.Proofs.YthfpmipeejjogaaGreatDoor.Pa
set_option linter.unusedSimpArgs false
set_option linter.unusedVariables false
set_option maxRecDepth 100000
variable {B : World} {ro σ σ' : AH} {tag tag' : Nat → Nat}
theorem aread_bind {α β : Type} {P : Program} (s : Sem α) (f : α → Sem β) {τ : AH} {a : α} (h : aread P ro s τ = some a) : aread P ro (Sem.bind s f) τ = aread P ro (f a) τ := by
  induction s with
  | pure x => cases h; rfl
  | load m x k ih =>
    simp only [aread] at h
    simp only [Sem.bind, aread]
    split at h
    · exact ih _ h
    · cases h
  | program k ih => exact ih _ h
  | mark m k ih => exact ih h
  | _ => cases h
end Go.Proofs.YthfpmipeejjogaaGreatDoor.Zt

/- Several changes are as one by one; a transaction read from a block that is lent. -/
namespace Go.Proofs.YthfpmipeejjogaaGreatDoor.Zt
open Go Go.Proofs.YthfpmipeejjogaaGreatDoor.SL Go.Proofs.YthfpmipeejjogaaGreatDoor.G Go.Proofs.YthfpmipeejjogaaGreatDoor.Pa
set_option linter.unusedSimpArgs false
set_option linter.unusedVariables false
variable {B : World} {ro σ σ' : AH} {tag tag' : Nat → Nat}

/-! the same on trees that are the same but for their order -/
/-! a block lent -/
theorem RowW.back {r : Nat} {e : TypeId} {w : Nat} {s : Sl} {l : List (List Value)} {b r' : Nat} {τ : AH} (h : RowW tag' τ r e w s l) (hd : Disj (SL.one σ b) τ) (hb : ∃ o, σ b = some o) : RowW (setTag tag' b r') (join (SL.one σ b) τ) r e w s l := by
  rcases h with h | ⟨c, cs, ha, ht, hs, hx⟩
  · exact .inl h
  · have hcb : c ≠ b := fun e => by
      obtain ⟨o, ho⟩ := hb
      have := hd b o (by unfold SL.one; rw [if_pos rfl]; exact ho)
      rw [← e, hs] at this; cases this
    exact .inr ⟨c, cs, ha, by unfold setTag; rw [if_neg hcb]; exact ht, by unfold join SL.one; rw [if_neg hcb]; exact hs, hx⟩
theorem region_back {X : Nat} {C : List Nat} {tag1 : Nat → Nat} {σ1 : AH} (hs : SL.Sep ro σ) (hX : ∃ o, σ X = some o) (hd : Disj (SL.one σ X) σ1) (st : StepS C (join ro (SL.one σ X)) tag (SL.del σ X) tag1 σ1) :
    ∃ tag2, StepS C ro tag σ tag2 (join (SL.one σ X) σ1) ∧ (∀ r T st, TreeIs tag1 σ1 r T st → TreeIs tag2 (join (SL.one σ X) σ1) r T st) ∧ (∀ r e w s l, RowW tag1 σ1 r e w s l → RowW tag2 (join (SL.one σ X) σ1) r e w s l) ∧ (∀ r e s l, Row tag1 σ1 r e s l → Row tag2 (join (SL.one σ X) σ1) r e s l) :=
  ⟨_, StepS.back st hs hd hX, fun r T st h => h.back hd hX, fun r e w s l h => RowW.back h hd hX, fun r e s l h => h.back hd hX⟩
set_option maxRecDepth 100000 in
/-- a transaction applied, itself in a block of role 29 that is lent -/
theorem txn_in {r T b X : Nat} {st : St} {t : Txn} {os : Sl} {K : Sl → Sl → Int → Int → AH → AH → Prop} (g : Glob ro) (hs : SL.Sep ro σ) (hr : r < 64) (hrD : r ∉ DA) (hr6 : r ≠ 6) (hr63 : r ≠ 63) (hrX : r ∉ [0, 24, 28, 29]) (hT : TreeIs tag σ r T st) (hi : InvB b st) (hb : b ≤ 1073741824)
    (hX : Row tag σ 29 72 ⟨some ⟨X, 0, none⟩, 6, 6⟩ (txV t os)) (hO : OpsR ro os t.ops) (hol : t.ops.length ≤ 2199023255488) (hhl : t.home.length ≤ 4611686018427387903)
    (hK : ∀ rs es tag1 σ1, StepS (0 :: 24 :: 28 :: r :: DA) (join ro (SL.one σ X)) tag (SL.del σ X) tag1 σ1 → TreeIs tag1 σ1 r T (applyE st t.home t.owner t.qn t.qb t.ops).st → RowW tag1 σ1 14 84 2 rs ((applyE st t.home t.owner t.qn t.qb t.ops).res.map resV) → RowW tag1 σ1 15 108 2 es ((applyE st t.home t.owner t.qn t.qb t.ops).eff.map effV) →
      K rs es (applyE st t.home t.owner t.qn t.qb t.ops).bad (applyE st t.home t.owner t.qn t.qb t.ops).err (SL.one σ X) σ1) :
    lent σ fun ψ σ => ∃ x1 : ByteArray, acell (join ro ψ) (fun _ => none) ⟨X, 0, none⟩ = some (.string x1) ∧
      ∃ x2 : Int, acell (join ro ψ) (fun _ => none) ((⟨X, 0, none⟩ : Addr).add 1) = some (.int .i64 x2) ∧
      ∃ (x3 x4 : Int), cellsAt (join ro ψ) (fun _ => none) ((⟨X, 0, none⟩ : Addr).add 2) 0 [.int .i64 x3, .int .i64 x4] ∧
      ∃ x5 : Sl, acell (join ro ψ) σ ((⟨X, 0, none⟩ : Addr).add 4) = some (Sl.v x5) ∧
      c_law08_copied B (join ro ψ) x5 σ fun x6 σ =>
      c_multi_Apply B (join ro ψ) (some ⟨T, 0, none⟩) x1 x2 x3 x4 x6 σ fun rs es bad err σ => K rs es bad err ψ σ := by
  refine lent_block X ?_
  obtain ⟨tX, o1, hX'⟩ := hX.tagOf
  have cX : ∀ τ i v, (txV t os)[i]? = some v → acell (join ro (SL.one σ X)) τ ((⟨X, 0, none⟩ : Addr).add i) = some v := fun τ i v hv => by
    have := hX.lend hs (τ := τ) hv
    rwa [Nat.mul_one] at this
  simp only [List.mem_cons, List.not_mem_nil, or_false, not_or] at hrX
  have hA := hT.del' tX (by decide) hr (by omega) (by decide) (b := X)
  refine ⟨S t.home, cX _ 0 _ rfl, t.owner, cX _ 1 _ rfl, t.qn, t.qb, cellsAt_of 0 fun i v hv => ?_, os, cX _ 4 _ rfl, ?_⟩
  · have := cX (fun _ => none) (2 + i) v (by
      rcases i with _ | _ | i
      · exact hv
      · exact hv
      · cases hv)
    rw [add_add] at this ⊢
    rw [add_add, Nat.zero_add, Nat.zero_add]
    rwa [Nat.zero_add] at this
  refine copied_ok (tag := tag) hO.ro' hol fun s9 tag9 σ9 st9 ho9 => ?_
  have h9 := hA.keepS st9 (by rw [Nat.mod_eq_of_lt hr]; simp; omega) (by decide)
  refine apply_ok (b := b) (q := 24) (glob_lent g) hr hrD hr6 hr63 (by decide) (by decide) h9 hi hb ho9 hO.data hhl fun rs es tag10 σ10 st10 h10 r14 r15 => ?_
  exact hK rs es tag10 σ10 ((st9.mono (by simp)).trans (st10.mono (fun c hc => List.mem_cons_of_mem _ (List.mem_cons_of_mem _ (List.mem_cons_of_mem _ hc))))) h10 r14 r15
end Go.Proofs.YthfpmipeejjogaaGreatDoor.Zt

/- Transactions of two homes do not meet: the pure part. -/
namespace Go.Proofs.YthfpmipeejjogaaGreatDoor.Zt
open Go Go.Proofs.YthfpmipeejjogaaGreatDoor.SL Go.Proofs.YthfpmipeejjogaaGreatDoor.Pa
set_option linter.unusedSimpArgs false
set_option linter.unusedVariables false

/-- two trees agree on a home -/
def Loc (h : Str) (a b : St) : Prop := ∀ k, homeOf k = some h → a.lookup k = b.lookup k
/-- a tree behind a change is as before outside a home -/
def Out (h : Str) (a a' : St) : Prop := ∀ k, homeOf k ≠ some h → a'.lookup k = a.lookup k
theorem parts_up {q u : Str} (h : parent q = some u) : ∃ qs, parts q = some qs ∧ qs ≠ [] ∧ parts u = some qs.dropLast := by
  unfold parent at h
  cases hq : parts q with
  | none => rw [hq] at h; cases h
  | some qs =>
    rw [hq] at h
    simp only at h
    split at h
    · cases h
    · rename_i hne
      cases h
      exact ⟨qs, rfl, hne, parts_iff.2 ⟨rfl, (parts_iff.1 hq).2.up⟩⟩
theorem home_down {q u h : Str} (hp : parent q = some u) (hu : homeOf u = some h) : homeOf q = some h := by
  obtain ⟨qs, h1, h2, h3⟩ := parts_up hp
  rw [homeOf_parts h3] at hu
  rw [homeOf_parts h1]
  match qs, h2 with
  | [x], _ => simp at hu
  | x :: y :: r, _ => simpa using hu
theorem home_up {q u h : Str} {qs : List Str} (hq : parts q = some qs) (hh : qs.head? = some h) (hl : qs.length ≠ 1) (hp : parent q = some u) : homeOf u = some h := by
  obtain ⟨qs', h1, h2, h3⟩ := parts_up hp
  rw [hq] at h1; cases h1
  rw [homeOf_parts h3]
  match qs, h2 with
  | [x], _ => simp at hl
  | x :: y :: r, _ => simpa using hh
theorem keys_ne {h k p : Str} (hk : homeOf k ≠ some h) (hp : homeOf p = some h) : k ≠ p := fun e => hk (by rw [e]; exact hp)

/-! the three changes -/
theorem create_loc {h p d : Str} {a b : St} {o : Int} {seq : Bool} (hu : ∀ u, parent p = some u → homeOf u = some h) (L : Loc h a b) : (create a p d o seq).2 = (create b p d o seq).2 ∧ Loc h (create a p d o seq).1 (create b p d o seq).1 := by
  unfold create
  cases hp : parent p with
  | none => exact ⟨rfl, L⟩
  | some u =>
    have hhu := hu u hp
    simp only
    rw [L u hhu]
    split
    · exact ⟨rfl, L⟩
    · split
      · exact ⟨rfl, L⟩
      · cases hn : b.lookup u with
        | none => exact ⟨rfl, L⟩
        | some n =>
          simp only
          split
          · exact ⟨rfl, L⟩
          · split
            · exact ⟨rfl, L⟩
            · cases hq : (if seq then suffix p n.ctr else some p) with
              | none => exact ⟨rfl, L⟩
              | some q =>
                simp only
                have hpq : parent q = some u := by
                  cases seq with
                  | true => simp at hq; obtain ⟨_, _, e⟩ := suffix_parent hq; rw [e, hp]
                  | false => simp at hq; rw [← hq, hp]
                have hhq := home_down hpq hhu
                rw [L q hhq]
                split
                · exact ⟨rfl, L⟩
                · refine ⟨rfl, fun k hk => ?_⟩
                  rw [lookup_mod, lookup_mod, lookup_app, lookup_app, L k hk]
theorem create_out {h p d : Str} {a : St} {o : Int} {seq : Bool} (hu : ∀ u, parent p = some u → homeOf u = some h) : Out h a (create a p d o seq).1 := by
  have R : Out h a a := fun _ _ => rfl
  unfold create
  cases hp : parent p with
  | none => exact R
  | some u =>
    have hhu := hu u hp
    simp only
    split
    · exact R
    · split
      · exact R
      · cases hn : a.lookup u with
        | none => exact R
        | some n =>
          simp only
          split
          · exact R
          · split
            · exact R
            · cases hq : (if seq then suffix p n.ctr else some p) with
              | none => exact R
              | some q =>
                simp only
                have hpq : parent q = some u := by
                  cases seq with
                  | true => simp at hq; obtain ⟨_, _, e⟩ := suffix_parent hq; rw [e, hp]
                  | false => simp at hq; rw [← hq, hp]
                have hhq := home_down hpq hhu
                split
                · exact R
                · intro k hk
                  rw [lookup_mod, if_neg (keys_ne hk hhu), lookup_app]
                  cases a.lookup k with
                  | some m => rfl
                  | none => simp only; rw [if_neg (keys_ne hk hhq)]
theorem remove_loc {h p : Str} {a b : St} {v : Int} (hka : (a.map (·.1)).Nodup) (hkb : (b.map (·.1)).Nodup) (hp : homeOf p = some h) (hu : ∀ u, parent p = some u → homeOf u = some h) (L : Loc h a b) : (remove a p v).2 = (remove b p v).2 ∧ Loc h (remove a p v).1 (remove b p v).1 := by
  unfold remove
  rw [L p hp]
  split
  · exact ⟨rfl, L⟩
  · cases hn : b.lookup p with
    | none => exact ⟨rfl, L⟩
    | some n =>
      simp only
      split
      · exact ⟨rfl, L⟩
      · split
        · exact ⟨rfl, L⟩
        · cases hpp : parent p with
          | none => exact ⟨rfl, L⟩
          | some u =>
            simp only
            refine ⟨by trivial, fun k hk => ?_⟩
            rw [lookup_del (by rw [keys_mod]; exact hka), lookup_del (by rw [keys_mod]; exact hkb), lookup_mod, lookup_mod, L k hk]
theorem remove_out {h p : Str} {a : St} {v : Int} (hka : (a.map (·.1)).Nodup) (hp : homeOf p = some h) (hu : ∀ u, parent p = some u → homeOf u = some h) : Out h a (remove a p v).1 := by
  have R : Out h a a := fun _ _ => rfl
  unfold remove
  split
  · exact R
  · cases hn : a.lookup p with
    | none => exact R
    | some n =>
      simp only
      split
      · exact R
      · split
        · exact R
        · cases hpp : parent p with
          | none => exact R
          | some u =>
            simp only
            intro k hk
            rw [lookup_del (by rw [keys_mod]; exact hka), if_neg (keys_ne hk hp), lookup_mod, if_neg (keys_ne hk (hu u hpp))]
theorem setD_loc {h p d : Str} {a b : St} {v : Int} (hp : homeOf p = some h) (L : Loc h a b) : (setD a p d v).2 = (setD b p d v).2 ∧ Loc h (setD a p d v).1 (setD b p d v).1 := by
  unfold setD
  rw [L p hp]
  split
  · exact ⟨rfl, L⟩
  · split
    · exact ⟨rfl, L⟩
    · cases hn : b.lookup p with
      | none => exact ⟨rfl, L⟩
      | some n =>
        simp only
        split
        · exact ⟨rfl, L⟩
        · exact ⟨rfl, fun k hk => by rw [lookup_mod, lookup_mod, L k hk]⟩
theorem setD_out {h p d : Str} {a : St} {v : Int} (hp : homeOf p = some h) : Out h a (setD a p d v).1 := by
  have R : Out h a a := fun _ _ => rfl
  unfold setD
  split
  · exact R
  · split
    · exact R
    · cases hn : a.lookup p with
      | none => exact R
      | some n =>
        simp only
        split
        · exact R
        · intro k hk
          rw [lookup_mod, if_neg (keys_ne hk hp)]

/-! one change of a transaction -/
theorem within_path {home : Str} {o : MOp} (h : withinE home o = 0) : homeOf o.path = some home ∧ (o.kind ≤ 2 → ∀ u, parent o.path = some u → homeOf u = some home) := by
  unfold withinE at h
  split at h
  · cases h
  · cases hp : parts o.path with
    | none => rw [hp] at h; cases h
    | some ps =>
      rw [hp] at h
      simp only at h
      split at h
      · cases h
      · rename_i hc
        simp only [not_or, Classical.not_not, not_and] at hc
        refine ⟨by rw [homeOf_parts hp]; exact hc.1, fun hk u hu => home_up hp hc.1 (fun e => ?_) hu⟩
        exact absurd hk (by have := hc.2 e; omega)
theorem core_loc {home : Str} {owner : Int} {a b : St} {o : MOp} (hw : withinE home o = 0) (hka : (a.map (·.1)).Nodup) (hkb : (b.map (·.1)).Nodup) (L : Loc home a b) : (core owner a o).2 = (core owner b o).2 ∧ Loc home (core owner a o).1 (core owner b o).1 := by
  obtain ⟨h1, h2⟩ := within_path hw
  unfold core
  split
  · obtain ⟨e1, e2⟩ := create_loc (p := o.path) (d := o.data) (o := if o.eph then owner else 0) (seq := o.seq) (h2 (by omega)) L
    exact ⟨by simp only; rw [e1], e2⟩
  · split
    · obtain ⟨e1, e2⟩ := remove_loc (v := o.ver) hka hkb h1 (h2 (by omega)) L
      exact ⟨by simp only; rw [e1], e2⟩
    · split
      · obtain ⟨e1, e2⟩ := setD_loc (d := o.data) (v := o.ver) h1 L
        exact ⟨by simp only; rw [e1], e2⟩
      · refine ⟨?_, L⟩
        simp only
        unfold chkE
        rw [L _ h1]
theorem core_out {home : Str} {owner : Int} {a : St} {o : MOp} (hw : withinE home o = 0) (hka : (a.map (·.1)).Nodup) : Out home a (core owner a o).1 := by
  obtain ⟨h1, h2⟩ := within_path hw
  unfold core
  split
  · exact create_out (h2 (by omega))
  · split
    · exact remove_out hka h1 (h2 (by omega))
    · split
      · exact setD_out h1
      · exact fun _ _ => rfl
theorem nodup_st {a : St} (h : (a.map (·.1)).Nodup) : a.Nodup := List.Pairwise.of_map (·.1) (fun a b h e => h (by rw [e])) h
theorem sum_filter (h : Str) : ∀ a : St, (a.map (uw h)).sum = ((a.filter fun p => decide (homeOf p.1 = some h)).map (uw h)).sum
  | [] => rfl
  | p :: r => by
    have ih := sum_filter h r
    by_cases c : homeOf p.1 = some h
    · rw [List.filter_cons_of_pos (by simpa using c)]; simp [ih]
    · rw [List.filter_cons_of_neg (by simpa using c)]
      rw [List.map_cons, List.sum_cons, ih]
      unfold uw; rw [if_neg c]; simp
theorem usage_loc {h : Str} {a b : St} (hka : (a.map (·.1)).Nodup) (hkb : (b.map (·.1)).Nodup) (L : Loc h a b) : usage a h = usage b h := by
  have hp : (a.filter fun p => decide (homeOf p.1 = some h)).Perm (b.filter fun p => decide (homeOf p.1 = some h)) := by
    refine (List.perm_ext_iff_of_nodup ((nodup_st hka).filter _) ((nodup_st hkb).filter _)).2 fun p => ?_
    obtain ⟨k, n⟩ := p
    simp only [List.mem_filter, decide_eq_true_eq]
    constructor
    · rintro ⟨h1, h2⟩
      exact ⟨(lookup_iff hkb).1 (by rw [← L k h2]; exact (lookup_iff hka).2 h1), h2⟩
    · rintro ⟨h1, h2⟩
      exact ⟨(lookup_iff hka).1 (by rw [L k h2]; exact (lookup_iff hkb).2 h1), h2⟩
  unfold usage
  rw [sum_filter h a, sum_filter h b, sum_perm (hp.map (uw h)), List.countP_eq_length_filter, List.countP_eq_length_filter, hp.length_eq]
theorem doE_loc {home : Str} {owner qn qb : Int} {b b' : Nat} {w w' : Work} {o : MOp} (hw : InvB b w.st) (hw' : InvB b' w'.st) (hb : b ≤ 4398046511103) (hb' : b' ≤ 4398046511103) (L : Loc home w.st w'.st) (hr : w.res.length = w'.res.length) :
    (doE home owner qn qb w o).1 = (doE home owner qn qb w' o).1 ∧ Loc home (doE home owner qn qb w o).2.st (doE home owner qn qb w' o).2.st ∧ (doE home owner qn qb w o).2.res.length = (doE home owner qn qb w' o).2.res.length := by
  by_cases hc : withinE home o = 0
  · obtain ⟨h1, h2⟩ := core_loc (owner := owner) hc hw.inv.keys hw'.inv.keys L
    have hu := usage_loc (core_inv (owner := owner) (o := o) hw hb).inv.keys (core_inv (owner := owner) (o := o) hw' hb').inv.keys h2
    have ho : overE (core owner w'.st o).1 home qn qb o.kind = overE (core owner w.st o).1 home qn qb o.kind := by unfold overE; rw [hu]
    unfold doE
    rw [← h1, ho, if_neg (show ¬ withinE home o ≠ 0 by simpa using hc), if_neg (show ¬ withinE home o ≠ 0 by simpa using hc)]
    split
    · exact ⟨rfl, h2, hr⟩
    · split
      · exact ⟨rfl, h2, hr⟩
      · exact ⟨rfl, h2, by simp [hr]⟩
  · unfold doE
    rw [if_pos hc, if_pos hc]
    exact ⟨rfl, L, hr⟩
theorem doE_out {home : Str} {owner qn qb : Int} {w : Work} {o : MOp} (hk : (w.st.map (·.1)).Nodup) : Out home w.st (doE home owner qn qb w o).2.st := by
  by_cases hc : withinE home o = 0
  · have := core_out (owner := owner) hc hk
    unfold doE
    rw [if_neg (by simpa using hc)]
    split
    · exact this
    · split
      · exact this
      · exact this
  · unfold doE
    rw [if_pos hc]
    exact fun _ _ => rfl
theorem applyL_loc {home : Str} {owner qn qb : Int} : ∀ {os : List MOp} {i b b' : Nat} {w w' : Work}, InvB b w.st → InvB b' w'.st → b + os.length ≤ 4398046511103 → b' + os.length ≤ 4398046511103 → Loc home w.st w'.st → w.res.length = w'.res.length →
    (∃ x, applyL home owner qn qb os i w = .inl x ∧ applyL home owner qn qb os i w' = .inl x) ∨ ∃ v v', applyL home owner qn qb os i w = .inr v ∧ applyL home owner qn qb os i w' = .inr v' ∧ Loc home v.st v'.st ∧ v.res.length = v'.res.length := by
  intro os
  induction os with
  | nil => intro i b b' w w' h1 h2 _ _ L hr; exact .inr ⟨w, w', rfl, rfl, L, hr⟩
  | cons o os ih =>
    intro i b b' w w' h1 h2 hb hb' L hr
    simp only [List.length_cons] at hb hb'
    obtain ⟨e1, e2, e3⟩ := doE_loc (owner := owner) (qn := qn) (qb := qb) (o := o) h1 h2 (by omega) (by omega) L hr
    unfold applyL
    rw [← e1]
    split
    · exact .inl ⟨_, rfl, rfl⟩
    · exact ih (doE_inv h1 (by omega)) (doE_inv h2 (by omega)) (by omega) (by omega) e2 e3
theorem applyL_out {home : Str} {owner qn qb : Int} : ∀ {os : List MOp} {i b : Nat} {w v : Work}, InvB b w.st → b + os.length ≤ 4398046511103 → applyL home owner qn qb os i w = .inr v → Out home w.st v.st := by
  intro os
  induction os with
  | nil => intro i b w v _ _ h; cases h; exact fun _ _ => rfl
  | cons o os ih =>
    intro i b w v h1 hb h
    simp only [List.length_cons] at hb
    unfold applyL at h
    split at h
    · cases h
    · have e1 := ih (doE_inv h1 (by omega)) (by omega) h
      have e2 := doE_out (home := home) (owner := owner) (qn := qn) (qb := qb) (o := o) h1.inv.keys
      exact fun k hk => (e1 k hk).trans (e2 k hk)
theorem srt_lookup {a : St} (hk : (a.map (·.1)).Nodup) (k : Str) : (srt a).lookup k = a.lookup k := (lookup_perm (srt_perm a).symm hk k).symm
/-! whole transactions -/
theorem applyE_loc {home : Str} {owner qn qb : Int} {ops : List MOp} {a c : St} {b b' : Nat} (ha : InvB b a) (hc : InvB b' c) (hb : b ≤ 4398046511000) (hb' : b' ≤ 4398046511000) (L : Loc home a c) :
    (applyE a home owner qn qb ops).err = (applyE c home owner qn qb ops).err ∧ (applyE a home owner qn qb ops).bad = (applyE c home owner qn qb ops).bad ∧ (applyE a home owner qn qb ops).res.length = (applyE c home owner qn qb ops).res.length ∧ Loc home (applyE a home owner qn qb ops).st (applyE c home owner qn qb ops).st := by
  unfold applyE
  split
  · exact ⟨rfl, rfl, rfl, L⟩
  · split
    · exact ⟨rfl, rfl, rfl, L⟩
    · rcases applyL_loc (home := home) (owner := owner) (qn := qn) (qb := qb) (os := ops) (i := 0) (w := ⟨srt a, [], []⟩) (w' := ⟨srt c, [], []⟩) (invB_srt ha) (invB_srt hc) (by omega) (by omega) (fun k hk => by simp only; rw [srt_lookup ha.inv.keys, srt_lookup hc.inv.keys]; exact L k hk) rfl with ⟨x, e1, e2⟩ | ⟨v, v', e1, e2, e3, e4⟩
      · rw [e1, e2]; exact ⟨rfl, rfl, rfl, L⟩
      · rw [e1, e2]; exact ⟨rfl, rfl, e4, e3⟩
theorem applyE_out {home : Str} {owner qn qb : Int} {ops : List MOp} {a : St} {b : Nat} (ha : InvB b a) (hb : b ≤ 4398046511000) : Out home a (applyE a home owner qn qb ops).st := by
  unfold applyE
  split
  · exact fun _ _ => rfl
  · split
    · exact fun _ _ => rfl
    · cases e : applyL home owner qn qb ops 0 ⟨srt a, [], []⟩ with
      | inl x => exact fun _ _ => rfl
      | inr w =>
        have := applyL_out (invB_srt ha) (by omega) e
        exact fun k hk => (this k hk).trans (srt_lookup ha.inv.keys k)
theorem perm_lookup {a b : St} (ha : (a.map (·.1)).Nodup) (hb : (b.map (·.1)).Nodup) (h : ∀ k, a.lookup k = b.lookup k) : a.Perm b := by
  refine (List.perm_ext_iff_of_nodup (nodup_st ha) (nodup_st hb)).2 fun p => ?_
  obtain ⟨k, n⟩ := p
  rw [← lookup_iff ha, ← lookup_iff hb, h]
/-- a transaction applied -/
def txE (st : St) (t : Txn) : Done := applyE st t.home t.owner t.qn t.qb t.ops
/-- transactions of two homes: in either order the same -/
theorem apart_ok {s : St} {b : Nat} {x y : Txn} (hs : InvB b s) (hb : b ≤ 4398046510000) (hne : x.home ≠ y.home) :
    (txE s x).err = (txE (txE s y).st x).err ∧ (txE s x).bad = (txE (txE s y).st x).bad ∧ (txE s x).res.length = (txE (txE s y).st x).res.length ∧
    (txE s y).err = (txE (txE s x).st y).err ∧ (txE s y).bad = (txE (txE s x).st y).bad ∧ (txE s y).res.length = (txE (txE s x).st y).res.length ∧ (txE (txE s x).st y).st.Perm (txE (txE s y).st x).st := by
  have ox : Out x.home s (txE s x).st := applyE_out hs (by omega)
  have oy : Out y.home s (txE s y).st := applyE_out hs (by omega)
  have ix : InvB (b + 16) (txE s x).st := applyE_inv hs (by omega)
  have iy : InvB (b + 16) (txE s y).st := applyE_inv hs (by omega)
  have lx : Loc x.home s (txE s y).st := fun k hk => (oy k (by rw [hk]; intro e; exact hne (Option.some.inj e))).symm
  have ly : Loc y.home s (txE s x).st := fun k hk => (ox k (by rw [hk]; intro e; exact hne (Option.some.inj e).symm)).symm
  obtain ⟨x1, x2, x3, x4⟩ := applyE_loc (owner := x.owner) (qn := x.qn) (qb := x.qb) (ops := x.ops) hs iy (by omega) (by omega) lx
  obtain ⟨y1, y2, y3, y4⟩ := applyE_loc (owner := y.owner) (qn := y.qn) (qb := y.qb) (ops := y.ops) hs ix (by omega) (by omega) ly
  refine ⟨x1, x2, x3, y1, y2, y3, ?_⟩
  have oxy : Out y.home (txE s x).st (txE (txE s x).st y).st := applyE_out ix (by omega)
  have oyx : Out x.home (txE s y).st (txE (txE s y).st x).st := applyE_out iy (by omega)
  refine perm_lookup (applyE_inv ix (by omega)).inv.keys (applyE_inv iy (by omega)).inv.keys fun k => ?_
  by_cases hx : homeOf k = some x.home
  · have hy : homeOf k ≠ some y.home := by rw [hx]; intro e; exact hne (Option.some.inj e)
    exact (oxy k hy).trans (x4 k hx)
  · by_cases hy : homeOf k = some y.home
    · exact (y4 k hy).symm.trans (oyx k hx).symm
    · exact ((oxy k hy).trans (ox k hx)).trans ((oyx k hx).trans (oy k hy)).symm
end Go.Proofs.YthfpmipeejjogaaGreatDoor.Zt
