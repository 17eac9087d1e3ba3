/- GL8, MuG, MuH, MuE84, MuI -/
import Derived.Test.YthfpmipeejjogaaGreatDoorXL
/- Functions as predicate transformers, and the proofs that the code does what they tell: printed by wip/tools/gen.py. -/
namespace Go.Proofs.YthfpmipeejjogaaGreatDoor.G
open Go Go.Proofs.YthfpmipeejjogaaGreatDoor.SL
set_option linter.unusedVariables false
set_option linter.unusedSimpArgs false

def j21_law08_MultiWhole (B : World) (ro : AH) (Q : Bool → AH → Prop) (x88_22 : Bool) (σ : AH) : Prop :=
 Q x88_22 σ

def j19_law08_MultiWhole (B : World) (ro : AH) (Q : Bool → AH → Prop) (x85_20 : Bool) (σ : AH) : Prop :=
 if x85_20 = true then
  c_law08_awake B ro σ fun x87_23 σ =>
  j21_law08_MultiWhole B ro Q x87_23 σ
 else
 j21_law08_MultiWhole B ro Q false σ

def j17_law08_MultiWhole (B : World) (ro : AH) (x13_14 : Nat) (Q : Bool → AH → Prop) (x79_18 : Bool) (σ : AH) : Prop :=
 if x79_18 = true then
  ∃ (x82_24 : Sl), acell ro σ ((⟨x13_14, 0, none⟩ : Addr).add 1) = some (Sl.v x82_24) ∧
  j19_law08_MultiWhole B ro Q (decide ((x82_24.len : Int) = 0)) σ
 else
 j19_law08_MultiWhole B ro Q false σ

def j32_law08_MultiWhole (B : World) (ro : AH) (Q : Bool → AH → Prop) (x155_33 : Bool) (σ : AH) : Prop :=
 Q x155_33 σ

def j30_law08_MultiWhole (B : World) (ro : AH) (Q : Bool → AH → Prop) (x152_31 : Bool) (σ : AH) : Prop :=
 if x152_31 = true then
  c_law08_awake B ro σ fun x154_34 σ =>
  j32_law08_MultiWhole B ro Q x154_34 σ
 else
 j32_law08_MultiWhole B ro Q false σ

def j26_law08_MultiWhole (B : World) (ro : AH) (x5_1 : Nat) (x13_14 : Nat) (x20_2 : Option Addr) (x45_5 : Option Addr) (Q : Bool → AH → Prop) (σ : AH) : Prop :=
 c_ztree_Tree_Encode B ro x45_5 σ fun x140_27 σ =>
 c_ztree_Tree_Encode B ro x20_2 σ fun x142_28 σ =>
 c_ref01_Same B ro x140_27 x142_28 σ fun x143_29 σ =>
 if x143_29 = true then
  ∃ (x146_35 : Sl), acell ro σ ⟨x13_14, 0, none⟩ = some (Sl.v x146_35) ∧
  ∃ (x149_36 : Sl), acell ro σ ((⟨x5_1, 0, none⟩ : Addr).add 4) = some (Sl.v x149_36) ∧
  j30_law08_MultiWhole B ro Q (decide ((x146_35.len : Int) = (x149_36.len : Int))) σ
 else
 j30_law08_MultiWhole B ro Q false σ

def j52_law08_MultiWhole (B : World) (ro : AH) (x5_1 : Nat) (x13_14 : Nat) (x20_2 : Option Addr) (x45_5 : Option Addr) (x90_37 : Sl) (x92_39 : Int) (Q : Bool → AH → Prop) (Y38 : (Int) → AH → Prop) (x137_53 : Bool) (σ : AH) : Prop :=
 if x137_53 = true then
  Q false σ
 else
 Y38 (IntKind.i64.wrap (x92_39 + 1)) σ

def l38_law08_MultiWhole (B : World) (ro : AH) (x5_1 : Nat) (x13_14 : Nat) (x20_2 : Option Addr) (x45_5 : Option Addr) (x90_37 : Sl) (Q : Bool → AH → Prop) : (Int) → AH → ((Int) → AH → Prop) → Prop := fun x92_39 σ Y38 =>
 if x92_39 < (x90_37.len : Int) then
  ∃ p95_40 : Addr, x90_37.a = some p95_40 ∧ (0 : Int) ≤ x92_39 ∧ x92_39 < (x90_37.len : Int) ∧
  ∃ (x96_41a : Int) (x96_41b : ByteArray) (x96_41c : Sl) (x96_41d : Int) (x96_41e : Bool) (x96_41f : Bool), cellsAt ro σ (p95_40.add (Int.toNat x92_39 * 6)) 0 [.int .i64 x96_41a, .string x96_41b, Sl.v x96_41c, .int .i64 x96_41d, .bool x96_41e, .bool x96_41f] ∧
  nw ro σ (.cells #[.int .i64 0, .string ByteArray.empty, Sl.v (⟨none, 0, 0⟩ : Sl), .int .i64 0, .bool false, .bool false] 82) fun x16_42 σ =>
  stN ⟨x16_42, 0, none⟩ (fun σ =>
   lent σ fun ψ σ =>
    ∃ (x100_43 : ByteArray), acell (join ro ψ) (fun _ => none) ⟨x5_1, 0, none⟩ = some (.string x100_43) ∧
    ∃ (x102_44 : Int), acell (join ro ψ) (fun _ => none) ((⟨x5_1, 0, none⟩ : Addr).add 1) = some (.int .i64 x102_44) ∧
    ∃ (x104_45a : Int) (x104_45b : Int), cellsAt (join ro ψ) (fun _ => none) ((⟨x5_1, 0, none⟩ : Addr).add 2) 0 [.int .i64 x104_45a, .int .i64 x104_45b] ∧
    ∃ (x105_46a : Int) (x105_46b : ByteArray) (x105_46c : Sl) (x105_46d : Int) (x105_46e : Bool) (x105_46f : Bool), cellsAt (join ro ψ) σ ⟨x16_42, 0, none⟩ 0 [.int .i64 x105_46a, .string x105_46b, Sl.v x105_46c, .int .i64 x105_46d, .bool x105_46e, .bool x105_46f] ∧
    nw (join ro ψ) σ (.cells #[.int .i64 x105_46a, .string x105_46b, Sl.v x105_46c, .int .i64 x105_46d, .bool x105_46e, .bool x105_46f] 82) fun x106_47 σ =>
    c_law08_copied B (join ro ψ) (⟨some ⟨x106_47, 0, none⟩, 1, 1⟩ : Sl) σ fun x107_48 σ =>
    c_multi_Apply B (join ro ψ) x45_5 x100_43 x102_44 x104_45a x104_45b x107_48 σ fun x108_49a x108_49b x108_49c x108_50 σ =>
    nw (join ro ψ) σ (.cells #[Sl.v (⟨none, 0, 0⟩ : Sl), Sl.v (⟨none, 0, 0⟩ : Sl), .int .i64 0] 77) fun x17_51 σ =>
    stN ⟨x17_51, 0, none⟩ (fun σ =>
     (Disj ψ σ → (fun σ => 
      if ¬ (x108_50 = 0) then
       if True then
        if True then
         j52_law08_MultiWhole B ro x5_1 x13_14 x20_2 x45_5 x90_37 x92_39 Q Y38 true σ
        else
        ∃ (x128_54 : Sl), acell ro σ ⟨x17_51, 0, none⟩ = some (Sl.v x128_54) ∧
        ∃ p129_55 : Addr, x128_54.a = some p129_55 ∧ (0 : Int) ≤ 0 ∧ 0 < (x128_54.len : Int) ∧
        ∃ (x130_56a : ByteArray) (x130_56b : Int), cellsAt ro σ (p129_55.add (Int.toNat 0 * 2)) 0 [.string x130_56a, .int .i64 x130_56b] ∧
        ∃ (x132_57 : Sl), acell ro σ ⟨x13_14, 0, none⟩ = some (Sl.v x132_57) ∧
        ∃ p134_58 : Addr, x132_57.a = some p134_58 ∧ (0 : Int) ≤ x92_39 ∧ x92_39 < (x132_57.len : Int) ∧
        ∃ (x135_59a : ByteArray) (x135_59b : Int), cellsAt ro σ (p134_58.add (Int.toNat x92_39 * 2)) 0 [.string x135_59a, .int .i64 x135_59b] ∧
        awp Tryz.prog ro (do eqGuard .neq 84 (.tmp 130) (.tmp 135) (.agg #[.string x130_56a, .int .i64 x130_56b]) (.agg #[.string x135_59a, .int .i64 x135_59b]); Go.binOp .neq 84 (.agg #[.string x130_56a, .int .i64 x130_56b]) (.agg #[.string x135_59a, .int .i64 x135_59b])) (fun v σ => ∃ x136_60 : Bool, v = .bool x136_60 ∧
         j52_law08_MultiWhole B ro x5_1 x13_14 x20_2 x45_5 x90_37 x92_39 Q Y38 x136_60 σ) σ
       else
       ∃ (x122_61 : Sl), acell ro σ ⟨x13_14, 0, none⟩ = some (Sl.v x122_61) ∧
       if (x122_61.len : Int) ≤ x92_39 then
        j52_law08_MultiWhole B ro x5_1 x13_14 x20_2 x45_5 x90_37 x92_39 Q Y38 true σ
       else
       ∃ (x128_62 : Sl), acell ro σ ⟨x17_51, 0, none⟩ = some (Sl.v x128_62) ∧
       ∃ p129_63 : Addr, x128_62.a = some p129_63 ∧ (0 : Int) ≤ 0 ∧ 0 < (x128_62.len : Int) ∧
       ∃ (x130_64a : ByteArray) (x130_64b : Int), cellsAt ro σ (p129_63.add (Int.toNat 0 * 2)) 0 [.string x130_64a, .int .i64 x130_64b] ∧
       ∃ (x132_65 : Sl), acell ro σ ⟨x13_14, 0, none⟩ = some (Sl.v x132_65) ∧
       ∃ p134_66 : Addr, x132_65.a = some p134_66 ∧ (0 : Int) ≤ x92_39 ∧ x92_39 < (x132_65.len : Int) ∧
       ∃ (x135_67a : ByteArray) (x135_67b : Int), cellsAt ro σ (p134_66.add (Int.toNat x92_39 * 2)) 0 [.string x135_67a, .int .i64 x135_67b] ∧
       awp Tryz.prog ro (do eqGuard .neq 84 (.tmp 130) (.tmp 135) (.agg #[.string x130_64a, .int .i64 x130_64b]) (.agg #[.string x135_67a, .int .i64 x135_67b]); Go.binOp .neq 84 (.agg #[.string x130_64a, .int .i64 x130_64b]) (.agg #[.string x135_67a, .int .i64 x135_67b])) (fun v σ => ∃ x136_68 : Bool, v = .bool x136_68 ∧
        j52_law08_MultiWhole B ro x5_1 x13_14 x20_2 x45_5 x90_37 x92_39 Q Y38 x136_68 σ) σ
      else
      ∃ (x115_69 : Sl), acell ro σ ⟨x17_51, 0, none⟩ = some (Sl.v x115_69) ∧
      if ¬ ((x115_69.len : Int) = 1) then
       if True then
        j52_law08_MultiWhole B ro x5_1 x13_14 x20_2 x45_5 x90_37 x92_39 Q Y38 true σ
       else
       ∃ (x128_70 : Sl), acell ro σ ⟨x17_51, 0, none⟩ = some (Sl.v x128_70) ∧
       ∃ p129_71 : Addr, x128_70.a = some p129_71 ∧ (0 : Int) ≤ 0 ∧ 0 < (x128_70.len : Int) ∧
       ∃ (x130_72a : ByteArray) (x130_72b : Int), cellsAt ro σ (p129_71.add (Int.toNat 0 * 2)) 0 [.string x130_72a, .int .i64 x130_72b] ∧
       ∃ (x132_73 : Sl), acell ro σ ⟨x13_14, 0, none⟩ = some (Sl.v x132_73) ∧
       ∃ p134_74 : Addr, x132_73.a = some p134_74 ∧ (0 : Int) ≤ x92_39 ∧ x92_39 < (x132_73.len : Int) ∧
       ∃ (x135_75a : ByteArray) (x135_75b : Int), cellsAt ro σ (p134_74.add (Int.toNat x92_39 * 2)) 0 [.string x135_75a, .int .i64 x135_75b] ∧
       awp Tryz.prog ro (do eqGuard .neq 84 (.tmp 130) (.tmp 135) (.agg #[.string x130_72a, .int .i64 x130_72b]) (.agg #[.string x135_75a, .int .i64 x135_75b]); Go.binOp .neq 84 (.agg #[.string x130_72a, .int .i64 x130_72b]) (.agg #[.string x135_75a, .int .i64 x135_75b])) (fun v σ => ∃ x136_76 : Bool, v = .bool x136_76 ∧
        j52_law08_MultiWhole B ro x5_1 x13_14 x20_2 x45_5 x90_37 x92_39 Q Y38 x136_76 σ) σ
      else
      ∃ (x122_77 : Sl), acell ro σ ⟨x13_14, 0, none⟩ = some (Sl.v x122_77) ∧
      if (x122_77.len : Int) ≤ x92_39 then
       j52_law08_MultiWhole B ro x5_1 x13_14 x20_2 x45_5 x90_37 x92_39 Q Y38 true σ
      else
      ∃ (x128_78 : Sl), acell ro σ ⟨x17_51, 0, none⟩ = some (Sl.v x128_78) ∧
      ∃ p129_79 : Addr, x128_78.a = some p129_79 ∧ (0 : Int) ≤ 0 ∧ 0 < (x128_78.len : Int) ∧
      ∃ (x130_80a : ByteArray) (x130_80b : Int), cellsAt ro σ (p129_79.add (Int.toNat 0 * 2)) 0 [.string x130_80a, .int .i64 x130_80b] ∧
      ∃ (x132_81 : Sl), acell ro σ ⟨x13_14, 0, none⟩ = some (Sl.v x132_81) ∧
      ∃ p134_82 : Addr, x132_81.a = some p134_82 ∧ (0 : Int) ≤ x92_39 ∧ x92_39 < (x132_81.len : Int) ∧
      ∃ (x135_83a : ByteArray) (x135_83b : Int), cellsAt ro σ (p134_82.add (Int.toNat x92_39 * 2)) 0 [.string x135_83a, .int .i64 x135_83b] ∧
      awp Tryz.prog ro (do eqGuard .neq 84 (.tmp 130) (.tmp 135) (.agg #[.string x130_80a, .int .i64 x130_80b]) (.agg #[.string x135_83a, .int .i64 x135_83b]); Go.binOp .neq 84 (.agg #[.string x130_80a, .int .i64 x130_80b]) (.agg #[.string x135_83a, .int .i64 x135_83b])) (fun v σ => ∃ x136_84 : Bool, v = .bool x136_84 ∧
       j52_law08_MultiWhole B ro x5_1 x13_14 x20_2 x45_5 x90_37 x92_39 Q Y38 x136_84 σ) σ) (join ψ σ))) [Sl.v x108_49a, Sl.v x108_49b, .int .i64 x108_49c] 0 σ) [.int .i64 x96_41a, .string x96_41b, Sl.v x96_41c, .int .i64 x96_41d, .bool x96_41e, .bool x96_41f] 0 σ
 else
 j26_law08_MultiWhole B ro x5_1 x13_14 x20_2 x45_5 Q σ

def j3_law08_MultiWhole (B : World) (ro : AH) (x5_1 : Nat) (x20_2 : Option Addr) (Q : Bool → AH → Prop) (σ : AH) : Prop :=
 c_ztree_Tree_Encode B ro x20_2 σ fun x42_4 σ =>
 c_ztree_Decode B ro x42_4 σ fun x45_5 x45_6 σ =>
 if (x45_5 = none) ∨ (¬ (x45_6 = 0)) then
  Q false σ
 else
 lent σ fun ψ σ =>
  ∃ (x57_7 : ByteArray), acell (join ro ψ) (fun _ => none) ⟨x5_1, 0, none⟩ = some (.string x57_7) ∧
  ∃ (x59_8 : Int), acell (join ro ψ) (fun _ => none) ((⟨x5_1, 0, none⟩ : Addr).add 1) = some (.int .i64 x59_8) ∧
  ∃ (x61_9a : Int) (x61_9b : Int), cellsAt (join ro ψ) (fun _ => none) ((⟨x5_1, 0, none⟩ : Addr).add 2) 0 [.int .i64 x61_9a, .int .i64 x61_9b] ∧
  ∃ (x63_10 : Sl), acell (join ro ψ) σ ((⟨x5_1, 0, none⟩ : Addr).add 4) = some (Sl.v x63_10) ∧
  c_law08_copied B (join ro ψ) x63_10 σ fun x64_11 σ =>
  c_multi_Apply B (join ro ψ) x20_2 x57_7 x59_8 x61_9a x61_9b x64_11 σ fun x65_12a x65_12b x65_12c x65_13 σ =>
  nw (join ro ψ) σ (.cells #[Sl.v (⟨none, 0, 0⟩ : Sl), Sl.v (⟨none, 0, 0⟩ : Sl), .int .i64 0] 77) fun x13_14 σ =>
  stN ⟨x13_14, 0, none⟩ (fun σ =>
   (Disj ψ σ → (fun σ => 
    if ¬ (x65_13 = 0) then
     c_ztree_Tree_Encode B ro x20_2 σ fun x72_15 σ =>
     c_ref01_Same B ro x42_4 x72_15 σ fun x73_16 σ =>
     if x73_16 = true then
      ∃ (x76_25 : Sl), acell ro σ ⟨x13_14, 0, none⟩ = some (Sl.v x76_25) ∧
      j17_law08_MultiWhole B ro x13_14 Q (decide ((x76_25.len : Int) = 0)) σ
     else
     j17_law08_MultiWhole B ro x13_14 Q false σ
    else
    ∃ (x90_37 : Sl), acell ro σ ((⟨x5_1, 0, none⟩ : Addr).add 4) = some (Sl.v x90_37) ∧
    lfpD (l38_law08_MultiWhole B ro x5_1 x13_14 x20_2 x45_5 x90_37 Q ) (0) σ) (join ψ σ))) [Sl.v x65_12a, Sl.v x65_12b, .int .i64 x65_12c] 0 σ

def l85_law08_MultiWhole (B : World) (ro : AH) (a1 : Sl) (x5_1 : Nat) (x20_2 : Option Addr) (Q : Bool → AH → Prop) : (Int) → AH → ((Int) → AH → Prop) → Prop := fun x25_86 σ Y85 =>
 if x25_86 < (a1.len : Int) then
  ∃ p27_87 : Addr, a1.a = some p27_87 ∧ (0 : Int) ≤ x25_86 ∧ x25_86 < (a1.len : Int) ∧
  ∃ (x28_88a : ByteArray) (x28_88b : Int) (x28_88c : Int) (x28_88d : Int) (x28_88e : Sl) (x28_88f : Bool), cellsAt ro σ (p27_87.add (Int.toNat x25_86 * 6)) 0 [.string x28_88a, .int .i64 x28_88b, .int .i64 x28_88c, .int .i64 x28_88d, Sl.v x28_88e, .bool x28_88f] ∧
  nw ro σ (.cells #[.string ByteArray.empty, .int .i64 0, .int .i64 0, .int .i64 0, Sl.v (⟨none, 0, 0⟩ : Sl), .bool false] 72) fun x9_89 σ =>
  stN ⟨x9_89, 0, none⟩ (fun σ =>
   lent σ fun ψ σ =>
    ∃ (x31_90 : ByteArray), acell (join ro ψ) (fun _ => none) ⟨x9_89, 0, none⟩ = some (.string x31_90) ∧
    ∃ (x33_91 : Int), acell (join ro ψ) (fun _ => none) ((⟨x9_89, 0, none⟩ : Addr).add 1) = some (.int .i64 x33_91) ∧
    ∃ (x35_92a : Int) (x35_92b : Int), cellsAt (join ro ψ) (fun _ => none) ((⟨x9_89, 0, none⟩ : Addr).add 2) 0 [.int .i64 x35_92a, .int .i64 x35_92b] ∧
    ∃ (x37_93 : Sl), acell (join ro ψ) σ ((⟨x9_89, 0, none⟩ : Addr).add 4) = some (Sl.v x37_93) ∧
    c_law08_copied B (join ro ψ) x37_93 σ fun x38_94 σ =>
    c_multi_Apply B (join ro ψ) x20_2 x31_90 x33_91 x35_92a x35_92b x38_94 σ fun x39_95a x39_95b x39_95c x39_96 σ =>
    (Disj ψ σ → (fun σ => 
     Y85 (IntKind.i64.wrap (x25_86 + 1)) σ) (join ψ σ))) [.string x28_88a, .int .i64 x28_88b, .int .i64 x28_88c, .int .i64 x28_88d, Sl.v x28_88e, .bool x28_88f] 0 σ
 else
 j3_law08_MultiWhole B ro x5_1 x20_2 Q σ

def f_law08_MultiWhole (B : World) (ro : AH) (a0 : Sl) (a1 : Sl) (a2_0 : ByteArray) (a2_1 : Int) (a2_2 : Int) (a2_3 : Int) (a2_4 : Sl) (a2_5 : Bool) (σ : AH) (Q : Bool → AH → Prop) : Prop :=
 nw ro σ (.cells #[.string a2_0, .int .i64 a2_1, .int .i64 a2_2, .int .i64 a2_3, Sl.v a2_4, .bool a2_5] 72) fun x5_1 σ =>
 c_law08_start B ro a0 σ fun x20_2 σ =>
 if x20_2 = none then
  Q false σ
 else
 lfpD (l85_law08_MultiWhole B ro a1 x5_1 x20_2 Q ) (0) σ

set_option maxRecDepth 100000 in
set_option maxHeartbeats 4000000 in
theorem law08_MultiWhole_ok {B : World} {ro : AH} {a0 : Sl} {a1 : Sl} {a2_0 : ByteArray} {a2_1 : Int} {a2_2 : Int} {a2_3 : Int} {a2_4 : Sl} {a2_5 : Bool} {σ : AH} {Q : Bool → AH → Prop} (h : Sep ro σ → f_law08_MultiWhole B ro a0 a1 a2_0 a2_1 a2_2 a2_3 a2_4 a2_5 σ Q) : c_law08_MultiWhole B ro a0 a1 a2_0 a2_1 a2_2 a2_3 a2_4 a2_5 σ Q := by
  refine ACalls.of_sep fun hsep => ?_
  replace h := h hsep
  refine ACalls.of_body (args := [Sl.v a0, Sl.v a1, .agg #[.string a2_0, .int .i64 a2_1, .int .i64 a2_2, .int .i64 a2_3, Sl.v a2_4, .bool a2_5]]) Tryz.func8 rfl (by rw [Tryz.ntmps8]; simp) ?_
  rw [Tryz.ntmps8]
  unfold f_law08_MultiWhole at h
  refine AW.seq ?_
  refine AW.reg ?_
  refine Ls rfl rfl (X_new (A_box rfl rfl) fun x5_1 g1 g2 => ?_)
  replace h := h x5_1 g1 g2
  refine Lp (V_asg rfl rfl) rfl rfl ?_
  refine Lnil ?_
  refine thenN ?_
  refine AW.seq ?_
  refine AW.reg ?_
  refine Lp (V_move rfl rfl) rfl rfl ?_
  refine Ls rfl rfl (X_call rfl Tryz.func35 rfl rfl rfl (ACalls.mono h ?_))
  rintro v σ ⟨x20_2, rfl, h⟩
  refine Lp (V_asg rfl rfl) rfl rfl ?_
  refine Lnil ?_
  refine thenN ?_
  refine AW.seq ?_
  refine AW.seq ?_
  refine AW.reg ?_
  refine Lp (V_move rfl rfl) rfl rfl ?_
  refine Lp (V_eqP rfl Tryz.underlying23 rfl rfl) rfl rfl ?_
  refine Lnil ?_
  refine thenN ?_
  refine AW.iff rfl isNone_iff h (fun h => ?_) (fun h => ?_)
  · refine AW.seq ?_
    refine AW.reg ?_
    refine Lp (V_asg rfl rfl) rfl rfl ?_
    refine Lnil ?_
    refine thenN ?_
    refine AW.ret ?_
    refine thenR ?_
    exact bR1 Tryz.results8 rfl ⟨_, rfl, h⟩
  refine AW.skip ?_
  refine thenN ?_
  refine AW.seqJ (fun fr σ => FrLe [(5, .pointer (some ⟨x5_1, 0, none⟩)), (7, .pointer x20_2)] fr ∧ j3_law08_MultiWhole B ro x5_1 x20_2 Q σ) ?_ ?_
  rotate_left
  · refine AW.seq ?_
    refine AW.reg ?_
    refine Lp (V_move rfl rfl) rfl rfl ?_
    refine Lp (V_lenL rfl rfl Tryz.underlying67 rfl rfl) rfl rfl ?_
    refine Lp (V_move rfl rfl) rfl rfl ?_
    refine Lnil ?_
    refine thenN ?_
    refine AW.block ?_
    refine ARound.loop (fr' := [(5, .pointer (some ⟨x5_1, 0, none⟩)), (7, .pointer x20_2), (23, Sl.v a1), (24, .int .i64 (a1.len : Int)), (25, .int .i64 0)]) ?_ (FrLe.cons rfl (FrLe.cons rfl (FrLe.cons rfl (FrLe.cons rfl (FrLe.cons rfl (FrLe.nil _))))))
    refine h (fun x25_86 σ => ARound _ _ _ _ _ _ [(5, .pointer (some ⟨x5_1, 0, none⟩)), (7, .pointer x20_2), (23, Sl.v a1), (24, .int .i64 (a1.len : Int)), (25, .int .i64 x25_86)] σ) ?_
    rintro x25_86 σ Y85 hY85 h
    show AW _ _ _ _ _ _ _ _
    unfold l85_law08_MultiWhole at h
    refine AW.seq ?_
    refine AW.reg ?_
    refine Lp (V_lss rfl rfl rfl) rfl rfl ?_
    refine Lnil ?_
    refine thenN ?_
    refine AW.seq ?_
    refine AW.iff rfl decide_eq_true_iff h (fun h => ?_) (fun h => ?_)
    rotate_left
    · refine AW.exit ?_
      refine thenE ?_
      refine thenE ?_
      refine blockE ?_
      refine thenN ?_
      exact ⟨(FrLe.cons rfl (FrLe.cons rfl (FrLe.nil _))), h⟩
    refine AW.skip ?_
    refine thenN ?_
    refine AW.seq ?_
    refine AW.block ?_
    refine AW.seq ?_
    refine AW.reg ?_
    obtain ⟨p27_87, ha, h0, h1, h⟩ := h
    refine Lp (V_ixA rfl Tryz.underlying67 ty72 (ixL rfl ha) rfl h0 h1) rfl rfl ?_
    obtain ⟨x28_88a, x28_88b, x28_88c, x28_88d, x28_88e, x28_88f, hc, h⟩ := h
    refine Ls rfl rfl (X_lda rfl Tryz.underlying72 rfl ty72 rfl hc ?_)
    refine Ls rfl rfl (X_new (A_alloc rfl ty72) fun x9_89 g1 g2 => ?_)
    replace h := h x9_89 g1 g2
    refine Ls rfl rfl (X_st rfl ty72 rfl rfl rfl rfl (stN_mono h fun σ h => ?_))
    refine Lnil ?_
    refine thenN ?_
    refine AW.drawnL (fun i => ([0, 0, 0, 0, 0, 0, 0, 0, 3, 2, 2] : List Nat).getD i 2) [(8, 9), (8, 10)] [0, 1, 2, 3, 4, 5, 6, 7, 8, 9, 10] Tryz.mixed h (by decide +kernel) ?_
    clear h
    intro ψ σ h
    refine Dp rfl rfl rfl rfl (V_move rfl rfl) ?_
    refine Dp rfl rfl rfl rfl (V_fld rfl Tryz.underlying72 rfl ty9 (by decide) rfl) ?_
    obtain ⟨x31_90, hc, h⟩ := h
    refine Dp rfl rfl rfl rfl (V_ld rfl Tryz.underlying9 rfl rfl hc) ?_
    refine Dp rfl rfl rfl rfl (V_fld rfl Tryz.underlying72 rfl ty3 (by decide) rfl) ?_
    obtain ⟨x33_91, hc, h⟩ := h
    refine Dp rfl rfl rfl rfl (V_ld rfl Tryz.underlying3 rfl rfl hc) ?_
    refine Dp rfl rfl rfl rfl (V_fld rfl Tryz.underlying72 rfl ty69 (by decide) rfl) ?_
    obtain ⟨x35_92a, x35_92b, hc, h⟩ := h
    refine Dp rfl rfl rfl rfl (V_lda rfl Tryz.underlying69 rfl ty69 rfl hc) ?_
    refine Dp rfl rfl rfl rfl (V_fld rfl Tryz.underlying72 rfl ty70 (by decide) rfl) ?_
    obtain ⟨x37_93, hc, h⟩ := h
    refine Dr rfl rfl rfl rfl (R_ld rfl Tryz.underlying70 rfl rfl hc) ?_
    refine Dg rfl rfl rfl rfl (X_call rfl Tryz.func37 rfl rfl rfl (ACalls.mono h ?_))
    rintro v σ ⟨x38_94, rfl, h⟩
    refine Dg rfl rfl rfl rfl (X_call rfl Tryz.func36 rfl rfl rfl (ACalls.mono h ?_))
    rintro v σ ⟨x39_95a, x39_95b, x39_95c, x39_96, rfl, h⟩
    refine ⟨_, FrEq.refl _, fun hdj => ?_⟩
    replace h := h hdj
    refine blockN ?_
    refine thenN ?_
    refine AW.reg ?_
    refine Lp (V_add rfl rfl rfl) rfl rfl ?_
    refine Lp (V_move rfl rfl) rfl rfl ?_
    refine Lnil ?_
    refine thenN ?_
    refine ARound.head (fr' := [(5, .pointer (some ⟨x5_1, 0, none⟩)), (7, .pointer x20_2), (23, Sl.v a1), (24, .int .i64 (a1.len : Int)), (25, .int .i64 (IntKind.i64.wrap (x25_86 + 1)))]) ?_ (FrLe.cons rfl (FrLe.cons rfl (FrLe.cons rfl (FrLe.cons rfl (FrLe.cons rfl (FrLe.nil _))))))
    exact hY85 _ _ h
  rintro fr σ ⟨hl, h⟩
  refine AW.weaken ?_ hl (HLe.refl _)
  unfold j3_law08_MultiWhole at h
  refine AW.seq ?_
  refine AW.reg ?_
  refine Lp (V_move rfl rfl) rfl rfl ?_
  refine Ls rfl rfl (X_call rfl Tryz.func21 rfl rfl rfl (ACalls.mono h ?_))
  rintro v σ ⟨x42_4, rfl, h⟩
  refine Lp (V_asg rfl rfl) rfl rfl ?_
  refine Lnil ?_
  refine thenN ?_
  refine AW.seq ?_
  refine AW.reg ?_
  refine Lp (V_move rfl rfl) rfl rfl ?_
  refine Ls rfl rfl (X_call rfl Tryz.func27 rfl rfl rfl (ACalls.mono h ?_))
  rintro v σ ⟨x45_5, x45_6, rfl, h⟩
  refine Lp (V_move rfl rfl) rfl rfl ?_
  refine Lp (V_ext rfl rfl rfl) rfl rfl ?_
  refine Lp (V_ext rfl rfl rfl) rfl rfl ?_
  refine Lp (V_asg rfl rfl) rfl rfl ?_
  refine Lp (V_asg rfl rfl) rfl rfl ?_
  refine Lnil ?_
  refine thenN ?_
  refine AW.seq ?_
  refine AW.seq ?_
  refine AW.reg ?_
  refine Lp (V_move rfl rfl) rfl rfl ?_
  refine Lp (V_eqP rfl Tryz.underlying23 rfl rfl) rfl rfl ?_
  refine Lp (V_move rfl rfl) rfl rfl ?_
  refine Lsplit 3 x45_5.isNone [(5, .pointer (some ⟨x5_1, 0, none⟩)), (7, .pointer x20_2), (10, Sl.v x42_4), (11, .pointer x45_5), (53, .bool (x45_5.isNone || (!(decide (x45_6 = 0)))))] ?_ ?_ ?_
  · intro e2 hk2
    refine Ln rfl rfl rfl rfl (.inl (by rw [e2]; rfl)) ?_
    refine Ln rfl rfl rfl rfl (.inl (by rw [e2]; rfl)) ?_
    refine Lp (V_pickT rfl (evb e2) rfl) rfl rfl ?_
    exact hk2 _ (FrLe.cons rfl (FrLe.cons rfl (FrLe.cons rfl (FrLe.cons rfl (FrLe.cons (by rw [e2]; rfl) (FrLe.nil _))))))
  · intro e2 hk2
    refine Lypb (V_move rfl rfl) rfl rfl rfl rfl e2 ?_
    refine Lypb (V_neq rfl rfl rfl) rfl rfl rfl rfl e2 ?_
    refine Lp (V_pickF rfl (evb e2) rfl) rfl rfl ?_
    exact hk2 _ (FrLe.cons rfl (FrLe.cons rfl (FrLe.cons rfl (FrLe.cons rfl (FrLe.cons (by rw [e2]; rfl) (FrLe.nil _))))))
  intro fr hl
  refine Lfr hl ?_
  refine Lnil ?_
  refine thenN ?_
  refine AW.iff rfl (bor_iff isNone_iff (bnot_iff decide_eq_true_iff)) h (fun h => ?_) (fun h => ?_)
  · refine AW.seq ?_
    refine AW.reg ?_
    refine Lp (V_asg rfl rfl) rfl rfl ?_
    refine Lnil ?_
    refine thenN ?_
    refine AW.ret ?_
    refine thenR ?_
    exact bR1 Tryz.results8 rfl ⟨_, rfl, h⟩
  refine AW.skip ?_
  refine thenN ?_
  refine AW.seq ?_
  refine AW.drawnL (fun i => ([0, 0, 0, 0, 0, 0, 0, 0, 3, 2, 2, 0, 0, 0, 1, 2, 0] : List Nat).getD i 2) [(8, 9), (8, 10)] [0, 1, 2, 3, 4, 5, 6, 7, 8, 9, 10, 11, 12, 13, 14, 15, 16] Tryz.mixed h (by decide +kernel) ?_
  clear h
  intro ψ σ h
  refine Dp rfl rfl rfl rfl (V_move rfl rfl) ?_
  refine Dp rfl rfl rfl rfl (V_fld rfl Tryz.underlying72 rfl ty9 (by decide) rfl) ?_
  obtain ⟨x57_7, hc, h⟩ := h
  refine Dp rfl rfl rfl rfl (V_ld rfl Tryz.underlying9 rfl rfl hc) ?_
  refine Dp rfl rfl rfl rfl (V_fld rfl Tryz.underlying72 rfl ty3 (by decide) rfl) ?_
  obtain ⟨x59_8, hc, h⟩ := h
  refine Dp rfl rfl rfl rfl (V_ld rfl Tryz.underlying3 rfl rfl hc) ?_
  refine Dp rfl rfl rfl rfl (V_fld rfl Tryz.underlying72 rfl ty69 (by decide) rfl) ?_
  obtain ⟨x61_9a, x61_9b, hc, h⟩ := h
  refine Dp rfl rfl rfl rfl (V_lda rfl Tryz.underlying69 rfl ty69 rfl hc) ?_
  refine Dp rfl rfl rfl rfl (V_fld rfl Tryz.underlying72 rfl ty70 (by decide) rfl) ?_
  obtain ⟨x63_10, hc, h⟩ := h
  refine Dr rfl rfl rfl rfl (R_ld rfl Tryz.underlying70 rfl rfl hc) ?_
  refine Dg rfl rfl rfl rfl (X_call rfl Tryz.func37 rfl rfl rfl (ACalls.mono h ?_))
  rintro v σ ⟨x64_11, rfl, h⟩
  refine Dg rfl rfl rfl rfl (X_call rfl Tryz.func36 rfl rfl rfl (ACalls.mono h ?_))
  rintro v σ ⟨x65_12a, x65_12b, x65_12c, x65_13, rfl, h⟩
  refine Dp rfl rfl rfl rfl (V_move rfl rfl) ?_
  refine Dp rfl rfl rfl rfl (V_ext rfl rfl rfl) ?_
  refine Dp rfl rfl rfl rfl (V_ext rfl rfl rfl) ?_
  refine Da rfl rfl rfl rfl (A_alloc rfl ty77) fun x13_14 g1 g2 => ?_
  replace h := h x13_14 g1 g2
  refine Dg rfl rfl rfl rfl (X_st rfl ty77 rfl rfl rfl rfl (stN_mono h fun σ h => ?_))
  refine Dp rfl rfl rfl rfl (V_asg rfl rfl) ?_
  refine ⟨_, FrEq.refl _, fun hdj => ?_⟩
  replace h := h hdj
  refine thenN ?_
  refine AW.seq ?_
  refine AW.seq ?_
  refine AW.reg ?_
  refine Lp (V_move rfl rfl) rfl rfl ?_
  refine Lp (V_neq rfl rfl rfl) rfl rfl ?_
  refine Lnil ?_
  refine thenN ?_
  refine AW.iff rfl (bnot_iff decide_eq_true_iff) h (fun h => ?_) (fun h => ?_)
  · refine AW.seq ?_
    refine AW.reg ?_
    refine Lp (V_move rfl rfl) rfl rfl ?_
    refine Lp (V_move rfl rfl) rfl rfl ?_
    refine Ls rfl rfl (X_call rfl Tryz.func21 rfl rfl rfl (ACalls.mono h ?_))
    rintro v σ ⟨x72_15, rfl, h⟩
    refine Ls rfl rfl (X_call rfl Tryz.func26 rfl rfl rfl (ACalls.mono h ?_))
    rintro v σ ⟨x73_16, rfl, h⟩
    refine Lp (V_move rfl rfl) rfl rfl ?_
    refine LsplitJ 5 x73_16 Iff.rfl h (fun fr σ => ∃ (x79_18 : Bool), FrLe [(13, .pointer (some ⟨x13_14, 0, none⟩)), (79, .bool x79_18)] fr ∧ j17_law08_MultiWhole B ro x13_14 Q x79_18 σ) ?_ ?_ ?_
    · intro h e4 hk4
      refine Lypb (V_fld rfl Tryz.underlying77 rfl ty74 (by decide) rfl) rfl rfl rfl rfl e4 ?_
      obtain ⟨x76_25, hc, h⟩ := h
      refine Lyb rfl rfl rfl rfl e4 (X_ld rfl Tryz.underlying74 rfl rfl hc ?_)
      refine Lypb (V_lenL rfl rfl Tryz.underlying74 rfl rfl) rfl rfl rfl rfl e4 ?_
      refine Lypb (V_eql rfl rfl rfl) rfl rfl rfl rfl e4 ?_
      refine Lp (V_pickT rfl (evb e4) rfl) rfl rfl ?_
      exact hk4 _ _ ⟨_, (FrLe.cons rfl (FrLe.cons rfl (FrLe.nil _))), h⟩
    · intro h e4 hk4
      refine Ln rfl rfl rfl rfl (.inl (by rw [e4]; rfl)) ?_
      refine Ln rfl rfl rfl rfl (.inl (by rw [e4]; rfl)) ?_
      refine Ln rfl rfl rfl rfl (.inl (by rw [e4]; rfl)) ?_
      refine Ln rfl rfl rfl rfl (.inl (by rw [e4]; rfl)) ?_
      refine Lp (V_pickF rfl (evb e4) rfl) rfl rfl ?_
      exact hk4 _ _ ⟨_, (FrLe.cons rfl (FrLe.cons rfl (FrLe.nil _))), h⟩
    rintro fr σ ⟨x79_18, hl, h⟩
    unfold j17_law08_MultiWhole at h
    refine Lfr hl ?_
    refine Lp (V_move rfl rfl) rfl rfl ?_
    refine LsplitJ 5 x79_18 Iff.rfl h (fun fr σ => ∃ (x85_20 : Bool), FrLe [(85, .bool x85_20)] fr ∧ j19_law08_MultiWhole B ro Q x85_20 σ) ?_ ?_ ?_
    · intro h e10 hk10
      refine Lypb (V_fld rfl Tryz.underlying77 rfl ty75 (by decide) rfl) rfl rfl rfl rfl e10 ?_
      obtain ⟨x82_24, hc, h⟩ := h
      refine Lyb rfl rfl rfl rfl e10 (X_ld rfl Tryz.underlying75 rfl rfl hc ?_)
      refine Lypb (V_lenL rfl rfl Tryz.underlying75 rfl rfl) rfl rfl rfl rfl e10 ?_
      refine Lypb (V_eql rfl rfl rfl) rfl rfl rfl rfl e10 ?_
      refine Lp (V_pickT rfl (evb e10) rfl) rfl rfl ?_
      exact hk10 _ _ ⟨_, (FrLe.cons rfl (FrLe.nil _)), h⟩
    · intro h e10 hk10
      refine Ln rfl rfl rfl rfl (.inl (by rw [e10]; rfl)) ?_
      refine Ln rfl rfl rfl rfl (.inl (by rw [e10]; rfl)) ?_
      refine Ln rfl rfl rfl rfl (.inl (by rw [e10]; rfl)) ?_
      refine Ln rfl rfl rfl rfl (.inl (by rw [e10]; rfl)) ?_
      refine Lp (V_pickF rfl (evb e10) rfl) rfl rfl ?_
      exact hk10 _ _ ⟨_, (FrLe.cons rfl (FrLe.nil _)), h⟩
    rintro fr σ ⟨x85_20, hl, h⟩
    unfold j19_law08_MultiWhole at h
    refine Lfr hl ?_
    refine Lp (V_move rfl rfl) rfl rfl ?_
    refine LsplitJ 2 x85_20 Iff.rfl h (fun fr σ => ∃ (x88_22 : Bool), FrLe [(88, .bool x88_22)] fr ∧ j21_law08_MultiWhole B ro Q x88_22 σ) ?_ ?_ ?_
    · intro h e16 hk16
      refine Lyb rfl rfl rfl rfl e16 (X_call rfl Tryz.func38 rfl rfl rfl (ACalls.mono h ?_))
      rintro v σ ⟨x87_23, rfl, h⟩
      refine Lp (V_pickT rfl (evb e16) rfl) rfl rfl ?_
      exact hk16 _ _ ⟨_, (FrLe.cons rfl (FrLe.nil _)), h⟩
    · intro h e16 hk16
      refine Ln rfl rfl rfl rfl (.inl (by rw [e16]; rfl)) ?_
      refine Lp (V_pickF rfl (evb e16) rfl) rfl rfl ?_
      exact hk16 _ _ ⟨_, (FrLe.cons rfl (FrLe.nil _)), h⟩
    rintro fr σ ⟨x88_22, hl, h⟩
    unfold j21_law08_MultiWhole at h
    refine Lfr hl ?_
    refine Lp (V_asg rfl rfl) rfl rfl ?_
    refine Lnil ?_
    refine thenN ?_
    refine AW.ret ?_
    refine thenR ?_
    exact bR1 Tryz.results8 rfl ⟨_, rfl, h⟩
  refine AW.skip ?_
  refine thenN ?_
  refine AW.seqJ (fun fr σ => FrLe [(5, .pointer (some ⟨x5_1, 0, none⟩)), (7, .pointer x20_2), (11, .pointer x45_5), (13, .pointer (some ⟨x13_14, 0, none⟩))] fr ∧ j26_law08_MultiWhole B ro x5_1 x13_14 x20_2 x45_5 Q σ) ?_ ?_
  · rintro fr σ ⟨hl, h⟩
    refine AW.weaken ?_ hl (HLe.refl _)
    unfold j26_law08_MultiWhole at h
    refine AW.seq ?_
    refine AW.reg ?_
    refine Lp (V_move rfl rfl) rfl rfl ?_
    refine Ls rfl rfl (X_call rfl Tryz.func21 rfl rfl rfl (ACalls.mono h ?_))
    rintro v σ ⟨x140_27, rfl, h⟩
    refine Lp (V_move rfl rfl) rfl rfl ?_
    refine Ls rfl rfl (X_call rfl Tryz.func21 rfl rfl rfl (ACalls.mono h ?_))
    rintro v σ ⟨x142_28, rfl, h⟩
    refine Ls rfl rfl (X_call rfl Tryz.func26 rfl rfl rfl (ACalls.mono h ?_))
    rintro v σ ⟨x143_29, rfl, h⟩
    refine Lp (V_move rfl rfl) rfl rfl ?_
    refine LsplitJ 8 x143_29 Iff.rfl h (fun fr σ => ∃ (x152_31 : Bool), FrLe [(152, .bool x152_31)] fr ∧ j30_law08_MultiWhole B ro Q x152_31 σ) ?_ ?_ ?_
    · intro h e5 hk5
      refine Lypb (V_fld rfl Tryz.underlying77 rfl ty74 (by decide) rfl) rfl rfl rfl rfl e5 ?_
      obtain ⟨x146_35, hc, h⟩ := h
      refine Lyb rfl rfl rfl rfl e5 (X_ld rfl Tryz.underlying74 rfl rfl hc ?_)
      refine Lypb (V_lenL rfl rfl Tryz.underlying74 rfl rfl) rfl rfl rfl rfl e5 ?_
      refine Lypb (V_fld rfl Tryz.underlying72 rfl ty70 (by decide) rfl) rfl rfl rfl rfl e5 ?_
      obtain ⟨x149_36, hc, h⟩ := h
      refine Lyb rfl rfl rfl rfl e5 (X_ld rfl Tryz.underlying70 rfl rfl hc ?_)
      refine Lypb (V_lenL rfl rfl Tryz.underlying70 rfl rfl) rfl rfl rfl rfl e5 ?_
      refine Lypb (V_eql rfl rfl rfl) rfl rfl rfl rfl e5 ?_
      refine Lp (V_pickT rfl (evb e5) rfl) rfl rfl ?_
      exact hk5 _ _ ⟨_, (FrLe.cons rfl (FrLe.nil _)), h⟩
    · intro h e5 hk5
      refine Ln rfl rfl rfl rfl (.inl (by rw [e5]; rfl)) ?_
      refine Ln rfl rfl rfl rfl (.inl (by rw [e5]; rfl)) ?_
      refine Ln rfl rfl rfl rfl (.inl (by rw [e5]; rfl)) ?_
      refine Ln rfl rfl rfl rfl (.inl (by rw [e5]; rfl)) ?_
      refine Ln rfl rfl rfl rfl (.inl (by rw [e5]; rfl)) ?_
      refine Ln rfl rfl rfl rfl (.inl (by rw [e5]; rfl)) ?_
      refine Ln rfl rfl rfl rfl (.inl (by rw [e5]; rfl)) ?_
      refine Lp (V_pickF rfl (evb e5) rfl) rfl rfl ?_
      exact hk5 _ _ ⟨_, (FrLe.cons rfl (FrLe.nil _)), h⟩
    rintro fr σ ⟨x152_31, hl, h⟩
    unfold j30_law08_MultiWhole at h
    refine Lfr hl ?_
    refine Lp (V_move rfl rfl) rfl rfl ?_
    refine LsplitJ 2 x152_31 Iff.rfl h (fun fr σ => ∃ (x155_33 : Bool), FrLe [(155, .bool x155_33)] fr ∧ j32_law08_MultiWhole B ro Q x155_33 σ) ?_ ?_ ?_
    · intro h e14 hk14
      refine Lyb rfl rfl rfl rfl e14 (X_call rfl Tryz.func38 rfl rfl rfl (ACalls.mono h ?_))
      rintro v σ ⟨x154_34, rfl, h⟩
      refine Lp (V_pickT rfl (evb e14) rfl) rfl rfl ?_
      exact hk14 _ _ ⟨_, (FrLe.cons rfl (FrLe.nil _)), h⟩
    · intro h e14 hk14
      refine Ln rfl rfl rfl rfl (.inl (by rw [e14]; rfl)) ?_
      refine Lp (V_pickF rfl (evb e14) rfl) rfl rfl ?_
      exact hk14 _ _ ⟨_, (FrLe.cons rfl (FrLe.nil _)), h⟩
    rintro fr σ ⟨x155_33, hl, h⟩
    unfold j32_law08_MultiWhole at h
    refine Lfr hl ?_
    refine Lp (V_asg rfl rfl) rfl rfl ?_
    refine Lnil ?_
    refine thenN ?_
    refine AW.ret ?_
    exact bR1 Tryz.results8 rfl ⟨_, rfl, h⟩
  refine AW.seq ?_
  refine AW.reg ?_
  refine Lp (V_fld rfl Tryz.underlying72 rfl ty70 (by decide) rfl) rfl rfl ?_
  obtain ⟨x90_37, hc, h⟩ := h
  refine Ls rfl rfl (X_ld rfl Tryz.underlying70 rfl rfl hc ?_)
  refine Lp (V_lenL rfl rfl Tryz.underlying70 rfl rfl) rfl rfl ?_
  refine Lp (V_move rfl rfl) rfl rfl ?_
  refine Lnil ?_
  refine thenN ?_
  refine AW.block ?_
  refine ARound.loop (fr' := [(5, .pointer (some ⟨x5_1, 0, none⟩)), (7, .pointer x20_2), (11, .pointer x45_5), (13, .pointer (some ⟨x13_14, 0, none⟩)), (90, Sl.v x90_37), (91, .int .i64 (x90_37.len : Int)), (92, .int .i64 0)]) ?_ (FrLe.cons rfl (FrLe.cons rfl (FrLe.cons rfl (FrLe.cons rfl (FrLe.cons rfl (FrLe.cons rfl (FrLe.cons rfl (FrLe.nil _))))))))
  refine h (fun x92_39 σ => ARound _ _ _ _ _ _ [(5, .pointer (some ⟨x5_1, 0, none⟩)), (7, .pointer x20_2), (11, .pointer x45_5), (13, .pointer (some ⟨x13_14, 0, none⟩)), (90, Sl.v x90_37), (91, .int .i64 (x90_37.len : Int)), (92, .int .i64 x92_39)] σ) ?_
  rintro x92_39 σ Y38 hY38 h
  show AW _ _ _ _ _ _ _ _
  unfold l38_law08_MultiWhole at h
  refine AW.seq ?_
  refine AW.reg ?_
  refine Lp (V_lss rfl rfl rfl) rfl rfl ?_
  refine Lnil ?_
  refine thenN ?_
  refine AW.seq ?_
  refine AW.iff rfl decide_eq_true_iff h (fun h => ?_) (fun h => ?_)
  rotate_left
  · refine AW.exit ?_
    refine thenE ?_
    refine thenE ?_
    refine blockE ?_
    refine thenN ?_
    exact ⟨(FrLe.cons rfl (FrLe.cons rfl (FrLe.cons rfl (FrLe.cons rfl (FrLe.nil _))))), h⟩
  refine AW.skip ?_
  refine thenN ?_
  refine AW.seq ?_
  refine AW.block ?_
  refine AW.seq ?_
  refine AW.reg ?_
  refine Lp (V_move rfl rfl) rfl rfl ?_
  obtain ⟨p95_40, ha, h0, h1, h⟩ := h
  refine Lp (V_ixA rfl Tryz.underlying70 ty82 (ixL rfl ha) rfl h0 h1) rfl rfl ?_
  obtain ⟨x96_41a, x96_41b, x96_41c, x96_41d, x96_41e, x96_41f, hc, h⟩ := h
  refine Ls rfl rfl (X_lda rfl Tryz.underlying82 rfl ty82 rfl hc ?_)
  refine Ls rfl rfl (X_new (A_alloc rfl ty82) fun x16_42 g1 g2 => ?_)
  replace h := h x16_42 g1 g2
  refine Lp (V_asg rfl rfl) rfl rfl ?_
  refine Ls rfl rfl (X_st rfl ty82 rfl rfl rfl rfl (stN_mono h fun σ h => ?_))
  refine Lnil ?_
  refine thenN ?_
  refine AW.seq ?_
  refine AW.drawnL (fun i => ([0, 0, 0, 0, 0, 0, 0, 3, 1, 2, 2, 0, 0, 0, 1, 2, 0] : List Nat).getD i 2) [(7, 8), (7, 9), (7, 10), (8, 9), (8, 10)] [0, 1, 2, 3, 4, 5, 6, 7, 8, 9, 10, 11, 12, 13, 14, 15, 16] Tryz.mixed h (by decide +kernel) ?_
  clear h
  intro ψ σ h
  refine Dp rfl rfl rfl rfl (V_move rfl rfl) ?_
  refine Dp rfl rfl rfl rfl (V_fld rfl Tryz.underlying72 rfl ty9 (by decide) rfl) ?_
  obtain ⟨x100_43, hc, h⟩ := h
  refine Dp rfl rfl rfl rfl (V_ld rfl Tryz.underlying9 rfl rfl hc) ?_
  refine Dp rfl rfl rfl rfl (V_fld rfl Tryz.underlying72 rfl ty3 (by decide) rfl) ?_
  obtain ⟨x102_44, hc, h⟩ := h
  refine Dp rfl rfl rfl rfl (V_ld rfl Tryz.underlying3 rfl rfl hc) ?_
  refine Dp rfl rfl rfl rfl (V_fld rfl Tryz.underlying72 rfl ty69 (by decide) rfl) ?_
  obtain ⟨x104_45a, x104_45b, hc, h⟩ := h
  refine Dp rfl rfl rfl rfl (V_lda rfl Tryz.underlying69 rfl ty69 rfl hc) ?_
  obtain ⟨x105_46a, x105_46b, x105_46c, x105_46d, x105_46e, x105_46f, hc, h⟩ := h
  refine Dr rfl rfl rfl rfl (R_lda rfl Tryz.underlying82 rfl ty82 rfl hc) ?_
  refine Da rfl rfl rfl rfl (A_bsl (vs := [(0, .agg #[.int .i64 x105_46a, .string x105_46b, Sl.v x105_46c, .int .i64 x105_46d, .bool x105_46e, .bool x105_46f])]) (cs := #[.int .i64 x105_46a, .string x105_46b, Sl.v x105_46c, .int .i64 x105_46d, .bool x105_46e, .bool x105_46f]) rfl Tryz.underlying70 ty82 (by decide) rfl rfl) fun x106_47 g1 g2 => ?_
  replace h := h x106_47 g1 g2
  refine Dg rfl rfl rfl rfl (X_call rfl Tryz.func37 rfl rfl rfl (ACalls.mono h ?_))
  rintro v σ ⟨x107_48, rfl, h⟩
  refine Dg rfl rfl rfl rfl (X_call rfl Tryz.func36 rfl rfl rfl (ACalls.mono h ?_))
  rintro v σ ⟨x108_49a, x108_49b, x108_49c, x108_50, rfl, h⟩
  refine Dp rfl rfl rfl rfl (V_move rfl rfl) ?_
  refine Dp rfl rfl rfl rfl (V_ext rfl rfl rfl) ?_
  refine Dp rfl rfl rfl rfl (V_ext rfl rfl rfl) ?_
  refine Da rfl rfl rfl rfl (A_alloc rfl ty77) fun x17_51 g1 g2 => ?_
  replace h := h x17_51 g1 g2
  refine Dg rfl rfl rfl rfl (X_st rfl ty77 rfl rfl rfl rfl (stN_mono h fun σ h => ?_))
  refine Dp rfl rfl rfl rfl (V_asg rfl rfl) ?_
  refine ⟨_, FrEq.refl _, fun hdj => ?_⟩
  replace h := h hdj
  refine thenN ?_
  refine AW.seqJ (fun fr σ => ∃ (x137_53 : Bool), FrLe [(5, .pointer (some ⟨x5_1, 0, none⟩)), (7, .pointer x20_2), (11, .pointer x45_5), (13, .pointer (some ⟨x13_14, 0, none⟩)), (90, Sl.v x90_37), (91, .int .i64 (x90_37.len : Int)), (92, .int .i64 x92_39), (137, .bool x137_53)] fr ∧ j52_law08_MultiWhole B ro x5_1 x13_14 x20_2 x45_5 x90_37 x92_39 Q Y38 x137_53 σ) ?_ ?_
  · rintro fr σ ⟨x137_53, hl, h⟩
    refine AW.weaken ?_ hl (HLe.refl _)
    unfold j52_law08_MultiWhole at h
    refine AW.iff rfl Iff.rfl h (fun h => ?_) (fun h => ?_)
    · refine AW.seq ?_
      refine AW.reg ?_
      refine Lp (V_asg rfl rfl) rfl rfl ?_
      refine Lnil ?_
      refine thenN ?_
      refine AW.ret ?_
      refine blockR ?_
      refine thenR ?_
      refine thenR ?_
      refine blockR ?_
      refine thenR ?_
      exact bR1 Tryz.results8 rfl ⟨_, rfl, h⟩
    refine AW.skip ?_
    refine blockN ?_
    refine thenN ?_
    refine AW.reg ?_
    refine Lp (V_add rfl rfl rfl) rfl rfl ?_
    refine Lp (V_move rfl rfl) rfl rfl ?_
    refine Lnil ?_
    refine thenN ?_
    refine ARound.head (fr' := [(5, .pointer (some ⟨x5_1, 0, none⟩)), (7, .pointer x20_2), (11, .pointer x45_5), (13, .pointer (some ⟨x13_14, 0, none⟩)), (90, Sl.v x90_37), (91, .int .i64 (x90_37.len : Int)), (92, .int .i64 (IntKind.i64.wrap (x92_39 + 1)))]) ?_ (FrLe.cons rfl (FrLe.cons rfl (FrLe.cons rfl (FrLe.cons rfl (FrLe.cons rfl (FrLe.cons rfl (FrLe.cons rfl (FrLe.nil _))))))))
    exact hY38 _ _ h
  refine AW.drawn0 (fun i => ([0, 0, 0, 0, 3, 0, 0, 0, 0, 0, 0, 3, 0, 0, 0, 0, 0, 3, 0, 3, 0, 3, 0, 0, 3, 2, 0] : List Nat).getD i 2) [(4, 5), (4, 6), (4, 7), (4, 8), (4, 14), (4, 15), (4, 16), (4, 17), (4, 18), (4, 19), (4, 25), (11, 12), (11, 13), (11, 14), (11, 15), (11, 16), (11, 17), (11, 18), (11, 19), (11, 25), (17, 18), (17, 19), (17, 25), (21, 23), (21, 24), (21, 25)] [0, 1, 2, 3, 4, 5, 6, 7, 8, 9, 10, 11, 12, 13, 14, 15, 16, 20, 22, 17, 18, 19, 21, 23, 24, 25, 26] Tryz.mixed (by decide +kernel) ?_
  refine Dp rfl rfl rfl rfl (V_move rfl rfl) ?_
  refine Dp rfl rfl rfl rfl (V_neq rfl rfl rfl) ?_
  refine Dp rfl rfl rfl rfl (V_move rfl rfl) ?_
  refine splitP (!(decide (x108_50 = 0))) (bnot_iff decide_eq_true_iff) h ?_ ?_
  · intro h e2
    refine Dpn rfl rfl rfl rfl rfl (.inl (by rw [e2]; rfl)) rfl ?_
    refine Drn rfl rfl rfl rfl rfl (.inl (by rw [e2]; rfl)) rfl ?_
    refine Dpn rfl rfl rfl rfl rfl (.inl (by rw [e2]; rfl)) rfl ?_
    refine Dpn rfl rfl rfl rfl rfl (.inl (by rw [e2]; rfl)) rfl ?_
    refine Dp rfl rfl rfl rfl (V_pickT rfl (evb e2) rfl) ?_
    refine Dp rfl rfl rfl rfl (V_move rfl rfl) ?_
    refine splitP true (by simp) h ?_ ?_
    · intro h e8
      refine Dpn rfl rfl rfl rfl rfl (.inl (by rw [e8]; rfl)) rfl ?_
      refine Dpn rfl rfl rfl rfl rfl (.inl (by rw [e8]; rfl)) rfl ?_
      refine Drn rfl rfl rfl rfl rfl (.inl (by rw [e8]; rfl)) rfl ?_
      refine Dpn rfl rfl rfl rfl rfl (.inl (by rw [e8]; rfl)) rfl ?_
      refine Dpn rfl rfl rfl rfl rfl (.inl (by rw [e8]; rfl)) rfl ?_
      refine Dp rfl rfl rfl rfl (V_pickT rfl (evb e8) rfl) ?_
      refine Dp rfl rfl rfl rfl (V_move rfl rfl) ?_
      refine splitP true (by simp) h ?_ ?_
      · intro h e15
        refine Dpn rfl rfl rfl rfl rfl (.inl (by rw [e15]; rfl)) rfl ?_
        refine Dpn rfl rfl rfl rfl rfl (.inl (by rw [e15]; rfl)) rfl ?_
        refine Dpn rfl rfl rfl rfl rfl (.inl (by rw [e15]; rfl)) rfl ?_
        refine Drn rfl rfl rfl rfl rfl (.inl (by rw [e15]; rfl)) rfl ?_
        refine Dpn rfl rfl rfl rfl rfl (.inl (by rw [e15]; rfl)) rfl ?_
        refine Drn rfl rfl rfl rfl rfl (.inl (by rw [e15]; rfl)) rfl ?_
        refine Drn rfl rfl rfl rfl rfl (.inl (by rw [e15]; rfl)) rfl ?_
        refine Dpn rfl rfl rfl rfl rfl (.inl (by rw [e15]; rfl)) rfl ?_
        refine Drn rfl rfl rfl rfl rfl (.inl (by rw [e15]; rfl)) rfl ?_
        refine Dgn rfl rfl rfl rfl rfl (.inl (by rw [e15]; rfl)) rfl ?_
        refine Dp rfl rfl rfl rfl (V_pickT rfl (evb e15) rfl) ?_
        refine Dend ?_
        refine thenN ?_
        exact ⟨_, (FrLe.cons rfl (FrLe.cons rfl (FrLe.cons rfl (FrLe.cons rfl (FrLe.cons rfl (FrLe.cons rfl (FrLe.cons rfl (FrLe.cons rfl (FrLe.nil _))))))))), h⟩
      intro h e15
      refine Dpy rfl rfl rfl rfl rfl e15 rfl (V_fld rfl Tryz.underlying77 rfl ty74 (by decide) rfl) ?_
      refine Dpy rfl rfl rfl rfl rfl e15 rfl (V_fld rfl Tryz.underlying77 rfl ty74 (by decide) rfl) ?_
      refine Dpy rfl rfl rfl rfl rfl e15 rfl (V_move rfl rfl) ?_
      obtain ⟨x128_54, hc, h⟩ := h
      refine Dry rfl rfl rfl rfl rfl e15 rfl (R_ld rfl Tryz.underlying74 rfl rfl hc) ?_
      obtain ⟨p129_55, ha, h0, h1, h⟩ := h
      refine Dpy rfl rfl rfl rfl rfl e15 rfl (V_ixA rfl Tryz.underlying74 ty84 (ixL rfl ha) rfl h0 h1) ?_
      obtain ⟨x130_56a, x130_56b, hc, h⟩ := h
      refine Dry rfl rfl rfl rfl rfl e15 rfl (R_lda rfl Tryz.underlying84 rfl ty84 rfl hc) ?_
      obtain ⟨x132_57, hc, h⟩ := h
      refine Dry rfl rfl rfl rfl rfl e15 rfl (R_ld rfl Tryz.underlying74 rfl rfl hc) ?_
      obtain ⟨p134_58, ha, h0, h1, h⟩ := h
      refine Dpy rfl rfl rfl rfl rfl e15 rfl (V_ixA rfl Tryz.underlying74 ty84 (ixL rfl ha) rfl h0 h1) ?_
      obtain ⟨x135_59a, x135_59b, hc, h⟩ := h
      refine Dry rfl rfl rfl rfl rfl e15 rfl (R_lda rfl Tryz.underlying84 rfl ty84 rfl hc) ?_
      refine Dgy rfl rfl rfl rfl rfl e15 rfl (X_eq rfl rfl rfl (awp_mono _ h ?_))
      rintro v σ ⟨x136_60, rfl, h⟩
      refine Dp rfl rfl rfl rfl (V_pickF rfl (evb e15) rfl) ?_
      refine Dend ?_
      refine thenN ?_
      exact ⟨_, (FrLe.cons rfl (FrLe.cons rfl (FrLe.cons rfl (FrLe.cons rfl (FrLe.cons rfl (FrLe.cons rfl (FrLe.cons rfl (FrLe.cons rfl (FrLe.nil _))))))))), h⟩
    intro h e8
    refine Dpy rfl rfl rfl rfl rfl e8 rfl (V_move rfl rfl) ?_
    refine Dpy rfl rfl rfl rfl rfl e8 rfl (V_fld rfl Tryz.underlying77 rfl ty74 (by decide) rfl) ?_
    obtain ⟨x122_61, hc, h⟩ := h
    refine Dry rfl rfl rfl rfl rfl e8 rfl (R_ld rfl Tryz.underlying74 rfl rfl hc) ?_
    refine Dpy rfl rfl rfl rfl rfl e8 rfl (V_lenL rfl rfl Tryz.underlying74 rfl rfl) ?_
    refine Dpy rfl rfl rfl rfl rfl e8 rfl (V_geq rfl rfl rfl) ?_
    refine Dp rfl rfl rfl rfl (V_pickF rfl (evb e8) rfl) ?_
    refine Dp rfl rfl rfl rfl (V_move rfl rfl) ?_
    refine splitP (decide ((x122_61.len : Int) ≤ x92_39)) decide_eq_true_iff h ?_ ?_
    · intro h e15
      refine Dpn rfl rfl rfl rfl rfl (.inl (by rw [e15]; rfl)) rfl ?_
      refine Dpn rfl rfl rfl rfl rfl (.inl (by rw [e15]; rfl)) rfl ?_
      refine Dpn rfl rfl rfl rfl rfl (.inl (by rw [e15]; rfl)) rfl ?_
      refine Drn rfl rfl rfl rfl rfl (.inl (by rw [e15]; rfl)) rfl ?_
      refine Dpn rfl rfl rfl rfl rfl (.inl (by rw [e15]; rfl)) rfl ?_
      refine Drn rfl rfl rfl rfl rfl (.inl (by rw [e15]; rfl)) rfl ?_
      refine Drn rfl rfl rfl rfl rfl (.inl (by rw [e15]; rfl)) rfl ?_
      refine Dpn rfl rfl rfl rfl rfl (.inl (by rw [e15]; rfl)) rfl ?_
      refine Drn rfl rfl rfl rfl rfl (.inl (by rw [e15]; rfl)) rfl ?_
      refine Dgn rfl rfl rfl rfl rfl (.inl (by rw [e15]; rfl)) rfl ?_
      refine Dp rfl rfl rfl rfl (V_pickT rfl (evb e15) rfl) ?_
      refine Dend ?_
      refine thenN ?_
      exact ⟨_, (FrLe.cons rfl (FrLe.cons rfl (FrLe.cons rfl (FrLe.cons rfl (FrLe.cons rfl (FrLe.cons rfl (FrLe.cons rfl (FrLe.cons rfl (FrLe.nil _))))))))), h⟩
    intro h e15
    refine Dpy rfl rfl rfl rfl rfl e15 rfl (V_fld rfl Tryz.underlying77 rfl ty74 (by decide) rfl) ?_
    refine Dpy rfl rfl rfl rfl rfl e15 rfl (V_fld rfl Tryz.underlying77 rfl ty74 (by decide) rfl) ?_
    refine Dpy rfl rfl rfl rfl rfl e15 rfl (V_move rfl rfl) ?_
    obtain ⟨x128_62, hc, h⟩ := h
    refine Dry rfl rfl rfl rfl rfl e15 rfl (R_ld rfl Tryz.underlying74 rfl rfl hc) ?_
    obtain ⟨p129_63, ha, h0, h1, h⟩ := h
    refine Dpy rfl rfl rfl rfl rfl e15 rfl (V_ixA rfl Tryz.underlying74 ty84 (ixL rfl ha) rfl h0 h1) ?_
    obtain ⟨x130_64a, x130_64b, hc, h⟩ := h
    refine Dry rfl rfl rfl rfl rfl e15 rfl (R_lda rfl Tryz.underlying84 rfl ty84 rfl hc) ?_
    obtain ⟨x132_65, hc, h⟩ := h
    refine Dry rfl rfl rfl rfl rfl e15 rfl (R_ld rfl Tryz.underlying74 rfl rfl hc) ?_
    obtain ⟨p134_66, ha, h0, h1, h⟩ := h
    refine Dpy rfl rfl rfl rfl rfl e15 rfl (V_ixA rfl Tryz.underlying74 ty84 (ixL rfl ha) rfl h0 h1) ?_
    obtain ⟨x135_67a, x135_67b, hc, h⟩ := h
    refine Dry rfl rfl rfl rfl rfl e15 rfl (R_lda rfl Tryz.underlying84 rfl ty84 rfl hc) ?_
    refine Dgy rfl rfl rfl rfl rfl e15 rfl (X_eq rfl rfl rfl (awp_mono _ h ?_))
    rintro v σ ⟨x136_68, rfl, h⟩
    refine Dp rfl rfl rfl rfl (V_pickF rfl (evb e15) rfl) ?_
    refine Dend ?_
    refine thenN ?_
    exact ⟨_, (FrLe.cons rfl (FrLe.cons rfl (FrLe.cons rfl (FrLe.cons rfl (FrLe.cons rfl (FrLe.cons rfl (FrLe.cons rfl (FrLe.cons rfl (FrLe.nil _))))))))), h⟩
  intro h e2
  refine Dpy rfl rfl rfl rfl rfl e2 rfl (V_fld rfl Tryz.underlying77 rfl ty74 (by decide) rfl) ?_
  obtain ⟨x115_69, hc, h⟩ := h
  refine Dry rfl rfl rfl rfl rfl e2 rfl (R_ld rfl Tryz.underlying74 rfl rfl hc) ?_
  refine Dpy rfl rfl rfl rfl rfl e2 rfl (V_lenL rfl rfl Tryz.underlying74 rfl rfl) ?_
  refine Dpy rfl rfl rfl rfl rfl e2 rfl (V_neq rfl rfl rfl) ?_
  refine Dp rfl rfl rfl rfl (V_pickF rfl (evb e2) rfl) ?_
  refine Dp rfl rfl rfl rfl (V_move rfl rfl) ?_
  refine splitP (!(decide ((x115_69.len : Int) = 1))) (bnot_iff decide_eq_true_iff) h ?_ ?_
  · intro h e8
    refine Dpn rfl rfl rfl rfl rfl (.inl (by rw [e8]; rfl)) rfl ?_
    refine Dpn rfl rfl rfl rfl rfl (.inl (by rw [e8]; rfl)) rfl ?_
    refine Drn rfl rfl rfl rfl rfl (.inl (by rw [e8]; rfl)) rfl ?_
    refine Dpn rfl rfl rfl rfl rfl (.inl (by rw [e8]; rfl)) rfl ?_
    refine Dpn rfl rfl rfl rfl rfl (.inl (by rw [e8]; rfl)) rfl ?_
    refine Dp rfl rfl rfl rfl (V_pickT rfl (evb e8) rfl) ?_
    refine Dp rfl rfl rfl rfl (V_move rfl rfl) ?_
    refine splitP true (by simp) h ?_ ?_
    · intro h e15
      refine Dpn rfl rfl rfl rfl rfl (.inl (by rw [e15]; rfl)) rfl ?_
      refine Dpn rfl rfl rfl rfl rfl (.inl (by rw [e15]; rfl)) rfl ?_
      refine Dpn rfl rfl rfl rfl rfl (.inl (by rw [e15]; rfl)) rfl ?_
      refine Drn rfl rfl rfl rfl rfl (.inl (by rw [e15]; rfl)) rfl ?_
      refine Dpn rfl rfl rfl rfl rfl (.inl (by rw [e15]; rfl)) rfl ?_
      refine Drn rfl rfl rfl rfl rfl (.inl (by rw [e15]; rfl)) rfl ?_
      refine Drn rfl rfl rfl rfl rfl (.inl (by rw [e15]; rfl)) rfl ?_
      refine Dpn rfl rfl rfl rfl rfl (.inl (by rw [e15]; rfl)) rfl ?_
      refine Drn rfl rfl rfl rfl rfl (.inl (by rw [e15]; rfl)) rfl ?_
      refine Dgn rfl rfl rfl rfl rfl (.inl (by rw [e15]; rfl)) rfl ?_
      refine Dp rfl rfl rfl rfl (V_pickT rfl (evb e15) rfl) ?_
      refine Dend ?_
      refine thenN ?_
      exact ⟨_, (FrLe.cons rfl (FrLe.cons rfl (FrLe.cons rfl (FrLe.cons rfl (FrLe.cons rfl (FrLe.cons rfl (FrLe.cons rfl (FrLe.cons rfl (FrLe.nil _))))))))), h⟩
    intro h e15
    refine Dpy rfl rfl rfl rfl rfl e15 rfl (V_fld rfl Tryz.underlying77 rfl ty74 (by decide) rfl) ?_
    refine Dpy rfl rfl rfl rfl rfl e15 rfl (V_fld rfl Tryz.underlying77 rfl ty74 (by decide) rfl) ?_
    refine Dpy rfl rfl rfl rfl rfl e15 rfl (V_move rfl rfl) ?_
    obtain ⟨x128_70, hc, h⟩ := h
    refine Dry rfl rfl rfl rfl rfl e15 rfl (R_ld rfl Tryz.underlying74 rfl rfl hc) ?_
    obtain ⟨p129_71, ha, h0, h1, h⟩ := h
    refine Dpy rfl rfl rfl rfl rfl e15 rfl (V_ixA rfl Tryz.underlying74 ty84 (ixL rfl ha) rfl h0 h1) ?_
    obtain ⟨x130_72a, x130_72b, hc, h⟩ := h
    refine Dry rfl rfl rfl rfl rfl e15 rfl (R_lda rfl Tryz.underlying84 rfl ty84 rfl hc) ?_
    obtain ⟨x132_73, hc, h⟩ := h
    refine Dry rfl rfl rfl rfl rfl e15 rfl (R_ld rfl Tryz.underlying74 rfl rfl hc) ?_
    obtain ⟨p134_74, ha, h0, h1, h⟩ := h
    refine Dpy rfl rfl rfl rfl rfl e15 rfl (V_ixA rfl Tryz.underlying74 ty84 (ixL rfl ha) rfl h0 h1) ?_
    obtain ⟨x135_75a, x135_75b, hc, h⟩ := h
    refine Dry rfl rfl rfl rfl rfl e15 rfl (R_lda rfl Tryz.underlying84 rfl ty84 rfl hc) ?_
    refine Dgy rfl rfl rfl rfl rfl e15 rfl (X_eq rfl rfl rfl (awp_mono _ h ?_))
    rintro v σ ⟨x136_76, rfl, h⟩
    refine Dp rfl rfl rfl rfl (V_pickF rfl (evb e15) rfl) ?_
    refine Dend ?_
    refine thenN ?_
    exact ⟨_, (FrLe.cons rfl (FrLe.cons rfl (FrLe.cons rfl (FrLe.cons rfl (FrLe.cons rfl (FrLe.cons rfl (FrLe.cons rfl (FrLe.cons rfl (FrLe.nil _))))))))), h⟩
  intro h e8
  refine Dpy rfl rfl rfl rfl rfl e8 rfl (V_move rfl rfl) ?_
  refine Dpy rfl rfl rfl rfl rfl e8 rfl (V_fld rfl Tryz.underlying77 rfl ty74 (by decide) rfl) ?_
  obtain ⟨x122_77, hc, h⟩ := h
  refine Dry rfl rfl rfl rfl rfl e8 rfl (R_ld rfl Tryz.underlying74 rfl rfl hc) ?_
  refine Dpy rfl rfl rfl rfl rfl e8 rfl (V_lenL rfl rfl Tryz.underlying74 rfl rfl) ?_
  refine Dpy rfl rfl rfl rfl rfl e8 rfl (V_geq rfl rfl rfl) ?_
  refine Dp rfl rfl rfl rfl (V_pickF rfl (evb e8) rfl) ?_
  refine Dp rfl rfl rfl rfl (V_move rfl rfl) ?_
  refine splitP (decide ((x122_77.len : Int) ≤ x92_39)) decide_eq_true_iff h ?_ ?_
  · intro h e15
    refine Dpn rfl rfl rfl rfl rfl (.inl (by rw [e15]; rfl)) rfl ?_
    refine Dpn rfl rfl rfl rfl rfl (.inl (by rw [e15]; rfl)) rfl ?_
    refine Dpn rfl rfl rfl rfl rfl (.inl (by rw [e15]; rfl)) rfl ?_
    refine Drn rfl rfl rfl rfl rfl (.inl (by rw [e15]; rfl)) rfl ?_
    refine Dpn rfl rfl rfl rfl rfl (.inl (by rw [e15]; rfl)) rfl ?_
    refine Drn rfl rfl rfl rfl rfl (.inl (by rw [e15]; rfl)) rfl ?_
    refine Drn rfl rfl rfl rfl rfl (.inl (by rw [e15]; rfl)) rfl ?_
    refine Dpn rfl rfl rfl rfl rfl (.inl (by rw [e15]; rfl)) rfl ?_
    refine Drn rfl rfl rfl rfl rfl (.inl (by rw [e15]; rfl)) rfl ?_
    refine Dgn rfl rfl rfl rfl rfl (.inl (by rw [e15]; rfl)) rfl ?_
    refine Dp rfl rfl rfl rfl (V_pickT rfl (evb e15) rfl) ?_
    refine Dend ?_
    refine thenN ?_
    exact ⟨_, (FrLe.cons rfl (FrLe.cons rfl (FrLe.cons rfl (FrLe.cons rfl (FrLe.cons rfl (FrLe.cons rfl (FrLe.cons rfl (FrLe.cons rfl (FrLe.nil _))))))))), h⟩
  intro h e15
  refine Dpy rfl rfl rfl rfl rfl e15 rfl (V_fld rfl Tryz.underlying77 rfl ty74 (by decide) rfl) ?_
  refine Dpy rfl rfl rfl rfl rfl e15 rfl (V_fld rfl Tryz.underlying77 rfl ty74 (by decide) rfl) ?_
  refine Dpy rfl rfl rfl rfl rfl e15 rfl (V_move rfl rfl) ?_
  obtain ⟨x128_78, hc, h⟩ := h
  refine Dry rfl rfl rfl rfl rfl e15 rfl (R_ld rfl Tryz.underlying74 rfl rfl hc) ?_
  obtain ⟨p129_79, ha, h0, h1, h⟩ := h
  refine Dpy rfl rfl rfl rfl rfl e15 rfl (V_ixA rfl Tryz.underlying74 ty84 (ixL rfl ha) rfl h0 h1) ?_
  obtain ⟨x130_80a, x130_80b, hc, h⟩ := h
  refine Dry rfl rfl rfl rfl rfl e15 rfl (R_lda rfl Tryz.underlying84 rfl ty84 rfl hc) ?_
  obtain ⟨x132_81, hc, h⟩ := h
  refine Dry rfl rfl rfl rfl rfl e15 rfl (R_ld rfl Tryz.underlying74 rfl rfl hc) ?_
  obtain ⟨p134_82, ha, h0, h1, h⟩ := h
  refine Dpy rfl rfl rfl rfl rfl e15 rfl (V_ixA rfl Tryz.underlying74 ty84 (ixL rfl ha) rfl h0 h1) ?_
  obtain ⟨x135_83a, x135_83b, hc, h⟩ := h
  refine Dry rfl rfl rfl rfl rfl e15 rfl (R_lda rfl Tryz.underlying84 rfl ty84 rfl hc) ?_
  refine Dgy rfl rfl rfl rfl rfl e15 rfl (X_eq rfl rfl rfl (awp_mono _ h ?_))
  rintro v σ ⟨x136_84, rfl, h⟩
  refine Dp rfl rfl rfl rfl (V_pickF rfl (evb e15) rfl) ?_
  refine Dend ?_
  refine thenN ?_
  exact ⟨_, (FrLe.cons rfl (FrLe.cons rfl (FrLe.cons rfl (FrLe.cons rfl (FrLe.cons rfl (FrLe.cons rfl (FrLe.cons rfl (FrLe.cons rfl (FrLe.nil _))))))))), h⟩

def j2_law08_start (B : World) (ro : AH) (x6_1 : Option Addr) (Q : Option Addr → AH → Prop) (σ : AH) : Prop :=
 Q x6_1 σ

def l3_law08_start (B : World) (ro : AH) (a0 : Sl) (x6_1 : Option Addr) (Q : Option Addr → AH → Prop) : (Int) → AH → ((Int) → AH → Prop) → Prop := fun x11_4 σ Y3 =>
 if x11_4 < (a0.len : Int) then
  ∃ p13_5 : Addr, a0.a = some p13_5 ∧ (0 : Int) ≤ x11_4 ∧ x11_4 < (a0.len : Int) ∧
  ∃ (x14_6 : ByteArray), acell ro σ (p13_5.add (Int.toNat x11_4 * 1)) = some (.string x14_6) ∧
  (⟨#[47]⟩ : ByteArray).size + x14_6.size ≤ 9223372036854775807 ∧
  c_ztree_Tree_Create B ro x6_1 ((⟨#[47]⟩ : ByteArray) ++ x14_6) (⟨none, 0, 0⟩ : Sl) 0 false σ fun x18_7 x18_8 σ =>
  Y3 (IntKind.i64.wrap (x11_4 + 1)) σ
 else
 j2_law08_start B ro x6_1 Q σ

def f_law08_start (B : World) (ro : AH) (a0 : Sl) (σ : AH) (Q : Option Addr → AH → Prop) : Prop :=
 c_ztree_New B ro σ fun x6_1 σ =>
 if x6_1 = none then
  Q none σ
 else
 lfpD (l3_law08_start B ro a0 x6_1 Q ) (0) σ

set_option maxRecDepth 100000 in
set_option maxHeartbeats 4000000 in
theorem law08_start_ok {B : World} {ro : AH} {a0 : Sl} {σ : AH} {Q : Option Addr → AH → Prop} (h : Sep ro σ → f_law08_start B ro a0 σ Q) : c_law08_start B ro a0 σ Q := by
  refine ACalls.of_sep fun hsep => ?_
  replace h := h hsep
  refine ACalls.of_body (args := [Sl.v a0]) Tryz.func35 rfl (by rw [Tryz.ntmps35]; simp) ?_
  rw [Tryz.ntmps35]
  unfold f_law08_start at h
  refine AW.seq ?_
  refine AW.reg ?_
  refine Lp (V_asg rfl rfl) rfl rfl ?_
  refine Lnil ?_
  refine thenN ?_
  refine AW.seq ?_
  refine AW.reg ?_
  refine Ls rfl rfl (X_call rfl Tryz.func30 rfl rfl rfl (ACalls.mono h ?_))
  rintro v σ ⟨x6_1, rfl, h⟩
  refine Lp (V_asg rfl rfl) rfl rfl ?_
  refine Lnil ?_
  refine thenN ?_
  refine AW.seq ?_
  refine AW.seq ?_
  refine AW.reg ?_
  refine Lp (V_move rfl rfl) rfl rfl ?_
  refine Lp (V_eqP rfl Tryz.underlying23 rfl rfl) rfl rfl ?_
  refine Lnil ?_
  refine thenN ?_
  refine AW.iff rfl isNone_iff h (fun h => ?_) (fun h => ?_)
  · refine AW.seq ?_
    refine AW.reg ?_
    refine Lp (V_asg rfl rfl) rfl rfl ?_
    refine Lnil ?_
    refine thenN ?_
    refine AW.ret ?_
    refine thenR ?_
    exact bR1 Tryz.results35 rfl ⟨_, rfl, h⟩
  refine AW.skip ?_
  refine thenN ?_
  refine AW.seqJ (fun fr σ => FrLe [(3, .pointer x6_1)] fr ∧ j2_law08_start B ro x6_1 Q σ) ?_ ?_
  · rintro fr σ ⟨hl, h⟩
    refine AW.weaken ?_ hl (HLe.refl _)
    unfold j2_law08_start at h
    refine AW.seq ?_
    refine AW.reg ?_
    refine Lp (V_move rfl rfl) rfl rfl ?_
    refine Lp (V_asg rfl rfl) rfl rfl ?_
    refine Lnil ?_
    refine thenN ?_
    refine AW.ret ?_
    exact bR1 Tryz.results35 rfl ⟨_, rfl, h⟩
  refine AW.seq ?_
  refine AW.reg ?_
  refine Lp (V_move rfl rfl) rfl rfl ?_
  refine Lp (V_lenL rfl rfl Tryz.underlying25 rfl rfl) rfl rfl ?_
  refine Lp (V_move rfl rfl) rfl rfl ?_
  refine Lnil ?_
  refine thenN ?_
  refine AW.block ?_
  refine ARound.loop (fr' := [(3, .pointer x6_1), (9, Sl.v a0), (10, .int .i64 (a0.len : Int)), (11, .int .i64 0)]) ?_ (FrLe.cons rfl (FrLe.cons rfl (FrLe.cons rfl (FrLe.cons rfl (FrLe.nil _)))))
  refine h (fun x11_4 σ => ARound _ _ _ _ _ _ [(3, .pointer x6_1), (9, Sl.v a0), (10, .int .i64 (a0.len : Int)), (11, .int .i64 x11_4)] σ) ?_
  rintro x11_4 σ Y3 hY3 h
  show AW _ _ _ _ _ _ _ _
  unfold l3_law08_start at h
  refine AW.seq ?_
  refine AW.reg ?_
  refine Lp (V_lss rfl rfl rfl) rfl rfl ?_
  refine Lnil ?_
  refine thenN ?_
  refine AW.seq ?_
  refine AW.iff rfl decide_eq_true_iff h (fun h => ?_) (fun h => ?_)
  rotate_left
  · refine AW.exit ?_
    refine thenE ?_
    refine thenE ?_
    refine blockE ?_
    refine thenN ?_
    exact ⟨(FrLe.cons rfl (FrLe.nil _)), h⟩
  refine AW.skip ?_
  refine thenN ?_
  refine AW.seq ?_
  refine AW.block ?_
  refine AW.seq ?_
  refine AW.reg ?_
  obtain ⟨p13_5, ha, h0, h1, h⟩ := h
  refine Lp (V_ixA rfl Tryz.underlying25 ty9 (ixL rfl ha) rfl h0 h1) rfl rfl ?_
  obtain ⟨x14_6, hc, h⟩ := h
  refine Ls rfl rfl (X_ld rfl Tryz.underlying9 rfl rfl hc ?_)
  refine Lp (V_asg rfl rfl) rfl rfl ?_
  refine Lnil ?_
  refine thenN ?_
  refine AW.reg ?_
  refine Lp (V_move rfl rfl) rfl rfl ?_
  refine Lp (V_move rfl rfl) rfl rfl ?_
  obtain ⟨hc, h⟩ := h
  refine Lp (V_cat rfl rfl rfl hc) rfl rfl ?_
  refine Ls rfl rfl (X_call rfl Tryz.func22 rfl rfl rfl (ACalls.mono h ?_))
  rintro v σ ⟨x18_7, x18_8, rfl, h⟩
  refine Lnil ?_
  refine blockN ?_
  refine thenN ?_
  refine AW.reg ?_
  refine Lp (V_add rfl rfl rfl) rfl rfl ?_
  refine Lp (V_move rfl rfl) rfl rfl ?_
  refine Lnil ?_
  refine thenN ?_
  refine ARound.head (fr' := [(3, .pointer x6_1), (9, Sl.v a0), (10, .int .i64 (a0.len : Int)), (11, .int .i64 (IntKind.i64.wrap (x11_4 + 1)))]) ?_ (FrLe.cons rfl (FrLe.cons rfl (FrLe.cons rfl (FrLe.cons rfl (FrLe.nil _)))))
  exact hY3 _ _ h

def j1_law08_copied (B : World) (ro : AH) (Q : Sl → AH → Prop) (x3_2 : Sl) (σ : AH) : Prop :=
 Q x3_2 σ

def l3_law08_copied (B : World) (ro : AH) (a0 : Sl) (Q : Sl → AH → Prop) : (Sl × Int) → AH → ((Sl × Int) → AH → Prop) → Prop := fun ⟨x3_4, x8_5⟩ σ Y3 =>
 if x8_5 < (a0.len : Int) then
  ∃ p10_6 : Addr, a0.a = some p10_6 ∧ (0 : Int) ≤ x8_5 ∧ x8_5 < (a0.len : Int) ∧
  ∃ (x11_7a : Int) (x11_7b : ByteArray) (x11_7c : Sl) (x11_7d : Int) (x11_7e : Bool) (x11_7f : Bool), cellsAt ro σ (p10_6.add (Int.toNat x8_5 * 6)) 0 [.int .i64 x11_7a, .string x11_7b, Sl.v x11_7c, .int .i64 x11_7d, .bool x11_7e, .bool x11_7f] ∧
  nw ro σ (.cells #[.int .i64 0, .string ByteArray.empty, Sl.v (⟨none, 0, 0⟩ : Sl), .int .i64 0, .bool false, .bool false] 82) fun x5_8 σ =>
  stN ⟨x5_8, 0, none⟩ (fun σ =>
   ∃ (x13_9 : Sl), acell ro σ ((⟨x5_8, 0, none⟩ : Addr).add 2) = some (Sl.v x13_9) ∧
   c_ref01_Copy B ro x13_9 σ fun x14_10 σ =>
   stN ((⟨x5_8, 0, none⟩ : Addr).add 2) (fun σ =>
    ∃ (x17_11a : Int) (x17_11b : ByteArray) (x17_11c : Sl) (x17_11d : Int) (x17_11e : Bool) (x17_11f : Bool), cellsAt ro σ ⟨x5_8, 0, none⟩ 0 [.int .i64 x17_11a, .string x17_11b, Sl.v x17_11c, .int .i64 x17_11d, .bool x17_11e, .bool x17_11f] ∧
    nw ro σ (.cells #[.int .i64 x17_11a, .string x17_11b, Sl.v x17_11c, .int .i64 x17_11d, .bool x17_11e, .bool x17_11f] 82) fun x18_12 σ =>
    awp Tryz.prog ro (Builtin.append_ #[70, 70] 70 #[Sl.v x3_4, Sl.v (⟨some ⟨x18_12, 0, none⟩, 1, 1⟩ : Sl)]) (fun v σ => ∃ (x19_13 : Sl), v = Sl.v x19_13 ∧
     Y3 (x19_13, IntKind.i64.wrap (x8_5 + 1)) σ) σ) [Sl.v x14_10] 0 σ) [.int .i64 x11_7a, .string x11_7b, Sl.v x11_7c, .int .i64 x11_7d, .bool x11_7e, .bool x11_7f] 0 σ
 else
 j1_law08_copied B ro Q x3_4 σ

def f_law08_copied (B : World) (ro : AH) (a0 : Sl) (σ : AH) (Q : Sl → AH → Prop) : Prop :=
 lfpD (l3_law08_copied B ro a0 Q ) ((⟨none, 0, 0⟩ : Sl), 0) σ

set_option maxRecDepth 100000 in
set_option maxHeartbeats 4000000 in
theorem law08_copied_ok {B : World} {ro : AH} {a0 : Sl} {σ : AH} {Q : Sl → AH → Prop} (h : Sep ro σ → f_law08_copied B ro a0 σ Q) : c_law08_copied B ro a0 σ Q := by
  refine ACalls.of_sep fun hsep => ?_
  replace h := h hsep
  refine ACalls.of_body (args := [Sl.v a0]) Tryz.func37 rfl (by rw [Tryz.ntmps37]; simp) ?_
  rw [Tryz.ntmps37]
  unfold f_law08_copied at h
  refine AW.seq ?_
  refine AW.reg ?_
  refine Lp (V_asg rfl rfl) rfl rfl ?_
  refine Lnil ?_
  refine thenN ?_
  refine AW.seq ?_
  refine AW.reg ?_
  refine Lp (V_asg rfl rfl) rfl rfl ?_
  refine Lnil ?_
  refine thenN ?_
  refine AW.seqJ (fun fr σ => ∃ (x3_2 : Sl), FrLe [(3, Sl.v x3_2)] fr ∧ j1_law08_copied B ro Q x3_2 σ) ?_ ?_
  · rintro fr σ ⟨x3_2, hl, h⟩
    refine AW.weaken ?_ hl (HLe.refl _)
    unfold j1_law08_copied at h
    refine AW.seq ?_
    refine AW.reg ?_
    refine Lp (V_move rfl rfl) rfl rfl ?_
    refine Lp (V_asg rfl rfl) rfl rfl ?_
    refine Lnil ?_
    refine thenN ?_
    refine AW.ret ?_
    exact bR1 Tryz.results37 rfl ⟨_, rfl, h⟩
  refine AW.seq ?_
  refine AW.reg ?_
  refine Lp (V_move rfl rfl) rfl rfl ?_
  refine Lp (V_lenL rfl rfl Tryz.underlying70 rfl rfl) rfl rfl ?_
  refine Lp (V_move rfl rfl) rfl rfl ?_
  refine Lnil ?_
  refine thenN ?_
  refine AW.block ?_
  refine ARound.loop (fr' := [(6, Sl.v a0), (7, .int .i64 (a0.len : Int)), (3, Sl.v (⟨none, 0, 0⟩ : Sl)), (8, .int .i64 0)]) ?_ (FrLe.cons rfl (FrLe.cons rfl (FrLe.cons rfl (FrLe.cons rfl (FrLe.nil _)))))
  refine h (fun ⟨x3_4, x8_5⟩ σ => ARound _ _ _ _ _ _ [(6, Sl.v a0), (7, .int .i64 (a0.len : Int)), (3, Sl.v x3_4), (8, .int .i64 x8_5)] σ) ?_
  rintro ⟨x3_4, x8_5⟩ σ Y3 hY3 h
  show AW _ _ _ _ _ _ _ _
  unfold l3_law08_copied at h
  dsimp only at h
  refine AW.seq ?_
  refine AW.reg ?_
  refine Lp (V_lss rfl rfl rfl) rfl rfl ?_
  refine Lnil ?_
  refine thenN ?_
  refine AW.seq ?_
  refine AW.iff rfl decide_eq_true_iff h (fun h => ?_) (fun h => ?_)
  rotate_left
  · refine AW.exit ?_
    refine thenE ?_
    refine thenE ?_
    refine blockE ?_
    refine thenN ?_
    exact ⟨_, (FrLe.cons rfl (FrLe.nil _)), h⟩
  refine AW.skip ?_
  refine thenN ?_
  refine AW.seq ?_
  refine AW.block ?_
  refine AW.seq ?_
  refine AW.reg ?_
  obtain ⟨p10_6, ha, h0, h1, h⟩ := h
  refine Lp (V_ixA rfl Tryz.underlying70 ty82 (ixL rfl ha) rfl h0 h1) rfl rfl ?_
  obtain ⟨x11_7a, x11_7b, x11_7c, x11_7d, x11_7e, x11_7f, hc, h⟩ := h
  refine Ls rfl rfl (X_lda rfl Tryz.underlying82 rfl ty82 rfl hc ?_)
  refine Ls rfl rfl (X_new (A_alloc rfl ty82) fun x5_8 g1 g2 => ?_)
  replace h := h x5_8 g1 g2
  refine Ls rfl rfl (X_st rfl ty82 rfl rfl rfl rfl (stN_mono h fun σ h => ?_))
  refine Lnil ?_
  refine thenN ?_
  refine AW.seq ?_
  refine AW.reg ?_
  refine Lp (V_fld rfl Tryz.underlying82 rfl ty30 (by decide) rfl) rfl rfl ?_
  obtain ⟨x13_9, hc, h⟩ := h
  refine Ls rfl rfl (X_ld rfl Tryz.underlying30 rfl rfl hc ?_)
  refine Ls rfl rfl (X_call rfl Tryz.func23 rfl rfl rfl (ACalls.mono h ?_))
  rintro v σ ⟨x14_10, rfl, h⟩
  refine Lp (V_fld rfl Tryz.underlying82 rfl ty30 (by decide) rfl) rfl rfl ?_
  refine Ls rfl rfl (X_st rfl ty30 rfl rfl rfl rfl (stN_mono h fun σ h => ?_))
  refine Lnil ?_
  refine thenN ?_
  refine AW.reg ?_
  refine Lp (V_move rfl rfl) rfl rfl ?_
  obtain ⟨x17_11a, x17_11b, x17_11c, x17_11d, x17_11e, x17_11f, hc, h⟩ := h
  refine Ls rfl rfl (X_lda rfl Tryz.underlying82 rfl ty82 rfl hc ?_)
  refine Ls rfl rfl (X_new (A_bsl (vs := [(0, .agg #[.int .i64 x17_11a, .string x17_11b, Sl.v x17_11c, .int .i64 x17_11d, .bool x17_11e, .bool x17_11f])]) (cs := #[.int .i64 x17_11a, .string x17_11b, Sl.v x17_11c, .int .i64 x17_11d, .bool x17_11e, .bool x17_11f]) rfl Tryz.underlying70 ty82 (by decide) rfl rfl) fun x18_12 g1 g2 => ?_)
  replace h := h x18_12 g1 g2
  refine Ls rfl rfl (X_bi (s := Builtin.append_ #[70, 70] 70 #[Sl.v x3_4, Sl.v (⟨some ⟨x18_12, 0, none⟩, 1, 1⟩ : Sl)]) rfl rfl (fun _ => rfl) (awp_mono _ h ?_))
  rintro v σ ⟨x19_13, rfl, h⟩
  refine Lp (V_asg rfl rfl) rfl rfl ?_
  refine Lnil ?_
  refine blockN ?_
  refine thenN ?_
  refine AW.reg ?_
  refine Lp (V_add rfl rfl rfl) rfl rfl ?_
  refine Lp (V_move rfl rfl) rfl rfl ?_
  refine Lnil ?_
  refine thenN ?_
  refine ARound.head (fr' := [(6, Sl.v a0), (7, .int .i64 (a0.len : Int)), (3, Sl.v x19_13), (8, .int .i64 (IntKind.i64.wrap (x8_5 + 1)))]) ?_ (FrLe.cons rfl (FrLe.cons rfl (FrLe.cons rfl (FrLe.cons rfl (FrLe.nil _)))))
  exact hY3 _ _ h

def j13_law08_awake (B : World) (ro : AH) (Q : Bool → AH → Prop) (x41_14 : Bool) (σ : AH) : Prop :=
 Q x41_14 σ

def j11_law08_awake (B : World) (ro : AH) (x5_2 : Option Addr) (Q : Bool → AH → Prop) (x36_12 : Bool) (σ : AH) : Prop :=
 if x36_12 = true then
  c_ztree_Tree_Size B ro x5_2 σ fun x39_15 σ =>
  j13_law08_awake B ro Q (decide (x39_15 = 3)) σ
 else
 j13_law08_awake B ro Q false σ

def j9_law08_awake (B : World) (ro : AH) (x2_6 : Nat) (x5_2 : Option Addr) (Q : Bool → AH → Prop) (x28_10 : Bool) (σ : AH) : Prop :=
 if x28_10 = true then
  ∃ (x31_16 : Sl), acell ro σ ⟨x2_6, 0, none⟩ = some (Sl.v x31_16) ∧
  ∃ p32_17 : Addr, x31_16.a = some p32_17 ∧ (0 : Int) ≤ 0 ∧ 0 < (x31_16.len : Int) ∧
  ∃ (x34_18 : ByteArray), acell ro σ (p32_17.add (Int.toNat 0 * 2)) = some (.string x34_18) ∧
  j11_law08_awake B ro x5_2 Q (decide (x34_18 = (⟨#[47, 97, 47, 120]⟩ : ByteArray))) σ
 else
 j11_law08_awake B ro x5_2 Q false σ

def j7_law08_awake (B : World) (ro : AH) (x2_6 : Nat) (x5_2 : Option Addr) (Q : Bool → AH → Prop) (x22_8 : Bool) (σ : AH) : Prop :=
 if x22_8 = true then
  ∃ (x25_19 : Sl), acell ro σ ⟨x2_6, 0, none⟩ = some (Sl.v x25_19) ∧
  j9_law08_awake B ro x2_6 x5_2 Q (decide ((x25_19.len : Int) = 1)) σ
 else
 j9_law08_awake B ro x2_6 x5_2 Q false σ

def f_law08_awake (B : World) (ro : AH) (σ : AH) (Q : Bool → AH → Prop) : Prop :=
 nw ro σ (.cells #[.string (⟨#[97]⟩ : ByteArray)] 9) fun x4_1 σ =>
 c_law08_start B ro (⟨some ⟨x4_1, 0, none⟩, 1, 1⟩ : Sl) σ fun x5_2 σ =>
 if x5_2 = none then
  Q false σ
 else
 nw ro σ (.cells #[.int .i64 1, .string (⟨#[47, 97, 47, 120]⟩ : ByteArray), Sl.v (⟨none, 0, 0⟩ : Sl), .int .i64 0, .bool false, .bool false] 82) fun x12_3 σ =>
 c_multi_Apply B ro x5_2 (⟨#[97]⟩ : ByteArray) 5 9 99 (⟨some ⟨x12_3, 0, none⟩, 1, 1⟩ : Sl) σ fun x13_4a x13_4b x13_4c x13_5 σ =>
 nw ro σ (.cells #[Sl.v (⟨none, 0, 0⟩ : Sl), Sl.v (⟨none, 0, 0⟩ : Sl), .int .i64 0] 77) fun x2_6 σ =>
 stN ⟨x2_6, 0, none⟩ (fun σ =>
  if x13_5 = 0 then
   ∃ (x20_20 : Int), acell ro σ ((⟨x2_6, 0, none⟩ : Addr).add 2) = some (.int .i64 x20_20) ∧
   j7_law08_awake B ro x2_6 x5_2 Q (decide (x20_20 = (-1))) σ
  else
  j7_law08_awake B ro x2_6 x5_2 Q false σ) [Sl.v x13_4a, Sl.v x13_4b, .int .i64 x13_4c] 0 σ

set_option maxRecDepth 100000 in
set_option maxHeartbeats 4000000 in
theorem law08_awake_ok {B : World} {ro : AH} {σ : AH} {Q : Bool → AH → Prop} (h : Sep ro σ → f_law08_awake B ro σ Q) : c_law08_awake B ro σ Q := by
  refine ACalls.of_sep fun hsep => ?_
  replace h := h hsep
  refine ACalls.of_body (args := []) Tryz.func38 rfl (by rw [Tryz.ntmps38]; simp) ?_
  rw [Tryz.ntmps38]
  unfold f_law08_awake at h
  refine AW.seq ?_
  refine AW.reg ?_
  refine Lp (V_asg rfl rfl) rfl rfl ?_
  refine Lnil ?_
  refine thenN ?_
  refine AW.seq ?_
  refine AW.reg ?_
  refine Ls rfl rfl (X_new (A_bsl (vs := [(0, .string (⟨#[97]⟩ : ByteArray))]) (cs := #[.string (⟨#[97]⟩ : ByteArray)]) rfl Tryz.underlying25 ty9 (by decide) rfl rfl) fun x4_1 g1 g2 => ?_)
  replace h := h x4_1 g1 g2
  refine Ls rfl rfl (X_call rfl Tryz.func35 rfl rfl rfl (ACalls.mono h ?_))
  rintro v σ ⟨x5_2, rfl, h⟩
  refine Lp (V_asg rfl rfl) rfl rfl ?_
  refine Lnil ?_
  refine thenN ?_
  refine AW.seq ?_
  refine AW.seq ?_
  refine AW.reg ?_
  refine Lp (V_move rfl rfl) rfl rfl ?_
  refine Lp (V_eqP rfl Tryz.underlying23 rfl rfl) rfl rfl ?_
  refine Lnil ?_
  refine thenN ?_
  refine AW.iff rfl isNone_iff h (fun h => ?_) (fun h => ?_)
  · refine AW.seq ?_
    refine AW.reg ?_
    refine Lp (V_asg rfl rfl) rfl rfl ?_
    refine Lnil ?_
    refine thenN ?_
    refine AW.ret ?_
    refine thenR ?_
    exact bR1 Tryz.results38 rfl ⟨_, rfl, h⟩
  refine AW.skip ?_
  refine thenN ?_
  refine AW.seq ?_
  refine AW.reg ?_
  refine Lp (V_move rfl rfl) rfl rfl ?_
  refine Lp (V_bld (vs := [(0, .int .i64 9), (1, .int .i64 99)]) (cs := #[.int .i64 9, .int .i64 99]) rfl Tryz.underlying69 ty69 pl69 rfl rfl) rfl rfl ?_
  refine Lp (V_bld (vs := [(0, .int .i64 1), (1, .string (⟨#[47, 97, 47, 120]⟩ : ByteArray))]) (cs := #[.int .i64 1, .string (⟨#[47, 97, 47, 120]⟩ : ByteArray), Sl.v (⟨none, 0, 0⟩ : Sl), .int .i64 0, .bool false, .bool false]) rfl Tryz.underlying82 ty82 pl82 rfl rfl) rfl rfl ?_
  refine Ls rfl rfl (X_new (A_bsl (vs := [(0, .agg #[.int .i64 1, .string (⟨#[47, 97, 47, 120]⟩ : ByteArray), Sl.v (⟨none, 0, 0⟩ : Sl), .int .i64 0, .bool false, .bool false])]) (cs := #[.int .i64 1, .string (⟨#[47, 97, 47, 120]⟩ : ByteArray), Sl.v (⟨none, 0, 0⟩ : Sl), .int .i64 0, .bool false, .bool false]) rfl Tryz.underlying70 ty82 (by decide) rfl rfl) fun x12_3 g1 g2 => ?_)
  replace h := h x12_3 g1 g2
  refine Ls rfl rfl (X_call rfl Tryz.func36 rfl rfl rfl (ACalls.mono h ?_))
  rintro v σ ⟨x13_4a, x13_4b, x13_4c, x13_5, rfl, h⟩
  refine Lp (V_move rfl rfl) rfl rfl ?_
  refine Lp (V_ext rfl rfl rfl) rfl rfl ?_
  refine Lp (V_ext rfl rfl rfl) rfl rfl ?_
  refine Ls rfl rfl (X_new (A_alloc rfl ty77) fun x2_6 g1 g2 => ?_)
  replace h := h x2_6 g1 g2
  refine Ls rfl rfl (X_st rfl ty77 rfl rfl rfl rfl (stN_mono h fun σ h => ?_))
  refine Lp (V_asg rfl rfl) rfl rfl ?_
  refine Lnil ?_
  refine thenN ?_
  refine AW.seq ?_
  refine AW.reg ?_
  refine Lp (V_move rfl rfl) rfl rfl ?_
  refine Lp (V_eql rfl rfl rfl) rfl rfl ?_
  refine Lp (V_move rfl rfl) rfl rfl ?_
  refine LsplitJ 4 (decide (x13_5 = 0)) decide_eq_true_iff h (fun fr σ => ∃ (x22_8 : Bool), FrLe [(1, .pointer x5_2), (2, .pointer (some ⟨x2_6, 0, none⟩)), (22, .bool x22_8)] fr ∧ j7_law08_awake B ro x2_6 x5_2 Q x22_8 σ) ?_ ?_ ?_
  · intro h e2 hk2
    refine Lypb (V_fld rfl Tryz.underlying77 rfl ty3 (by decide) rfl) rfl rfl rfl rfl e2 ?_
    obtain ⟨x20_20, hc, h⟩ := h
    refine Lyb rfl rfl rfl rfl e2 (X_ld rfl Tryz.underlying3 rfl rfl hc ?_)
    refine Lypb (V_eql rfl rfl rfl) rfl rfl rfl rfl e2 ?_
    refine Lp (V_pickT rfl (evb e2) rfl) rfl rfl ?_
    exact hk2 _ _ ⟨_, (FrLe.cons rfl (FrLe.cons rfl (FrLe.cons rfl (FrLe.nil _)))), h⟩
  · intro h e2 hk2
    refine Ln rfl rfl rfl rfl (.inl (by rw [e2]; rfl)) ?_
    refine Ln rfl rfl rfl rfl (.inl (by rw [e2]; rfl)) ?_
    refine Ln rfl rfl rfl rfl (.inl (by rw [e2]; rfl)) ?_
    refine Lp (V_pickF rfl (evb e2) rfl) rfl rfl ?_
    exact hk2 _ _ ⟨_, (FrLe.cons rfl (FrLe.cons rfl (FrLe.cons rfl (FrLe.nil _)))), h⟩
  rintro fr σ ⟨x22_8, hl, h⟩
  unfold j7_law08_awake at h
  refine Lfr hl ?_
  refine Lp (V_move rfl rfl) rfl rfl ?_
  refine LsplitJ 5 x22_8 Iff.rfl h (fun fr σ => ∃ (x28_10 : Bool), FrLe [(1, .pointer x5_2), (2, .pointer (some ⟨x2_6, 0, none⟩)), (28, .bool x28_10)] fr ∧ j9_law08_awake B ro x2_6 x5_2 Q x28_10 σ) ?_ ?_ ?_
  · intro h e7 hk7
    refine Lypb (V_fld rfl Tryz.underlying77 rfl ty74 (by decide) rfl) rfl rfl rfl rfl e7 ?_
    obtain ⟨x25_19, hc, h⟩ := h
    refine Lyb rfl rfl rfl rfl e7 (X_ld rfl Tryz.underlying74 rfl rfl hc ?_)
    refine Lypb (V_lenL rfl rfl Tryz.underlying74 rfl rfl) rfl rfl rfl rfl e7 ?_
    refine Lypb (V_eql rfl rfl rfl) rfl rfl rfl rfl e7 ?_
    refine Lp (V_pickT rfl (evb e7) rfl) rfl rfl ?_
    exact hk7 _ _ ⟨_, (FrLe.cons rfl (FrLe.cons rfl (FrLe.cons rfl (FrLe.nil _)))), h⟩
  · intro h e7 hk7
    refine Ln rfl rfl rfl rfl (.inl (by rw [e7]; rfl)) ?_
    refine Ln rfl rfl rfl rfl (.inl (by rw [e7]; rfl)) ?_
    refine Ln rfl rfl rfl rfl (.inl (by rw [e7]; rfl)) ?_
    refine Ln rfl rfl rfl rfl (.inl (by rw [e7]; rfl)) ?_
    refine Lp (V_pickF rfl (evb e7) rfl) rfl rfl ?_
    exact hk7 _ _ ⟨_, (FrLe.cons rfl (FrLe.cons rfl (FrLe.cons rfl (FrLe.nil _)))), h⟩
  rintro fr σ ⟨x28_10, hl, h⟩
  unfold j9_law08_awake at h
  refine Lfr hl ?_
  refine Lp (V_move rfl rfl) rfl rfl ?_
  refine LsplitJ 7 x28_10 Iff.rfl h (fun fr σ => ∃ (x36_12 : Bool), FrLe [(1, .pointer x5_2), (36, .bool x36_12)] fr ∧ j11_law08_awake B ro x5_2 Q x36_12 σ) ?_ ?_ ?_
  · intro h e13 hk13
    refine Lypb (V_fld rfl Tryz.underlying77 rfl ty74 (by decide) rfl) rfl rfl rfl rfl e13 ?_
    obtain ⟨x31_16, hc, h⟩ := h
    refine Lyb rfl rfl rfl rfl e13 (X_ld rfl Tryz.underlying74 rfl rfl hc ?_)
    obtain ⟨p32_17, ha, h0, h1, h⟩ := h
    refine Lypb (V_ixA rfl Tryz.underlying74 ty84 (ixL rfl ha) rfl h0 h1) rfl rfl rfl rfl e13 ?_
    refine Lypb (V_fld rfl Tryz.underlying84 rfl ty9 (by decide) rfl) rfl rfl rfl rfl e13 ?_
    obtain ⟨x34_18, hc, h⟩ := h
    refine Lyb rfl rfl rfl rfl e13 (X_ld rfl Tryz.underlying9 rfl rfl hc ?_)
    refine Lypb (V_eqlS rfl rfl rfl) rfl rfl rfl rfl e13 ?_
    refine Lp (V_pickT rfl (evb e13) rfl) rfl rfl ?_
    exact hk13 _ _ ⟨_, (FrLe.cons rfl (FrLe.cons rfl (FrLe.nil _))), h⟩
  · intro h e13 hk13
    refine Ln rfl rfl rfl rfl (.inl (by rw [e13]; rfl)) ?_
    refine Ln rfl rfl rfl rfl (.inl (by rw [e13]; rfl)) ?_
    refine Ln rfl rfl rfl rfl (.inl (by rw [e13]; rfl)) ?_
    refine Ln rfl rfl rfl rfl (.inl (by rw [e13]; rfl)) ?_
    refine Ln rfl rfl rfl rfl (.inl (by rw [e13]; rfl)) ?_
    refine Ln rfl rfl rfl rfl (.inl (by rw [e13]; rfl)) ?_
    refine Lp (V_pickF rfl (evb e13) rfl) rfl rfl ?_
    exact hk13 _ _ ⟨_, (FrLe.cons rfl (FrLe.cons rfl (FrLe.nil _))), h⟩
  rintro fr σ ⟨x36_12, hl, h⟩
  unfold j11_law08_awake at h
  refine Lfr hl ?_
  refine Lp (V_move rfl rfl) rfl rfl ?_
  refine LsplitJ 4 x36_12 Iff.rfl h (fun fr σ => ∃ (x41_14 : Bool), FrLe [(41, .bool x41_14)] fr ∧ j13_law08_awake B ro Q x41_14 σ) ?_ ?_ ?_
  · intro h e21 hk21
    refine Lypb (V_move rfl rfl) rfl rfl rfl rfl e21 ?_
    refine Lyb rfl rfl rfl rfl e21 (X_call rfl Tryz.func16 rfl rfl rfl (ACalls.mono h ?_))
    rintro v σ ⟨x39_15, rfl, h⟩
    refine Lypb (V_eql rfl rfl rfl) rfl rfl rfl rfl e21 ?_
    refine Lp (V_pickT rfl (evb e21) rfl) rfl rfl ?_
    exact hk21 _ _ ⟨_, (FrLe.cons rfl (FrLe.nil _)), h⟩
  · intro h e21 hk21
    refine Ln rfl rfl rfl rfl (.inl (by rw [e21]; rfl)) ?_
    refine Ln rfl rfl rfl rfl (.inl (by rw [e21]; rfl)) ?_
    refine Ln rfl rfl rfl rfl (.inl (by rw [e21]; rfl)) ?_
    refine Lp (V_pickF rfl (evb e21) rfl) rfl rfl ?_
    exact hk21 _ _ ⟨_, (FrLe.cons rfl (FrLe.nil _)), h⟩
  rintro fr σ ⟨x41_14, hl, h⟩
  unfold j13_law08_awake at h
  refine Lfr hl ?_
  refine Lp (V_asg rfl rfl) rfl rfl ?_
  refine Lnil ?_
  refine thenN ?_
  refine AW.ret ?_
  exact bR1 Tryz.results38 rfl ⟨_, rfl, h⟩

end Go.Proofs.YthfpmipeejjogaaGreatDoor.G

/- Trees with homes, copies of ops, and the law's own example. -/
namespace Go.Proofs.YthfpmipeejjogaaGreatDoor.Zt
open Go Go.Proofs.YthfpmipeejjogaaGreatDoor.SL Go.Proofs.YthfpmipeejjogaaGreatDoor.G Go.Proofs.YthfpmipeejjogaaGreatDoor.Pa
set_option linter.unusedSimpArgs false
set_option linter.unusedVariables false
variable {B : World} {ro σ σ' : AH} {tag tag' : Nat → Nat}

def startE (hs : List Str) : St := hs.foldl (fun st h => (create st (47 :: h) [] 0 false).1) St.new
theorem invB_start : ∀ (hs : List Str), hs.length ≤ 1073741824 → InvB hs.length (startE hs) := by
  intro hs hl
  have key : ∀ (l : List Str) (b : Nat) (st : St), InvB b st → b + l.length ≤ 1073741824 → InvB (b + l.length) (l.foldl (fun st h => (create st (47 :: h) [] 0 false).1) st) := by
    intro l
    induction l with
    | nil => intro b st h _; exact h
    | cons x l ih =>
      intro b st h hb
      simp only [List.length_cons] at hb ⊢
      have h1 := ih (b + 1) _ (invB_create (p := 47 :: x) (d := []) (o := 0) (seq := false) h (by omega)) (by omega)
      rw [List.foldl_cons, show b + (l.length + 1) = b + 1 + l.length by omega]
      exact h1
  have := key hs 0 St.new invB_new (by omega)
  rw [Nat.zero_add] at this; exact this
set_option maxRecDepth 100000 in
theorem start_ok {a0 : Sl} {hs : List Str} {Q : Option Addr → AH → Prop} (r : Nat) (g : Glob ro) (hr : r < 64) (hr6 : r ≠ 6) (hr0 : r ≠ 0) (hrd : ∀ tag' σ', StepC r ro tag σ tag' σ' → SL.Read ro σ' a0 (hs.map Pa.vS)) (hl : hs.length ≤ 1073741824) (hhl : ∀ h ∈ hs, h.length ≤ 4611686018427387903)
    (hQ : ∀ T tag' σ', StepC r ro tag σ tag' σ' → TreeIs tag' σ' r T (startE hs) → InvB hs.length (startE hs) → Q (some ⟨T, 0, none⟩) σ') : c_law08_start B ro a0 σ Q := by
  refine law08_start_ok fun hsep => ?_
  unfold f_law08_start
  refine new_ok (tag := tag) r hr hr6 fun T tag1 σ1 st1 h1 => ?_
  rw [if_neg (by simp)]
  have hln : a0.len = hs.length := by rw [(hrd tag1 σ1 st1).1, List.length_map]
  suffices ∀ m j tag2 σ2, j + m = hs.length → StepC r ro tag σ tag2 σ2 → TreeIs tag2 σ2 r T (startE (hs.take j)) → lfpD (l3_law08_start B ro a0 (some ⟨T, 0, none⟩) Q) (j : Int) σ2 from
    this _ 0 tag1 σ1 (Nat.zero_add _) st1 h1
  intro m
  induction m with
  | zero =>
    intro j tag2 σ2 hj st2 h2
    refine lfpD.intro ?_
    unfold l3_law08_start
    rw [if_neg (by omega)]
    unfold j2_law08_start
    rw [List.take_of_length_le (by omega)] at h2
    exact hQ T tag2 σ2 st2 h2 (invB_start hs hl)
  | succ m ih =>
    intro j tag2 σ2 hj st2 h2
    have hjl : j < hs.length := by omega
    have rd := hrd tag2 σ2 st2
    obtain ⟨p, hp⟩ : ∃ p, a0.a = some p := by
      cases e : a0.a with
      | none => have := rd.2.1 e; simp at this; rw [this] at hjl; simp at hjl
      | some p => exact ⟨p, rfl⟩
    have hcell := rd.2.2 p hp j (Pa.vS hs[j]) (by rw [List.getElem?_map, List.getElem?_eq_getElem hjl]; rfl)
    have hxl := hhl _ (List.getElem_mem hjl)
    refine lfpD.intro ?_
    unfold l3_law08_start
    rw [if_pos (by omega)]
    refine ⟨p, hp, by omega, by omega, S hs[j], by rw [Int.toNat_natCast, Nat.mul_one]; exact hcell, ?_⟩
    refine ⟨by rw [show (⟨#[47]⟩ : ByteArray).size = 1 from rfl, show (S hs[j]).size = hs[j].length from by rw [← L_len, L_S]]; omega, ?_⟩
    have hcat : (⟨#[47]⟩ : ByteArray) ++ S hs[j] = S (47 :: hs[j]) := by
      rw [show (⟨#[47]⟩ : ByteArray) = S [47] from rfl, S_append]; rfl
    rw [hcat]
    refine create_ok (d := []) g hr hr6 hr0 h2 ⟨rfl, fun _ => rfl, fun p h => by cases h⟩ (by decide) fun tag3 σ3 st3 h3 => ?_
    rw [L_S] at h3
    rw [Pa.inc j (by omega)]
    refine ih (j + 1) tag3 σ3 (by omega) (st2.trans st3) ?_
    have e : startE (hs.take (j + 1)) = (create (startE (hs.take j)) (47 :: hs[j]) [] 0 false).1 := by
      unfold startE
      rw [List.take_add_one, List.getElem?_eq_getElem hjl, List.foldl_append]; rfl
    rw [e]; exact h3

/-- ops as they came in -/
def OpsR (ro : AH) (s : Sl) (ops : List MOp) : Prop := s.len = ops.length ∧ ∀ j o, ops[j]? = some o → ∃ q ds, s.a = some q ∧ (∀ σ, SL.cellsAt ro σ (q.add (j * 6)) 0 (opV o ds)) ∧ SL.Read ro (fun _ => none) ds (o.data.map vU) ∧ o.data.length ≤ 140737488351232
theorem OpsR.data {s : Sl} {ops : List MOp} (h : OpsR ro s ops) : ∀ o ∈ ops, o.data.length < 4611686018427387904 := fun o ho => by
  obtain ⟨j, hj, rfl⟩ := List.getElem_of_mem ho
  obtain ⟨_, _, _, _, _, h5⟩ := h.2 j _ (List.getElem?_eq_getElem hj)
  omega
/-- ops in memory, to be read only -/
def OpsM (ro σ : AH) (s : Sl) (ops : List MOp) : Prop := s.len = ops.length ∧ ∀ j o, ops[j]? = some o → ∃ q ds, s.a = some q ∧ SL.cellsAt ro σ (q.add (j * 6)) 0 (opV o ds) ∧ SL.Read ro (fun _ => none) ds (o.data.map vU) ∧ o.data.length ≤ 140737488351232
theorem OpsR.m {s : Sl} {ops : List MOp} (h : OpsR ro s ops) (σ : AH) : OpsM ro σ s ops := ⟨h.1, fun j o ho => by
  obtain ⟨q, ds, h1, h2, h3, h4⟩ := h.2 j o ho
  exact ⟨q, ds, h1, h2 σ, h3, h4⟩⟩
set_option maxRecDepth 100000 in
theorem copied_in {a0 : Sl} {ops : List MOp} {Q : Sl → AH → Prop} (hO : ∀ tag' σ', StepS [0, 24, 28] ro tag σ tag' σ' → OpsM ro σ' a0 ops) (hl : ops.length ≤ 2199023255488) (hQ : ∀ s tag' σ', StepS [0, 24, 28] ro tag σ tag' σ' → OpsAt tag' σ' 24 s ops → Q s σ') : c_law08_copied B ro a0 σ Q := by
  refine law08_copied_ok fun hsep => ?_
  unfold f_law08_copied
  have hln := (hO tag σ (StepS.refl hsep)).1
  suffices ∀ m j s tag2 σ2, j + m = ops.length → StepS [0, 24, 28] ro tag σ tag2 σ2 → OpsAt tag2 σ2 24 s (ops.take j) → lfpD (l3_law08_copied B ro a0 Q) (s, (j : Int)) σ2 from
    this _ 0 ⟨none, 0, 0⟩ tag σ (Nat.zero_add _) (StepS.refl hsep) ⟨[], rfl, RowW.nil _ _ _, fun i o d h => by cases h⟩
  intro m
  induction m with
  | zero =>
    intro j s tag2 σ2 hj st2 h2
    refine lfpD.intro ?_
    unfold l3_law08_copied
    simp only
    rw [if_neg (by omega)]
    unfold j1_law08_copied
    rw [List.take_of_length_le (by omega)] at h2
    exact hQ s tag2 σ2 st2 h2
  | succ m ih =>
    intro j s tag2 σ2 hj st2 h2
    have hjl : j < ops.length := by omega
    obtain ⟨q, ds, hq, hc, hrd, hdl⟩ := (hO tag2 σ2 st2).2 j ops[j] (List.getElem?_eq_getElem hjl)
    refine lfpD.intro ?_
    unfold l3_law08_copied
    simp only
    rw [if_pos (by omega)]
    refine ⟨q, hq, by omega, by omega, ops[j].kind, S ops[j].path, ds, ops[j].ver, ops[j].eph, ops[j].seq, by rw [Int.toNat_natCast]; exact hc, ?_⟩
    refine nw_st (tag := tag2) 28 st2.sep rfl (by simp [storable, Sl.v]) fun x tag3 σ3 st3 r3 => ?_
    obtain ⟨p3, hp3, hg3⟩ := r3.ptr (st3 []).sep (by simp)
    cases hp3
    refine ⟨ds, hg3 2 _ rfl, ?_⟩
    refine copy_ok (tag := tag3) (hrd.keep) (st3 []).sep (by simp; omega) (by simp [storable]) fun s' tag4 σ4 st4 r4 => ?_
    refine (r3.keep (st4 []) (by simp)).st (i := 2) (st4 []).sep rfl (by simp) rfl fun σ5 st5 r5 => ?_
    refine ⟨ops[j].kind, S ops[j].path, s', ops[j].ver, ops[j].eph, ops[j].seq, Row.cellsAt r5 st5.sep, ?_⟩
    refine nw_cells (tag := tag4) 0 st5.sep fun y tag6 σ6 st6 r6 => ?_
    have st26 : StepS [0, 24, 28] ro tag2 σ2 tag6 σ6 := ((st3 []).s (by simp)).trans (((st4 []).s (by simp)).trans ((st5.s (by simp)).trans ((st6 []).s (by simp))))
    have k26 : StepS [28] ro tag2 σ2 tag6 σ6 := ((st3 []).s (by simp)).trans (((st4 []).s (by simp)).trans ((st5.s (by simp)).trans ((st6 []).s (by simp))))
    obtain ⟨dd, d1, d2, d3⟩ := h2.keepS k26 (by decide) (by decide)
    have hlz : (List.zipWith opV (ops.take j) dd).length = j := by rw [List.length_zipWith, d1, Nat.min_self, List.length_take]; omega
    refine awp_appendW (l2 := [opV ops[j] s']) d2 (st6 []).sep (Row.readW1 r6 (st6 []).sep rfl (by decide)) (t := 70) (by kernel_rfl) ty82 rfl (by simp [opV, storable, Sl.v]) (by rw [hlz]; simp; omega) (by decide) fun sn tag7 σ7 st7 r7 => ?_
    have st7' := st7 [24] (.inr (by simp))
    refine ⟨sn, rfl, ?_⟩
    rw [Pa.inc j (by omega)]
    refine ih (j + 1) sn tag7 σ7 (by omega) (st2.trans (st26.trans (st7'.s (by simp)))) ?_
    have etk : ops.take (j + 1) = ops.take j ++ [ops[j]] := by rw [List.take_add_one, List.getElem?_eq_getElem hjl]; rfl
    rw [etk]
    refine ⟨dd ++ [s'], by rw [List.length_append, List.length_append, d1]; rfl, ?_, fun i o d ho hd => ?_⟩
    · rw [List.zipWith_append d1.symm]; exact r7
    · rcases Nat.lt_or_ge i (ops.take j).length with h | h
      · rw [List.getElem?_append_left h] at ho
        rw [List.getElem?_append_left (by omega)] at hd
        exact (d3 i o d ho hd).keep st7' (by simp)
      · rw [List.getElem?_append_right h] at ho
        rw [List.getElem?_append_right (by omega), d1] at hd
        cases hz : i - (ops.take j).length with
        | zero =>
          rw [hz] at ho hd
          cases ho; cases hd
          exact ((r4.keep st5 (by simp)).keep (st6 []) (by simp)).keep st7' (by simp)
        | succ k => rw [hz] at ho; cases ho

theorem copied_ok {a0 : Sl} {ops : List MOp} {Q : Sl → AH → Prop} (hO : OpsR ro a0 ops) (hl : ops.length ≤ 2199023255488) (hQ : ∀ s tag' σ', StepS [0, 24, 28] ro tag σ tag' σ' → OpsAt tag' σ' 24 s ops → Q s σ') : c_law08_copied B ro a0 σ Q :=
  copied_in (fun _ σ' _ => hO.m σ') hl hQ

def awakeSt : St := [([47], ⟨0, 1, 0, 1, []⟩), ([47, 97], ⟨0, 0, 0, 0, []⟩)]
set_option maxRecDepth 100000 in
theorem awake_start : startE [[97]] = awakeSt := by rfl
theorem awake_srt : srt awakeSt = awakeSt := by
  refine (srt_of ?_ (List.Perm.refl _)).symm
  unfold Srt awakeSt
  simp [List.pairwise_cons]
def awakeOp : MOp := ⟨1, [47, 97, 47, 120], [], 0, false, false⟩
theorem awake_apply : (applyE (startE [[97]]) [97] 5 9 99 [awakeOp]).err = 0 ∧ (applyE (startE [[97]]) [97] 5 9 99 [awakeOp]).bad = -1 ∧ (applyE (startE [[97]]) [97] 5 9 99 [awakeOp]).res = [([47, 97, 47, 120], 0)] ∧ (applyE (startE [[97]]) [97] 5 9 99 [awakeOp]).st.length = 3 := by
  rw [awake_start]
  unfold applyE
  rw [if_neg (by decide), if_neg (by decide), awake_srt]
  refine ⟨by decide, by decide, by decide, by decide⟩
set_option maxRecDepth 100000 in
theorem awake8_ok {Q : Bool → AH → Prop} (g : Glob ro) (hQ : ∀ σ, SL.Sep ro σ → Q true σ) : c_law08_awake B ro σ Q := by
  refine law08_awake_ok fun hs => ?_
  unfold f_law08_awake
  refine nw_cells (tag := fun _ => 0) 22 hs fun x4 tag1 σ1 st1 r1 => ?_
  have e97 : (⟨#[97]⟩ : ByteArray) = S [97] := rfl
  refine start_ok (tag := tag1) (hs := [[97]]) 10 g (by decide) (by decide) (by decide) (fun tag2 σ2 st2 => (r1.keepC st2 (by decide)).read st2.sep) (by decide) (by simp) fun T tag2 σ2 st2 h2 hi => ?_
  rw [if_neg (by simp)]
  refine nw_cells (tag := tag2) 24 st2.sep fun x12 tag3 σ3 st3 r3 => ?_
  have hops : OpsAt tag3 σ3 24 ⟨some ⟨x12, 0, none⟩, 1, 1⟩ [awakeOp] := by
    refine ⟨[⟨none, 0, 0⟩], rfl, ?_, fun i o d ho hd => ?_⟩
    · rcases r3 with ⟨h, _⟩ | ⟨b, cs, ha, htg, hbk, hln, hcp, hle, hg⟩
      · cases h
      · cases ha
        refine .inr ⟨x12, cs, rfl, htg, hbk, rfl, by simpa using hcp.symm, by simp, by simp [opV], fun i v hv => ?_⟩
        have hv' : [vI 1, Pa.vS [47, 97, 47, 120], Sl.v ⟨none, 0, 0⟩, vI 0, Value.bool false, Value.bool false][i]? = some v := by simpa [opV, awakeOp] using hv
        have hi6 : i < 6 := by
          rcases Nat.lt_or_ge i 6 with h | h
          · exact h
          · rw [List.getElem?_eq_none (by simpa using h)] at hv'; cases hv'
        rw [hg i (by simpa using hi6)]; exact hv'
    · rcases i with _ | i
      · cases ho; cases hd; exact Row.nil _ _
      · cases ho
  have hap := awake_apply
  rw [e97]
  refine apply_ok (b := 1) (q := 24) g (by decide) (by decide) (by decide) (by decide) (by decide) (by decide) (h2.keep (st3 []) (by simp)) hi (by decide) hops (fun o ho => by rw [List.mem_singleton.1 ho]; decide) (by decide) fun rs es tag4 σ4 st4 h4 r4 _ => ?_
  obtain ⟨a1, a2, a3, a4⟩ := hap
  rw [a3] at r4
  refine nw_st (tag := tag4) 22 st4.sep rfl (by simp [storable, Sl.v]) fun x2 tag5 σ5 st5 r5 => ?_
  have r45 := r4.keep (st5 []) (by simp)
  obtain ⟨p5, hp5, hg5⟩ := r5.ptr (st5 []).sep (by simp)
  cases hp5
  rw [a1, if_pos rfl]
  refine ⟨_, hg5 2 _ rfl, ?_⟩
  rw [a2, show decide ((-1 : Int) = -1) = true from rfl]
  unfold j7_law08_awake
  rw [if_pos rfl]
  refine ⟨rs, hg5 0 _ rfl, ?_⟩
  rw [show decide ((rs.len : Int) = 1) = true from by rw [r45.len]; rfl]
  unfold j9_law08_awake
  rw [if_pos rfl]
  obtain ⟨b, hb, _, hget⟩ := r45.get (st5 []).sep (j := 0) rfl
  refine ⟨rs, hg5 0 _ rfl, _, hb, by decide, by rw [r45.len]; decide, S [47, 97, 47, 120], hget 0 _ rfl, ?_⟩
  rw [show decide (S [47, 97, 47, 120] = (⟨#[47, 97, 47, 120]⟩ : ByteArray)) = true from by decide]
  unfold j11_law08_awake
  rw [if_pos rfl]
  obtain ⟨M, bs, hA⟩ := h4.keep (st5 []) (by simp)
  refine size_ok hA ?_
  unfold j13_law08_awake
  rw [a4]
  exact hQ σ5 (st5 []).sep
end Go.Proofs.YthfpmipeejjogaaGreatDoor.Zt

/- Usage stays within its quota; two blocks lent; scripts while blocks are lent. -/
namespace Go.Proofs.YthfpmipeejjogaaGreatDoor.SL
open Go
variable {ro σ σ' : AH} {tag tag' : Nat → Nat}
theorem join_assoc (a b c : AH) : join a (join b c) = join (join a b) c := by
  funext x; unfold join; cases a x <;> rfl
theorem lent_two (a b : Nat) {K : AH → AH → Prop} (h : K (join (one σ a) (one (del σ a) b)) (del (del σ a) b)) : lent σ K := by
  refine ⟨_, _, fun c o hc => ?_, ?_, h⟩
  · unfold join one del at hc; unfold del
    by_cases e : c = a
    · simp [e]
    · by_cases e' : c = b
      · simp [e']
      · simp [e, e'] at hc
  · funext c; unfold join one del
    by_cases e : c = a
    · subst e
      cases h : σ c <;> simp
    · by_cases e' : c = b
      · subst e'; cases h : σ c <;> simp [e]
      · simp [e, e']
theorem acell_ro {ψ τ : AH} {a : Addr} {v : Value} (h : acell ro (fun _ => none) a = some v) : acell (join ro ψ) τ a = some v := by
  unfold acell rd at h ⊢
  cases e : ro a.block with
  | none => rw [e] at h; simp [cellOf] at h
  | some o => rw [e] at h; rw [join_left e]; exact h
theorem cellsAt_ro {ψ τ : AH} {a : Addr} : ∀ {l : List Value} {i : Nat}, cellsAt ro (fun _ => none) a i l → cellsAt (join ro ψ) τ a i l
  | [], _, _ => trivial
  | _ :: _, _, h => ⟨acell_ro h.1, cellsAt_ro h.2⟩
theorem Read.ro' {ψ : AH} {s : Sl} {l : List Value} (h : Read ro (fun _ => none) s l) : Read (join ro ψ) (fun _ => none) s l :=
  ⟨h.1, h.2.1, fun p hp i v hv => acell_ro (h.2.2 p hp i v hv)⟩
theorem StepS.back {C : List Nat} {b : Nat} {τ : AH} (h : StepS C (join ro (one σ b)) tag (del σ b) tag' τ) (hs : Sep ro σ) (hd : Disj (one σ b) τ) (hb : ∃ o, σ b = some o) : StepS C ro tag σ (setTag tag' b (tag b)) (join (one σ b) τ) := by
  obtain ⟨R, h1, h2⟩ := h
  exact ⟨R, h1, h2.back hs hd hb⟩
theorem del_some {a b : Nat} {o : Obj} (h : σ b = some o) (hne : b ≠ a) : del σ a b = some o := by unfold del; rw [if_neg hne]; exact h
theorem disj_l {a b c : AH} (h : Disj (join a b) c) : Disj a c := fun x o hx => h x o (by unfold join; rw [hx])
theorem disj_r {a b : Nat} {τ : AH} (h : Disj (join (one σ a) (one (del σ a) b)) τ) : Disj (one (del σ a) b) τ := fun x o hx => h x o (by
  unfold join one del at *
  by_cases e : x = a
  · subst e
    split at hx
    · simp at hx
    · cases hx
  · simp only [e, if_false]; simp only [e, if_false] at hx; exact hx)
theorem disj_j {a b : Nat} {τ : AH} (h : Disj (join (one σ a) (one (del σ a) b)) τ) (hne : a ≠ b) : Disj (one σ a) (join (one (del σ a) b) τ) := fun x o hx => by
  have h1 := disj_l h x o hx
  unfold join one del
  unfold one at hx
  split at hx
  · rename_i e; subst e; simp only [hne, if_false]; exact h1
  · cases hx
end Go.Proofs.YthfpmipeejjogaaGreatDoor.SL
namespace Go.Proofs.YthfpmipeejjogaaGreatDoor.Zt
open Go Go.Proofs.YthfpmipeejjogaaGreatDoor.SL Go.Proofs.YthfpmipeejjogaaGreatDoor.G Go.Proofs.YthfpmipeejjogaaGreatDoor.Pa
set_option linter.unusedSimpArgs false
set_option linter.unusedVariables false
variable {B : World} {ro σ σ' : AH} {tag tag' : Nat → Nat}

/-! usage -/
/-! scripts -/
theorem OpsR.ro' {ψ : AH} {s : Sl} {ops : List MOp} (h : OpsR ro s ops) : OpsR (join ro ψ) s ops := by
  refine ⟨h.1, fun j o ho => ?_⟩
  obtain ⟨q, ds, h1, h2, h3, h4⟩ := h.2 j o ho
  exact ⟨q, ds, h1, fun σ => cellsAt_ro (h2 _), h3.ro', h4⟩
structure Txn where
  home : Str
  owner : Int
  qn : Int
  qb : Int
  ops : List MOp
  sweep : Bool
/-- a transaction as it came in, its values -/
def txV (t : Txn) (s : Sl) : List Value := [.string (S t.home), .int .i64 t.owner, .int .i64 t.qn, .int .i64 t.qb, Sl.v s, .bool t.sweep]
def TxsR (ro : AH) (s : Sl) (txs : List Txn) : Prop := s.len = txs.length ∧ ∀ j t, txs[j]? = some t → ∃ q os, s.a = some q ∧ (∀ σ, SL.cellsAt ro σ (q.add (j * 6)) 0 (txV t os)) ∧ t.home.length ≤ reachBytes ∧ OpsR ro os t.ops ∧ t.ops.length ≤ 2199023255488
/-- a tree, with one block of another role lent -/
theorem TreeIs.del' {r T b x : Nat} {st : St} (h : TreeIs tag σ r T st) (hb : tag b = x) (hx : x < 64) (hr : r < 64) (hxr : x ≠ r) (hx6 : x ≠ 6) : TreeIs tag (SL.del σ b) r T st := by
  obtain ⟨M, bs, h⟩ := h
  refine ⟨M, bs, h.keys, h.len, h.nd, h.cell.del hb (Ne.symm hxr), h.map.del (by rw [hb]; omega), fun i c p hc hp => ?_⟩
  obtain ⟨s, h1, h2⟩ := h.nodes i c p hc hp
  exact ⟨s, h1.del hb (by omega), h2.del hb (by omega)⟩
end Go.Proofs.YthfpmipeejjogaaGreatDoor.Zt

/- results compared -/
namespace Go.Proofs.YthfpmipeejjogaaGreatDoor.Zt
open Go Go.Proofs.YthfpmipeejjogaaGreatDoor.SL Go.Proofs.YthfpmipeejjogaaGreatDoor.G Go.Proofs.YthfpmipeejjogaaGreatDoor.Pa
set_option linter.unusedSimpArgs false
set_option linter.unusedVariables false
set_option maxRecDepth 100000
variable {B : World} {ro σ σ' : AH} {tag tag' : Nat → Nat}
theorem g84 : Tryz.prog.eqGuardType Tryz.prog.depth 84 = false := by kernel_rfl
theorem st84 : Tryz.prog.stoodInHeld 84 = false := by kernel_rfl
theorem u84 : ∃ n1 n2 : Field, Tryz.prog.underlying 84 = some (.struct #[n1, n2]) ∧ n1.type = 9 ∧ n1.offset = 0 ∧ n2.type = 3 ∧ n2.offset = 1 ∧ n1.name ≠ "_" ∧ n2.name ≠ "_" := ⟨_, _, Tryz.underlying84, rfl, rfl, rfl, rfl, by decide, by decide⟩
theorem eqstr {a : ByteArray} {τ : AH} : aread Tryz.prog ro (Op.equalIn (9998 + 1) 9 (.string a) (.string a)) τ = some true := by
  unfold Op.equalIn
  show aread Tryz.prog ro (Sem.bind (underlying 9) _) _ = _
  rw [underlying_bind _ _ (by kernel_rfl : Tryz.prog.underlying 9 = some .string)]
  show some (a == a) = some true
  rw [show (a == a) = true from by cases a with | _ d => exact (beq_self_eq_true d)]
theorem eqint {a : Int} {τ : AH} : aread Tryz.prog ro (Op.equalIn (9998 + 1) 3 (.int .i64 a) (.int .i64 a)) τ = some true := by
  unfold Op.equalIn
  show aread Tryz.prog ro (Sem.bind (underlying 3) _) _ = _
  rw [underlying_bind _ _ (by kernel_rfl : Tryz.prog.underlying 3 = some (.int .i64))]
  show some (a == a) = some true
  simp
theorem aread_bind {α β : Type} {P : Program} (s : Sem α) (f : α → Sem β) {τ : AH} {a : α} (h : aread P ro s τ = some a) : aread P ro (Sem.bind s f) τ = aread P ro (f a) τ := by
  induction s with
  | pure x => cases h; rfl
  | load m x k ih =>
    simp only [aread] at h
    simp only [Sem.bind, aread]
    split at h
    · exact ih _ h
    · cases h
  | program k ih => exact ih _ h
  | mark m k ih => exact ih h
  | _ => cases h
theorem eq84 {a : ByteArray} {n : Int} {τ : AH} : aread Tryz.prog ro (Op.equalIn (9999 + 1) 84 (.agg #[.string a, .int .i64 n]) (.agg #[.string a, .int .i64 n])) τ = some true := by
  obtain ⟨n1, n2, hu, h1, h2, h3, h4, h5, h6⟩ := u84
  unfold Op.equalIn
  show aread Tryz.prog ro (Sem.bind (underlying 84) _) _ = _
  rw [underlying_bind _ _ hu]
  show aread Tryz.prog ro (if Tryz.prog.stoodInHeld 84 = true then _ else _) τ = _
  rw [st84, if_neg (by simp)]
  show aread Tryz.prog ro (Sem.bind (forIn #[n1, n2] _ _) _) τ = _
  have p0 : ∀ {β : Type} (f : Value → Sem β), aread Tryz.prog ro (part 9 #[Value.string a, Value.int IntKind.i64 n] 0 >>= f) τ = aread Tryz.prog ro (f (.string a)) τ := fun f => by
    refine aread_bind _ _ ?_
    unfold part
    show aread Tryz.prog ro (Sem.bind (isAgg 9) _) τ = _
    rw [aread_isAgg (by kernel_rfl : Tryz.prog.underlying 9 = some .string)]
    rfl
  have p1 : ∀ {β : Type} (f : Value → Sem β), aread Tryz.prog ro (part 3 #[Value.string a, Value.int IntKind.i64 n] 1 >>= f) τ = aread Tryz.prog ro (f (.int .i64 n)) τ := fun f => by
    refine aread_bind _ _ ?_
    unfold part
    show aread Tryz.prog ro (Sem.bind (isAgg 3) _) τ = _
    rw [aread_isAgg (by kernel_rfl : Tryz.prog.underlying 3 = some (.int .i64))]
    rfl
  have q0 : ∀ {β : Type} (f : Bool → Sem β), aread Tryz.prog ro (Op.equalIn 9999 9 (.string a) (.string a) >>= f) τ = aread Tryz.prog ro (f true) τ := fun f => aread_bind _ _ eqstr
  have q1 : ∀ {β : Type} (f : Bool → Sem β), aread Tryz.prog ro (Op.equalIn 9999 3 (.int .i64 n) (.int .i64 n) >>= f) τ = aread Tryz.prog ro (f true) τ := fun f => aread_bind _ _ eqint
  refine (aread_bind _ _ (a := ((none, ()) : Option Bool × Unit)) ?_).trans rfl
  rw [← Array.forIn_toList]
  rw [List.forIn_cons]
  refine (aread_bind _ _ (a := .yield ((none, ()) : Option Bool × Unit)) ?_).trans ?_
  · rw [if_pos h5, h1, h2, p0, p0, q0]; rfl
  · show aread Tryz.prog ro (forIn [n2] _ _) τ = _
    rw [List.forIn_cons]
    refine (aread_bind _ _ (a := .yield ((none, ()) : Option Bool × Unit)) ?_).trans ?_
    · rw [if_pos h6, h3, h4, p1, p1, q1]; rfl
    · rfl
theorem ne84 {a : ByteArray} {n : Int} {x y : Operand} {K : Value → AH → Prop} (h : K (.bool false) σ) : awp Tryz.prog ro (do eqGuard .neq 84 x y (.agg #[.string a, .int .i64 n]) (.agg #[.string a, .int .i64 n]); Go.binOp .neq 84 (.agg #[.string a, .int .i64 n]) (.agg #[.string a, .int .i64 n])) K σ := by
  refine awp_at_aread _ ?_ h
  refine (aread_bind _ _ (a := ()) ?_).trans ?_
  · show aread Tryz.prog ro (if (!(Tryz.prog.eqGuardType Tryz.prog.depth 84)) = true then _ else _) σ = _
    rw [g84, if_pos (by simp)]
    rfl
  · show aread Tryz.prog ro (Sem.bind (Op.equal 84 _ _) fun b => Sem.pure (Value.bool !b)) σ = _
    rw [equal_unfold, aread_bind _ _ eq84]; rfl
end Go.Proofs.YthfpmipeejjogaaGreatDoor.Zt

/- Several changes are as one by one; a transaction read from a block that is lent. -/
namespace Go.Proofs.YthfpmipeejjogaaGreatDoor.Zt
open Go Go.Proofs.YthfpmipeejjogaaGreatDoor.SL Go.Proofs.YthfpmipeejjogaaGreatDoor.G Go.Proofs.YthfpmipeejjogaaGreatDoor.Pa
set_option linter.unusedSimpArgs false
set_option linter.unusedVariables false
variable {B : World} {ro σ σ' : AH} {tag tag' : Nat → Nat}

/-! the same on trees that are the same but for their order -/
theorem core_perm {a b : St} (h : a.Perm b) (hk : (a.map (·.1)).Nodup) (owner : Int) (o : MOp) : (core owner a o).1.Perm (core owner b o).1 ∧ (core owner a o).2 = (core owner b o).2 := by
  unfold core
  split
  · obtain ⟨h1, h2⟩ := create_perm h hk o.path o.data (if o.eph then owner else 0) o.seq
    exact ⟨h1, by simp only; rw [h2]⟩
  · split
    · obtain ⟨h1, h2⟩ := remove_perm h hk o.path o.ver
      exact ⟨h1, by simp only; rw [h2]⟩
    · split
      · obtain ⟨h1, h2⟩ := setD_perm h hk o.path o.data o.ver
        exact ⟨h1, by simp only; rw [h2]⟩
      · refine ⟨h, ?_⟩
        simp only
        unfold chkE
        rw [lookup_perm h hk]
theorem doE_perm {home : Str} {owner qn qb : Int} {w w' : Work} {o : MOp} (h : w.st.Perm w'.st) (hk : (w.st.map (·.1)).Nodup) : (doE home owner qn qb w o).1 = (doE home owner qn qb w' o).1 ∧ (doE home owner qn qb w o).2.st.Perm (doE home owner qn qb w' o).2.st := by
  obtain ⟨h1, h2⟩ := core_perm h hk owner o
  have ho : overE (core owner w'.st o).1 home qn qb o.kind = overE (core owner w.st o).1 home qn qb o.kind := by unfold overE; rw [usage_perm h1]
  unfold doE
  rw [← h2, ho]
  split
  · exact ⟨rfl, h⟩
  · split
    · exact ⟨rfl, h1⟩
    · split
      · exact ⟨rfl, h1⟩
      · exact ⟨rfl, h1⟩
theorem doE_res {home : Str} {owner qn qb : Int} {w w' : Work} {o : MOp} (h : w.st.Perm w'.st) (hk : (w.st.map (·.1)).Nodup) (he : (doE home owner qn qb w o).1 = 0) : ∃ p : Str × Int, (doE home owner qn qb w o).2.res = w.res ++ [p] ∧ (doE home owner qn qb w' o).2.res = w'.res ++ [p] := by
  obtain ⟨h1, h2⟩ := core_perm h hk owner o
  have ho : overE (core owner w'.st o).1 home qn qb o.kind = overE (core owner w.st o).1 home qn qb o.kind := by unfold overE; rw [usage_perm h1]
  unfold doE at he ⊢
  rw [← h2, ho]
  split at he
  · rename_i hc; exact absurd he hc
  · rename_i hw
    rw [if_neg hw, if_neg hw]
    split at he
    · rename_i hc; exact absurd he hc
    · rename_i hc
      rw [if_neg hc, if_neg hc]
      split at he
      · cases he
      · rename_i ho'
        rw [if_neg ho', if_neg ho']
        exact ⟨_, rfl, rfl⟩
theorem applyL_res {home : Str} {owner qn qb : Int} : ∀ {os : List MOp} {i : Nat} {w w' : Work}, applyL home owner qn qb os i w = .inr w' → ∃ l, w'.res = w.res ++ l ∧ l.length = os.length := by
  intro os
  induction os with
  | nil => intro i w w' h; cases h; exact ⟨[], by simp, rfl⟩
  | cons o os ih =>
    intro i w w' h
    unfold applyL at h
    split at h
    · cases h
    · rename_i hc
      simp only [Classical.not_not] at hc
      obtain ⟨l, h1, h2⟩ := ih h
      have : ∃ p : Str × Int, (doE home owner qn qb w o).2.res = w.res ++ [p] := by
        unfold doE at hc ⊢
        split at hc
        · rename_i hc'; exact absurd hc hc'
        · rename_i hw
          rw [if_neg hw]
          split at hc
          · rename_i hc'; exact absurd hc hc'
          · rename_i hc2
            rw [if_neg hc2]
            split at hc
            · cases hc
            · rename_i ho'; rw [if_neg ho']; exact ⟨_, rfl⟩
      obtain ⟨p, hp⟩ := this
      exact ⟨p :: l, by rw [h1, hp, List.append_assoc]; rfl, by simp [h2]⟩
/-- one change alone, on the tree as it stands, does what it does among the others -/
theorem apply_one {home : Str} {owner qn qb : Int} {a : St} {w : Work} {o : MOp} (hp : a.Perm w.st) (hk : (w.st.map (·.1)).Nodup) (ho : ¬ (owner < 1 ∨ 4611686018427387903 < owner)) (he : (doE home owner qn qb w o).1 = 0) :
    ∃ p : Str × Int, (doE home owner qn qb w o).2.res = w.res ++ [p] ∧ (applyE a home owner qn qb [o]).err = 0 ∧ (applyE a home owner qn qb [o]).res = [p] ∧ (applyE a home owner qn qb [o]).st.Perm (doE home owner qn qb w o).2.st := by
  have hp' : w.st.Perm (Work.mk (srt a) [] []).st := hp.symm.trans (srt_perm a).symm
  obtain ⟨h1, h2⟩ := doE_perm (home := home) (owner := owner) (qn := qn) (qb := qb) (o := o) hp' hk
  obtain ⟨p, h3, h4⟩ := doE_res (home := home) (owner := owner) (qn := qn) (qb := qb) (o := o) hp' hk he
  refine ⟨p, h3, ?_⟩
  unfold applyE
  rw [if_neg (by simp), if_neg ho]
  unfold applyL
  rw [if_neg (by rw [← h1]; simpa using he)]
  unfold applyL
  exact ⟨rfl, h4, h2.symm⟩
theorem apply_bad {st : St} {home : Str} {owner qn qb : Int} {ops : List MOp} (h : (applyE st home owner qn qb ops).err ≠ 0) : (applyE st home owner qn qb ops).st = st ∧ (applyE st home owner qn qb ops).res = [] ∧ (applyE st home owner qn qb ops).eff = [] := by
  unfold applyE at h ⊢
  split
  · exact ⟨rfl, rfl, rfl⟩
  · split
    · exact ⟨rfl, rfl, rfl⟩
    · rename_i c1 c2
      rw [if_neg c1, if_neg c2] at h
      cases e : applyL home owner qn qb ops 0 ⟨srt st, [], []⟩ with
      | inl x => exact ⟨rfl, rfl, rfl⟩
      | inr w => rw [e] at h; exact absurd rfl h
/-- an error of the walk is never 0 -/
theorem applyL_bad {home : Str} {owner qn qb : Int} : ∀ {os : List MOp} {i : Nat} {w : Work} {x : Nat × Int}, applyL home owner qn qb os i w = .inl x → x.2 ≠ 0 := by
  intro os
  induction os with
  | nil => intro i w x h; cases h
  | cons o os ih =>
    intro i w x h
    unfold applyL at h
    split at h
    · rename_i hc; cases h; exact hc
    · exact ih h
theorem apply_good {st : St} {home : Str} {owner qn qb : Int} {ops : List MOp} (h : (applyE st home owner qn qb ops).err = 0) :
    ¬ (owner < 1 ∨ 4611686018427387903 < owner) ∧ ops.length ≤ 16 ∧ ∃ w, applyL home owner qn qb ops 0 ⟨srt st, [], []⟩ = .inr w ∧ applyE st home owner qn qb ops = ⟨w.st, w.res, w.eff, -1, 0⟩ := by
  unfold applyE at h ⊢
  split at h
  · cases h
  · rename_i c1
    split at h
    · cases h
    · rename_i c2
      rw [if_neg c1, if_neg c2]
      refine ⟨c2, by omega, ?_⟩
      cases e : applyL home owner qn qb ops 0 ⟨srt st, [], []⟩ with
      | inl x => rw [e] at h; exact absurd h (applyL_bad e)
      | inr w => exact ⟨w, rfl, rfl⟩

/-! a block lent -/
theorem RowW.back {r : Nat} {e : TypeId} {w : Nat} {s : Sl} {l : List (List Value)} {b r' : Nat} {τ : AH} (h : RowW tag' τ r e w s l) (hd : Disj (SL.one σ b) τ) (hb : ∃ o, σ b = some o) : RowW (setTag tag' b r') (join (SL.one σ b) τ) r e w s l := by
  rcases h with h | ⟨c, cs, ha, ht, hs, hx⟩
  · exact .inl h
  · have hcb : c ≠ b := fun e => by
      obtain ⟨o, ho⟩ := hb
      have := hd b o (by unfold SL.one; rw [if_pos rfl]; exact ho)
      rw [← e, hs] at this; cases this
    exact .inr ⟨c, cs, ha, by unfold setTag; rw [if_neg hcb]; exact ht, by unfold join SL.one; rw [if_neg hcb]; exact hs, hx⟩
theorem region_back {X : Nat} {C : List Nat} {tag1 : Nat → Nat} {σ1 : AH} (hs : SL.Sep ro σ) (hX : ∃ o, σ X = some o) (hd : Disj (SL.one σ X) σ1) (st : StepS C (join ro (SL.one σ X)) tag (SL.del σ X) tag1 σ1) :
    ∃ tag2, StepS C ro tag σ tag2 (join (SL.one σ X) σ1) ∧ (∀ r T st, TreeIs tag1 σ1 r T st → TreeIs tag2 (join (SL.one σ X) σ1) r T st) ∧ (∀ r e w s l, RowW tag1 σ1 r e w s l → RowW tag2 (join (SL.one σ X) σ1) r e w s l) ∧ (∀ r e s l, Row tag1 σ1 r e s l → Row tag2 (join (SL.one σ X) σ1) r e s l) :=
  ⟨_, StepS.back st hs hd hX, fun r T st h => h.back hd hX, fun r e w s l h => RowW.back h hd hX, fun r e s l h => h.back hd hX⟩
set_option maxRecDepth 100000 in
/-- a transaction applied, itself in a block of role 29 that is lent -/
theorem txn_in {r T b X : Nat} {st : St} {t : Txn} {os : Sl} {K : Sl → Sl → Int → Int → AH → AH → Prop} (g : Glob ro) (hs : SL.Sep ro σ) (hr : r < 64) (hrD : r ∉ DA) (hr6 : r ≠ 6) (hr63 : r ≠ 63) (hrX : r ∉ [0, 24, 28, 29]) (hT : TreeIs tag σ r T st) (hi : InvB b st) (hb : b ≤ 1073741824)
    (hX : Row tag σ 29 72 ⟨some ⟨X, 0, none⟩, 6, 6⟩ (txV t os)) (hO : OpsR ro os t.ops) (hol : t.ops.length ≤ 2199023255488) (hhl : t.home.length ≤ 4611686018427387903)
    (hK : ∀ rs es tag1 σ1, StepS (0 :: 24 :: 28 :: r :: DA) (join ro (SL.one σ X)) tag (SL.del σ X) tag1 σ1 → TreeIs tag1 σ1 r T (applyE st t.home t.owner t.qn t.qb t.ops).st → RowW tag1 σ1 14 84 2 rs ((applyE st t.home t.owner t.qn t.qb t.ops).res.map resV) → RowW tag1 σ1 15 108 2 es ((applyE st t.home t.owner t.qn t.qb t.ops).eff.map effV) →
      K rs es (applyE st t.home t.owner t.qn t.qb t.ops).bad (applyE st t.home t.owner t.qn t.qb t.ops).err (SL.one σ X) σ1) :
    lent σ fun ψ σ => ∃ x1 : ByteArray, acell (join ro ψ) (fun _ => none) ⟨X, 0, none⟩ = some (.string x1) ∧
      ∃ x2 : Int, acell (join ro ψ) (fun _ => none) ((⟨X, 0, none⟩ : Addr).add 1) = some (.int .i64 x2) ∧
      ∃ (x3 x4 : Int), cellsAt (join ro ψ) (fun _ => none) ((⟨X, 0, none⟩ : Addr).add 2) 0 [.int .i64 x3, .int .i64 x4] ∧
      ∃ x5 : Sl, acell (join ro ψ) σ ((⟨X, 0, none⟩ : Addr).add 4) = some (Sl.v x5) ∧
      c_law08_copied B (join ro ψ) x5 σ fun x6 σ =>
      c_multi_Apply B (join ro ψ) (some ⟨T, 0, none⟩) x1 x2 x3 x4 x6 σ fun rs es bad err σ => K rs es bad err ψ σ := by
  refine lent_block X ?_
  obtain ⟨tX, o1, hX'⟩ := hX.tagOf
  have cX : ∀ τ i v, (txV t os)[i]? = some v → acell (join ro (SL.one σ X)) τ ((⟨X, 0, none⟩ : Addr).add i) = some v := fun τ i v hv => by
    have := hX.lend hs (τ := τ) hv
    rwa [Nat.mul_one] at this
  simp only [List.mem_cons, List.not_mem_nil, or_false, not_or] at hrX
  have hA := hT.del' tX (by decide) hr (by omega) (by decide) (b := X)
  refine ⟨S t.home, cX _ 0 _ rfl, t.owner, cX _ 1 _ rfl, t.qn, t.qb, cellsAt_of 0 fun i v hv => ?_, os, cX _ 4 _ rfl, ?_⟩
  · have := cX (fun _ => none) (2 + i) v (by
      rcases i with _ | _ | i
      · exact hv
      · exact hv
      · cases hv)
    rw [add_add] at this ⊢
    rw [add_add, Nat.zero_add, Nat.zero_add]
    rwa [Nat.zero_add] at this
  refine copied_ok (tag := tag) hO.ro' hol fun s9 tag9 σ9 st9 ho9 => ?_
  have h9 := hA.keepS st9 (by rw [Nat.mod_eq_of_lt hr]; simp; omega) (by decide)
  refine apply_ok (b := b) (q := 24) (glob_lent g) hr hrD hr6 hr63 (by decide) (by decide) h9 hi hb ho9 hO.data hhl fun rs es tag10 σ10 st10 h10 r14 r15 => ?_
  exact hK rs es tag10 σ10 ((st9.mono (by simp)).trans (st10.mono (fun c hc => List.mem_cons_of_mem _ (List.mem_cons_of_mem _ (List.mem_cons_of_mem _ hc))))) h10 r14 r15
end Go.Proofs.YthfpmipeejjogaaGreatDoor.Zt
