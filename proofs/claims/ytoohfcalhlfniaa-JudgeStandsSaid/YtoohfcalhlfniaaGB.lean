/- Functions as predicate transformers, and the proofs that the code does what they tell: printed by wip/tools/gen.py. -/
import Derived.Test.YtoohfcalhlfniaaGC
namespace Go.Proofs.Ytoohfcalhlfniaa.G
open Go Go.Proofs.Ytoohfcalhlfniaa.SL
set_option linter.unusedVariables false
set_option linter.unusedSimpArgs false

def j10_law23_JudgeStands (B : World) (ro : AH) (Q : Bool → AH → Prop) (x205_11 : Bool) (σ : AH) : Prop :=
 Q x205_11 σ

def j9_law23_JudgeStands (B : World) (ro : AH) (a0 : Int) (x66_3 : Sl) (Q : Bool → AH → Prop) (σ : AH) : Prop :=
 if (x66_3.len : Int) = a0 then
  c_law23_awake B ro σ fun x204_12 σ =>
  j10_law23_JudgeStands B ro Q x204_12 σ
 else
 j10_law23_JudgeStands B ro Q false σ

def l13_law23_JudgeStands (B : World) (ro : AH) (a0 : Int) (a1 : Sl) (x66_3 : Sl) (x145_6 : Nat) (Q : Bool → AH → Prop) : (Int) → AH → ((Int) → AH → Prop) → Prop := fun x183_14 σ Y13 =>
 if x183_14 < (a1.len : Int) then
  ∃ p185_15 : Addr, a1.a = some p185_15 ∧ (0 : Int) ≤ x183_14 ∧ x183_14 < (a1.len : Int) ∧
  ∃ (x186_16a : Int) (x186_16b : Int), cellsAt ro σ (p185_15.add (Int.toNat x183_14 * 2)) 0 [.int .i64 x186_16a, .int .i64 x186_16b] ∧
  nw ro σ (.cells #[.int .i64 0, .int .i64 0] 24) fun x22_17 σ =>
  stN ⟨x22_17, 0, none⟩ (fun σ =>
   ∃ (x189_18 : Int), acell ro σ ((⟨x22_17, 0, none⟩ : Addr).add (Int.toNat 0 * 1)) = some (.int .i64 x189_18) ∧
   ∃ p190_19 : Addr, (⟨some ⟨x145_6, 0, none⟩, Int.toNat a0, Int.toNat a0⟩ : Sl).a = some p190_19 ∧ (0 : Int) ≤ x189_18 ∧ x189_18 < ((⟨some ⟨x145_6, 0, none⟩, Int.toNat a0, Int.toNat a0⟩ : Sl).len : Int) ∧
   ∃ (x191_20 : Int), acell ro σ (p190_19.add (Int.toNat x189_18 * 1)) = some (.int .i64 x191_20) ∧
   ∃ (x194_21 : Int), acell ro σ ((⟨x22_17, 0, none⟩ : Addr).add (Int.toNat 1 * 1)) = some (.int .i64 x194_21) ∧
   ∃ p195_22 : Addr, (⟨some ⟨x145_6, 0, none⟩, Int.toNat a0, Int.toNat a0⟩ : Sl).a = some p195_22 ∧ (0 : Int) ≤ x194_21 ∧ x194_21 < ((⟨some ⟨x145_6, 0, none⟩, Int.toNat a0, Int.toNat a0⟩ : Sl).len : Int) ∧
   ∃ (x196_23 : Int), acell ro σ (p195_22.add (Int.toNat x194_21 * 1)) = some (.int .i64 x196_23) ∧
   if x196_23 ≤ x191_20 then
    Q false σ
   else
   Y13 (IntKind.i64.wrap (x183_14 + 1)) σ) [.int .i64 x186_16a, .int .i64 x186_16b] 0 σ
 else
 j9_law23_JudgeStands B ro a0 x66_3 Q σ

def j8_law23_JudgeStands (B : World) (ro : AH) (a0 : Int) (a1 : Sl) (x66_3 : Sl) (x145_6 : Nat) (Q : Bool → AH → Prop) (σ : AH) : Prop :=
 lfpD (l13_law23_JudgeStands B ro a0 a1 x66_3 x145_6 Q ) (0) σ

def j28_law23_JudgeStands (B : World) (ro : AH) (a0 : Int) (a1 : Sl) (x66_3 : Sl) (x145_6 : Nat) (x157_25 : Int) (x161_27 : Int) (Q : Bool → AH → Prop) (Y24 : (Int) → AH → Prop) (x175_29 : Bool) (σ : AH) : Prop :=
 if x175_29 = true then
  Q false σ
 else
 ∃ p179_30 : Addr, (⟨some ⟨x145_6, 0, none⟩, Int.toNat a0, Int.toNat a0⟩ : Sl).a = some p179_30 ∧ (0 : Int) ≤ x161_27 ∧ x161_27 < ((⟨some ⟨x145_6, 0, none⟩, Int.toNat a0, Int.toNat a0⟩ : Sl).len : Int) ∧
 stN (p179_30.add (Int.toNat x161_27 * 1)) (fun σ =>
  Y24 (IntKind.i64.wrap (x157_25 + 1)) σ) [.int .i64 x157_25] 0 σ

def l24_law23_JudgeStands (B : World) (ro : AH) (a0 : Int) (a1 : Sl) (x66_3 : Sl) (x145_6 : Nat) (Q : Bool → AH → Prop) : (Int) → AH → ((Int) → AH → Prop) → Prop := fun x157_25 σ Y24 =>
 if x157_25 < (x66_3.len : Int) then
  ∃ p160_26 : Addr, x66_3.a = some p160_26 ∧ (0 : Int) ≤ x157_25 ∧ x157_25 < (x66_3.len : Int) ∧
  ∃ (x161_27 : Int), acell ro σ (p160_26.add (Int.toNat x157_25 * 1)) = some (.int .i64 x161_27) ∧
  if (x161_27 < 0) ∨ (a0 ≤ x161_27) then
   j28_law23_JudgeStands B ro a0 a1 x66_3 x145_6 x157_25 x161_27 Q Y24 true σ
  else
  ∃ p172_31 : Addr, (⟨some ⟨x145_6, 0, none⟩, Int.toNat a0, Int.toNat a0⟩ : Sl).a = some p172_31 ∧ (0 : Int) ≤ x161_27 ∧ x161_27 < ((⟨some ⟨x145_6, 0, none⟩, Int.toNat a0, Int.toNat a0⟩ : Sl).len : Int) ∧
  ∃ (x173_32 : Int), acell ro σ (p172_31.add (Int.toNat x161_27 * 1)) = some (.int .i64 x173_32) ∧
  j28_law23_JudgeStands B ro a0 a1 x66_3 x145_6 x157_25 x161_27 Q Y24 (decide (0 ≤ x173_32)) σ
 else
 j8_law23_JudgeStands B ro a0 a1 x66_3 x145_6 Q σ

def j7_law23_JudgeStands (B : World) (ro : AH) (a0 : Int) (a1 : Sl) (x66_3 : Sl) (x145_6 : Nat) (Q : Bool → AH → Prop) (σ : AH) : Prop :=
 lfpD (l24_law23_JudgeStands B ro a0 a1 x66_3 x145_6 Q ) (0) σ

def l33_law23_JudgeStands (B : World) (ro : AH) (a0 : Int) (a1 : Sl) (x66_3 : Sl) (x145_6 : Nat) (Q : Bool → AH → Prop) : (Int) → AH → ((Int) → AH → Prop) → Prop := fun x148_34 σ Y33 =>
 if x148_34 < ((⟨some ⟨x145_6, 0, none⟩, Int.toNat a0, Int.toNat a0⟩ : Sl).len : Int) then
  ∃ p153_35 : Addr, (⟨some ⟨x145_6, 0, none⟩, Int.toNat a0, Int.toNat a0⟩ : Sl).a = some p153_35 ∧ (0 : Int) ≤ x148_34 ∧ x148_34 < ((⟨some ⟨x145_6, 0, none⟩, Int.toNat a0, Int.toNat a0⟩ : Sl).len : Int) ∧
  stN (p153_35.add (Int.toNat x148_34 * 1)) (fun σ =>
   Y33 (IntKind.i64.wrap (x148_34 + 1)) σ) [.int .i64 (-1)] 0 σ
 else
 j7_law23_JudgeStands B ro a0 a1 x66_3 x145_6 Q σ

def j5_law23_JudgeStands (B : World) (ro : AH) (a0 : Int) (a1 : Sl) (x66_3 : Sl) (Q : Bool → AH → Prop) (σ : AH) : Prop :=
 ((0 : Int) ≤ a0 ∧ a0 ≤ a0 ∧ a0 ≤ 281474976710656 ∧ 8 * a0 ≤ 281474976710656) ∧
 nw ro σ (.cells (zeros (.int .i64 0) (Int.toNat a0 * 1)) 3) fun x145_6 σ =>
 lfpD (l33_law23_JudgeStands B ro a0 a1 x66_3 x145_6 Q ) (0) σ

def j39_law23_JudgeStands (B : World) (ro : AH) (Q : Bool → AH → Prop) (σ : AH) : Prop :=
 Q false σ

def j44_law23_JudgeStands (B : World) (ro : AH) (Q : Bool → AH → Prop) (Y40 : (Int) → AH → Prop) (x142_45 : Bool) (σ : AH) : Prop :=
 Q x142_45 σ

def l40_law23_JudgeStands (B : World) (ro : AH) (a0 : Int) (x66_3 : Sl) (x72_36 : Nat) (Q : Bool → AH → Prop) : (Int) → AH → ((Int) → AH → Prop) → Prop := fun x132_41 σ Y40 =>
 if x132_41 < ((⟨some ⟨x72_36, 0, none⟩, Int.toNat a0, Int.toNat a0⟩ : Sl).len : Int) then
  ∃ p134_42 : Addr, (⟨some ⟨x72_36, 0, none⟩, Int.toNat a0, Int.toNat a0⟩ : Sl).a = some p134_42 ∧ (0 : Int) ≤ x132_41 ∧ x132_41 < ((⟨some ⟨x72_36, 0, none⟩, Int.toNat a0, Int.toNat a0⟩ : Sl).len : Int) ∧
  ∃ (x135_43 : Bool), acell ro σ (p134_42.add (Int.toNat x132_41 * 1)) = some (.bool x135_43) ∧
  if x135_43 = true then
   if (x66_3.len : Int) = 0 then
    c_law23_awake B ro σ fun x141_46 σ =>
    j44_law23_JudgeStands B ro Q Y40 x141_46 σ
   else
   j44_law23_JudgeStands B ro Q Y40 false σ
  else
  Y40 (IntKind.i64.wrap (x132_41 + 1)) σ
 else
 j39_law23_JudgeStands B ro Q σ

def j38_law23_JudgeStands (B : World) (ro : AH) (a0 : Int) (x66_3 : Sl) (x72_36 : Nat) (Q : Bool → AH → Prop) (σ : AH) : Prop :=
 lfpD (l40_law23_JudgeStands B ro a0 x66_3 x72_36 Q ) (0) σ

def j49_law23_JudgeStands (B : World) (ro : AH) (a0 : Int) (a1 : Sl) (x66_3 : Sl) (x72_36 : Nat) (x83_48 : Int) (Q : Bool → AH → Prop) (Y47 : (Int) → AH → Prop) (σ : AH) : Prop :=
 Y47 (IntKind.i64.wrap (x83_48 + 1)) σ

def j56_law23_JudgeStands (B : World) (ro : AH) (a0 : Int) (a1 : Sl) (x66_3 : Sl) (x72_36 : Nat) (x83_48 : Int) (x86_50 : Nat) (x112_53 : Int) (Q : Bool → AH → Prop) (Y47 : (Int) → AH → Prop) (Y52 : (Int) → AH → Prop) (x126_57 : Bool) (σ : AH) : Prop :=
 ∃ p127_58 : Addr, (⟨some ⟨x72_36, 0, none⟩, Int.toNat a0, Int.toNat a0⟩ : Sl).a = some p127_58 ∧ (0 : Int) ≤ x112_53 ∧ x112_53 < ((⟨some ⟨x72_36, 0, none⟩, Int.toNat a0, Int.toNat a0⟩ : Sl).len : Int) ∧
 stN (p127_58.add (Int.toNat x112_53 * 1)) (fun σ =>
  Y52 (IntKind.i64.wrap (x112_53 + 1)) σ) [.bool x126_57] 0 σ

def l52_law23_JudgeStands (B : World) (ro : AH) (a0 : Int) (a1 : Sl) (x66_3 : Sl) (x72_36 : Nat) (x83_48 : Int) (x86_50 : Nat) (Q : Bool → AH → Prop) (Y47 : (Int) → AH → Prop) : (Int) → AH → ((Int) → AH → Prop) → Prop := fun x112_53 σ Y52 =>
 if x112_53 < ((⟨some ⟨x72_36, 0, none⟩, Int.toNat a0, Int.toNat a0⟩ : Sl).len : Int) then
  ∃ p119_54 : Addr, (⟨some ⟨x72_36, 0, none⟩, Int.toNat a0, Int.toNat a0⟩ : Sl).a = some p119_54 ∧ (0 : Int) ≤ x112_53 ∧ x112_53 < ((⟨some ⟨x72_36, 0, none⟩, Int.toNat a0, Int.toNat a0⟩ : Sl).len : Int) ∧
  ∃ (x120_55 : Bool), acell ro σ (p119_54.add (Int.toNat x112_53 * 1)) = some (.bool x120_55) ∧
  if x120_55 = true then
   ∃ p124_59 : Addr, (⟨some ⟨x86_50, 0, none⟩, Int.toNat a0, Int.toNat a0⟩ : Sl).a = some p124_59 ∧ (0 : Int) ≤ x112_53 ∧ x112_53 < ((⟨some ⟨x86_50, 0, none⟩, Int.toNat a0, Int.toNat a0⟩ : Sl).len : Int) ∧
   ∃ (x125_60 : Bool), acell ro σ (p124_59.add (Int.toNat x112_53 * 1)) = some (.bool x125_60) ∧
   j56_law23_JudgeStands B ro a0 a1 x66_3 x72_36 x83_48 x86_50 x112_53 Q Y47 Y52 x125_60 σ
  else
  j56_law23_JudgeStands B ro a0 a1 x66_3 x72_36 x83_48 x86_50 x112_53 Q Y47 Y52 false σ
 else
 j49_law23_JudgeStands B ro a0 a1 x66_3 x72_36 x83_48 Q Y47 σ

def j51_law23_JudgeStands (B : World) (ro : AH) (a0 : Int) (a1 : Sl) (x66_3 : Sl) (x72_36 : Nat) (x83_48 : Int) (x86_50 : Nat) (Q : Bool → AH → Prop) (Y47 : (Int) → AH → Prop) (σ : AH) : Prop :=
 lfpD (l52_law23_JudgeStands B ro a0 a1 x66_3 x72_36 x83_48 x86_50 Q Y47 ) (0) σ

def j63_law23_JudgeStands (B : World) (ro : AH) (a0 : Int) (a1 : Sl) (x66_3 : Sl) (x72_36 : Nat) (x83_48 : Int) (x86_50 : Nat) (x89_62 : Int) (Q : Bool → AH → Prop) (Y47 : (Int) → AH → Prop) (Y61 : (Int) → AH → Prop) (σ : AH) : Prop :=
 Y61 (IntKind.i64.wrap (x89_62 + 1)) σ

def l61_law23_JudgeStands (B : World) (ro : AH) (a0 : Int) (a1 : Sl) (x66_3 : Sl) (x72_36 : Nat) (x83_48 : Int) (x86_50 : Nat) (Q : Bool → AH → Prop) (Y47 : (Int) → AH → Prop) : (Int) → AH → ((Int) → AH → Prop) → Prop := fun x89_62 σ Y61 =>
 if x89_62 < (a1.len : Int) then
  ∃ p91_64 : Addr, a1.a = some p91_64 ∧ (0 : Int) ≤ x89_62 ∧ x89_62 < (a1.len : Int) ∧
  ∃ (x92_65a : Int) (x92_65b : Int), cellsAt ro σ (p91_64.add (Int.toNat x89_62 * 2)) 0 [.int .i64 x92_65a, .int .i64 x92_65b] ∧
  nw ro σ (.cells #[.int .i64 0, .int .i64 0] 24) fun x13_66 σ =>
  stN ⟨x13_66, 0, none⟩ (fun σ =>
   ∃ (x95_67 : Int), acell ro σ ((⟨x13_66, 0, none⟩ : Addr).add (Int.toNat 1 * 1)) = some (.int .i64 x95_67) ∧
   ∃ (x98_68 : Int), acell ro σ ((⟨x13_66, 0, none⟩ : Addr).add (Int.toNat 1 * 1)) = some (.int .i64 x98_68) ∧
   ∃ p99_69 : Addr, (⟨some ⟨x86_50, 0, none⟩, Int.toNat a0, Int.toNat a0⟩ : Sl).a = some p99_69 ∧ (0 : Int) ≤ x98_68 ∧ x98_68 < ((⟨some ⟨x86_50, 0, none⟩, Int.toNat a0, Int.toNat a0⟩ : Sl).len : Int) ∧
   ∃ (x100_70 : Bool), acell ro σ (p99_69.add (Int.toNat x98_68 * 1)) = some (.bool x100_70) ∧
   if x100_70 = true then
    ∃ p108_71 : Addr, (⟨some ⟨x86_50, 0, none⟩, Int.toNat a0, Int.toNat a0⟩ : Sl).a = some p108_71 ∧ (0 : Int) ≤ x95_67 ∧ x95_67 < ((⟨some ⟨x86_50, 0, none⟩, Int.toNat a0, Int.toNat a0⟩ : Sl).len : Int) ∧
    stN (p108_71.add (Int.toNat x95_67 * 1)) (fun σ =>
     j63_law23_JudgeStands B ro a0 a1 x66_3 x72_36 x83_48 x86_50 x89_62 Q Y47 Y61 σ) [.bool true] 0 σ
   else
   ∃ (x104_72 : Int), acell ro σ ((⟨x13_66, 0, none⟩ : Addr).add (Int.toNat 0 * 1)) = some (.int .i64 x104_72) ∧
   ∃ p105_73 : Addr, (⟨some ⟨x72_36, 0, none⟩, Int.toNat a0, Int.toNat a0⟩ : Sl).a = some p105_73 ∧ (0 : Int) ≤ x104_72 ∧ x104_72 < ((⟨some ⟨x72_36, 0, none⟩, Int.toNat a0, Int.toNat a0⟩ : Sl).len : Int) ∧
   ∃ (x106_74 : Bool), acell ro σ (p105_73.add (Int.toNat x104_72 * 1)) = some (.bool x106_74) ∧
   ∃ p108_75 : Addr, (⟨some ⟨x86_50, 0, none⟩, Int.toNat a0, Int.toNat a0⟩ : Sl).a = some p108_75 ∧ (0 : Int) ≤ x95_67 ∧ x95_67 < ((⟨some ⟨x86_50, 0, none⟩, Int.toNat a0, Int.toNat a0⟩ : Sl).len : Int) ∧
   stN (p108_75.add (Int.toNat x95_67 * 1)) (fun σ =>
    j63_law23_JudgeStands B ro a0 a1 x66_3 x72_36 x83_48 x86_50 x89_62 Q Y47 Y61 σ) [.bool x106_74] 0 σ) [.int .i64 x92_65a, .int .i64 x92_65b] 0 σ
 else
 j51_law23_JudgeStands B ro a0 a1 x66_3 x72_36 x83_48 x86_50 Q Y47 σ

def l47_law23_JudgeStands (B : World) (ro : AH) (a0 : Int) (a1 : Sl) (x66_3 : Sl) (x72_36 : Nat) (Q : Bool → AH → Prop) : (Int) → AH → ((Int) → AH → Prop) → Prop := fun x83_48 σ Y47 =>
 if x83_48 < a0 then
  ((0 : Int) ≤ a0 ∧ a0 ≤ a0 ∧ a0 ≤ 281474976710656 ∧ 1 * a0 ≤ 281474976710656) ∧
  nw ro σ (.cells (zeros (.bool false) (Int.toNat a0 * 1)) 4) fun x86_50 σ =>
  lfpD (l61_law23_JudgeStands B ro a0 a1 x66_3 x72_36 x83_48 x86_50 Q Y47 ) (0) σ
 else
 j38_law23_JudgeStands B ro a0 x66_3 x72_36 Q σ

def j37_law23_JudgeStands (B : World) (ro : AH) (a0 : Int) (a1 : Sl) (x66_3 : Sl) (x72_36 : Nat) (Q : Bool → AH → Prop) (σ : AH) : Prop :=
 lfpD (l47_law23_JudgeStands B ro a0 a1 x66_3 x72_36 Q ) (0) σ

def l76_law23_JudgeStands (B : World) (ro : AH) (a0 : Int) (a1 : Sl) (x66_3 : Sl) (x72_36 : Nat) (Q : Bool → AH → Prop) : (Int) → AH → ((Int) → AH → Prop) → Prop := fun x75_77 σ Y76 =>
 if x75_77 < ((⟨some ⟨x72_36, 0, none⟩, Int.toNat a0, Int.toNat a0⟩ : Sl).len : Int) then
  ∃ p80_78 : Addr, (⟨some ⟨x72_36, 0, none⟩, Int.toNat a0, Int.toNat a0⟩ : Sl).a = some p80_78 ∧ (0 : Int) ≤ x75_77 ∧ x75_77 < ((⟨some ⟨x72_36, 0, none⟩, Int.toNat a0, Int.toNat a0⟩ : Sl).len : Int) ∧
  stN (p80_78.add (Int.toNat x75_77 * 1)) (fun σ =>
   Y76 (IntKind.i64.wrap (x75_77 + 1)) σ) [.bool true] 0 σ
 else
 j37_law23_JudgeStands B ro a0 a1 x66_3 x72_36 Q σ

def j2_law23_JudgeStands (B : World) (ro : AH) (a0 : Int) (a1 : Sl) (Q : Bool → AH → Prop) (σ : AH) : Prop :=
 c_judge_Arrange B ro a0 a1 σ fun x66_3 x66_4 σ =>
 if ¬ (x66_4 = true) then
  ((0 : Int) ≤ a0 ∧ a0 ≤ a0 ∧ a0 ≤ 281474976710656 ∧ 1 * a0 ≤ 281474976710656) ∧
  nw ro σ (.cells (zeros (.bool false) (Int.toNat a0 * 1)) 4) fun x72_36 σ =>
  lfpD (l76_law23_JudgeStands B ro a0 a1 x66_3 x72_36 Q ) (0) σ
 else
 j5_law23_JudgeStands B ro a0 a1 x66_3 Q σ

def j89_law23_JudgeStands (B : World) (ro : AH) (a0 : Int) (a1 : Sl) (x37_80 : Int) (Q : Bool → AH → Prop) (Y79 : (Int) → AH → Prop) (x60_90 : Bool) (σ : AH) : Prop :=
 if x60_90 = true then
  c_law23_awake B ro σ fun x61_91 σ =>
  Q x61_91 σ
 else
 Y79 (IntKind.i64.wrap (x37_80 + 1)) σ

def j87_law23_JudgeStands (B : World) (ro : AH) (a0 : Int) (a1 : Sl) (x6_83 : Nat) (x37_80 : Int) (Q : Bool → AH → Prop) (Y79 : (Int) → AH → Prop) (x54_88 : Bool) (σ : AH) : Prop :=
 if x54_88 = true then
  j89_law23_JudgeStands B ro a0 a1 x37_80 Q Y79 true σ
 else
 ∃ (x57_92 : Int), acell ro σ ((⟨x6_83, 0, none⟩ : Addr).add (Int.toNat 1 * 1)) = some (.int .i64 x57_92) ∧
 j89_law23_JudgeStands B ro a0 a1 x37_80 Q Y79 (decide (a0 ≤ x57_92)) σ

def j85_law23_JudgeStands (B : World) (ro : AH) (a0 : Int) (a1 : Sl) (x6_83 : Nat) (x37_80 : Int) (Q : Bool → AH → Prop) (Y79 : (Int) → AH → Prop) (x49_86 : Bool) (σ : AH) : Prop :=
 if x49_86 = true then
  j87_law23_JudgeStands B ro a0 a1 x6_83 x37_80 Q Y79 true σ
 else
 ∃ (x52_93 : Int), acell ro σ ((⟨x6_83, 0, none⟩ : Addr).add (Int.toNat 1 * 1)) = some (.int .i64 x52_93) ∧
 j87_law23_JudgeStands B ro a0 a1 x6_83 x37_80 Q Y79 (decide (x52_93 < 0)) σ

def l79_law23_JudgeStands (B : World) (ro : AH) (a0 : Int) (a1 : Sl) (Q : Bool → AH → Prop) : (Int) → AH → ((Int) → AH → Prop) → Prop := fun x37_80 σ Y79 =>
 if x37_80 < (a1.len : Int) then
  ∃ p39_81 : Addr, a1.a = some p39_81 ∧ (0 : Int) ≤ x37_80 ∧ x37_80 < (a1.len : Int) ∧
  ∃ (x40_82a : Int) (x40_82b : Int), cellsAt ro σ (p39_81.add (Int.toNat x37_80 * 2)) 0 [.int .i64 x40_82a, .int .i64 x40_82b] ∧
  nw ro σ (.cells #[.int .i64 0, .int .i64 0] 24) fun x6_83 σ =>
  stN ⟨x6_83, 0, none⟩ (fun σ =>
   ∃ (x42_84 : Int), acell ro σ ((⟨x6_83, 0, none⟩ : Addr).add (Int.toNat 0 * 1)) = some (.int .i64 x42_84) ∧
   if x42_84 < 0 then
    j85_law23_JudgeStands B ro a0 a1 x6_83 x37_80 Q Y79 true σ
   else
   ∃ (x46_94 : Int), acell ro σ ((⟨x6_83, 0, none⟩ : Addr).add (Int.toNat 0 * 1)) = some (.int .i64 x46_94) ∧
   j85_law23_JudgeStands B ro a0 a1 x6_83 x37_80 Q Y79 (decide (a0 ≤ x46_94)) σ) [.int .i64 x40_82a, .int .i64 x40_82b] 0 σ
 else
 j2_law23_JudgeStands B ro a0 a1 Q σ

def f_law23_JudgeStands (B : World) (ro : AH) (a0 : Int) (a1 : Sl) (σ : AH) (Q : Bool → AH → Prop) : Prop :=
 if ((a0 < 0) ∨ (200 < a0)) ∨ (2000 < (a1.len : Int)) then
  c_law23_awake B ro σ fun x34_1 σ =>
  Q x34_1 σ
 else
 lfpD (l79_law23_JudgeStands B ro a0 a1 Q ) (0) σ

set_option maxRecDepth 100000 in
set_option maxHeartbeats 4000000 in
theorem law23_JudgeStands_ok {B : World} {ro : AH} {a0 : Int} {a1 : Sl} {σ : AH} {Q : Bool → AH → Prop} (h : Sep ro σ → f_law23_JudgeStands B ro a0 a1 σ Q) : c_law23_JudgeStands B ro a0 a1 σ Q := by
  refine ACalls.of_sep fun hsep => ?_
  replace h := h hsep
  refine ACalls.of_body (args := [.int .i64 a0, Sl.v a1]) Try.func3 rfl (by rw [Try.ntmps3]; simp) ?_
  rw [Try.ntmps3]
  unfold f_law23_JudgeStands at h
  refine AW.seq ?_
  refine AW.reg ?_
  refine Lp (V_asg rfl rfl) rfl rfl ?_
  refine Lnil ?_
  refine thenN ?_
  refine AW.seq ?_
  refine AW.seq ?_
  refine AW.reg ?_
  refine Lp (V_move rfl rfl) rfl rfl ?_
  refine Lp (V_lss rfl rfl rfl) rfl rfl ?_
  refine Lp (V_move rfl rfl) rfl rfl ?_
  refine Lsplit 3 (decide (a0 < 0)) [(0, .int .i64 a0), (1, Sl.v a1), (28, .bool ((decide (a0 < 0)) || (decide (200 < a0))))] ?_ ?_ ?_
  · intro e2 hk2
    refine Ln rfl rfl rfl rfl (.inl (by rw [e2]; rfl)) ?_
    refine Ln rfl rfl rfl rfl (.inl (by rw [e2]; rfl)) ?_
    refine Lp (V_pickT rfl (evb e2) rfl) rfl rfl ?_
    exact hk2 _ (FrLe.cons rfl (FrLe.cons rfl (FrLe.cons (by rw [e2]; rfl) (FrLe.nil _))))
  · intro e2 hk2
    refine Lypb (V_move rfl rfl) rfl rfl rfl rfl e2 ?_
    refine Lypb (V_gtr rfl rfl rfl) rfl rfl rfl rfl e2 ?_
    refine Lp (V_pickF rfl (evb e2) rfl) rfl rfl ?_
    exact hk2 _ (FrLe.cons rfl (FrLe.cons rfl (FrLe.cons (by rw [e2]; rfl) (FrLe.nil _))))
  intro fr hl
  refine Lfr hl ?_
  refine Lp (V_move rfl rfl) rfl rfl ?_
  refine Lsplit 4 ((decide (a0 < 0)) || (decide (200 < a0))) [(0, .int .i64 a0), (1, Sl.v a1), (33, .bool (((decide (a0 < 0)) || (decide (200 < a0))) || (decide (2000 < (a1.len : Int)))))] ?_ ?_ ?_
  · intro e6 hk6
    refine Ln rfl rfl rfl rfl (.inl (by rw [e6]; rfl)) ?_
    refine Ln rfl rfl rfl rfl (.inl (by rw [e6]; rfl)) ?_
    refine Ln rfl rfl rfl rfl (.inl (by rw [e6]; rfl)) ?_
    refine Lp (V_pickT rfl (evb e6) rfl) rfl rfl ?_
    exact hk6 _ (FrLe.cons rfl (FrLe.cons rfl (FrLe.cons (by rw [e6]; rfl) (FrLe.nil _))))
  · intro e6 hk6
    refine Lypb (V_move rfl rfl) rfl rfl rfl rfl e6 ?_
    refine Lypb (V_lenL rfl rfl Try.underlying22 rfl rfl) rfl rfl rfl rfl e6 ?_
    refine Lypb (V_gtr rfl rfl rfl) rfl rfl rfl rfl e6 ?_
    refine Lp (V_pickF rfl (evb e6) rfl) rfl rfl ?_
    exact hk6 _ (FrLe.cons rfl (FrLe.cons rfl (FrLe.cons (by rw [e6]; rfl) (FrLe.nil _))))
  intro fr hl
  refine Lfr hl ?_
  refine Lnil ?_
  refine thenN ?_
  refine AW.iff rfl (bor_iff (bor_iff decide_eq_true_iff decide_eq_true_iff) decide_eq_true_iff) h (fun h => ?_) (fun h => ?_)
  · refine AW.seq ?_
    refine AW.reg ?_
    refine Ls rfl rfl (X_call rfl Try.func4 rfl rfl rfl (ACalls.mono h ?_))
    rintro v σ ⟨x34_1, rfl, h⟩
    refine Lp (V_asg rfl rfl) rfl rfl ?_
    refine Lnil ?_
    refine thenN ?_
    refine AW.ret ?_
    refine thenR ?_
    exact bR1 Try.results3 rfl ⟨_, rfl, h⟩
  refine AW.skip ?_
  refine thenN ?_
  refine AW.seqJ (fun fr σ => FrLe [(0, .int .i64 a0), (1, Sl.v a1)] fr ∧ j2_law23_JudgeStands B ro a0 a1 Q σ) ?_ ?_
  rotate_left
  · refine AW.seq ?_
    refine AW.reg ?_
    refine Lp (V_move rfl rfl) rfl rfl ?_
    refine Lp (V_lenL rfl rfl Try.underlying22 rfl rfl) rfl rfl ?_
    refine Lp (V_move rfl rfl) rfl rfl ?_
    refine Lnil ?_
    refine thenN ?_
    refine AW.block ?_
    refine ARound.loop (fr' := [(0, .int .i64 a0), (1, Sl.v a1), (35, Sl.v a1), (36, .int .i64 (a1.len : Int)), (37, .int .i64 0)]) ?_ (FrLe.cons rfl (FrLe.cons rfl (FrLe.cons rfl (FrLe.cons rfl (FrLe.cons rfl (FrLe.nil _))))))
    refine h (fun x37_80 σ => ARound _ _ _ _ _ _ [(0, .int .i64 a0), (1, Sl.v a1), (35, Sl.v a1), (36, .int .i64 (a1.len : Int)), (37, .int .i64 x37_80)] σ) ?_
    rintro x37_80 σ Y79 hY79 h
    show AW _ _ _ _ _ _ _ _
    unfold l79_law23_JudgeStands at h
    refine AW.seq ?_
    refine AW.reg ?_
    refine Lp (V_lss rfl rfl rfl) rfl rfl ?_
    refine Lnil ?_
    refine thenN ?_
    refine AW.seq ?_
    refine AW.iff rfl decide_eq_true_iff h (fun h => ?_) (fun h => ?_)
    rotate_left
    · refine AW.exit ?_
      refine thenE ?_
      refine thenE ?_
      refine blockE ?_
      refine thenN ?_
      exact ⟨(FrLe.cons rfl (FrLe.cons rfl (FrLe.nil _))), h⟩
    refine AW.skip ?_
    refine thenN ?_
    refine AW.seq ?_
    refine AW.block ?_
    refine AW.seq ?_
    refine AW.reg ?_
    obtain ⟨p39_81, ha, h0, h1, h⟩ := h
    refine Lp (V_ixA rfl Try.underlying22 ty24 (ixL rfl ha) rfl h0 h1) rfl rfl ?_
    obtain ⟨x40_82a, x40_82b, hc, h⟩ := h
    refine Ls rfl rfl (X_lda rfl Try.underlying24 rfl ty24 rfl hc ?_)
    refine Ls rfl rfl (X_new (A_alloc rfl ty24) fun x6_83 g1 g2 => ?_)
    replace h := h x6_83 g1 g2
    refine Ls rfl rfl (X_st rfl ty24 rfl rfl rfl rfl (stN_mono h fun σ h => ?_))
    refine Lnil ?_
    refine thenN ?_
    refine AW.seq ?_
    refine AW.reg ?_
    refine Lp (V_ixP rfl Try.underlying24 ty3 rfl rfl (by decide) (by decide)) rfl rfl ?_
    obtain ⟨x42_84, hc, h⟩ := h
    refine Ls rfl rfl (X_ld rfl Try.underlying3 rfl rfl hc ?_)
    refine Lp (V_lss rfl rfl rfl) rfl rfl ?_
    refine Lp (V_move rfl rfl) rfl rfl ?_
    refine LsplitJ 5 (decide (x42_84 < 0)) decide_eq_true_iff h (fun fr σ => ∃ (x49_86 : Bool), FrLe [(0, .int .i64 a0), (1, Sl.v a1), (6, .pointer (some ⟨x6_83, 0, none⟩)), (35, Sl.v a1), (36, .int .i64 (a1.len : Int)), (37, .int .i64 x37_80), (49, .bool x49_86)] fr ∧ j85_law23_JudgeStands B ro a0 a1 x6_83 x37_80 Q Y79 x49_86 σ) ?_ ?_ ?_
    · intro h e3 hk3
      refine Ln rfl rfl rfl rfl (.inl (by rw [e3]; rfl)) ?_
      refine Ln rfl rfl rfl rfl (.inl (by rw [e3]; rfl)) ?_
      refine Ln rfl rfl rfl rfl (.inl (by rw [e3]; rfl)) ?_
      refine Ln rfl rfl rfl rfl (.inl (by rw [e3]; rfl)) ?_
      refine Lp (V_pickT rfl (evb e3) rfl) rfl rfl ?_
      exact hk3 _ _ ⟨_, (FrLe.cons rfl (FrLe.cons rfl (FrLe.cons rfl (FrLe.cons rfl (FrLe.cons rfl (FrLe.cons rfl (FrLe.cons rfl (FrLe.nil _)))))))), h⟩
    · intro h e3 hk3
      refine Lypb (V_ixP rfl Try.underlying24 ty3 rfl rfl (by decide) (by decide)) rfl rfl rfl rfl e3 ?_
      obtain ⟨x46_94, hc, h⟩ := h
      refine Lyb rfl rfl rfl rfl e3 (X_ld rfl Try.underlying3 rfl rfl hc ?_)
      refine Lypb (V_move rfl rfl) rfl rfl rfl rfl e3 ?_
      refine Lypb (V_geq rfl rfl rfl) rfl rfl rfl rfl e3 ?_
      refine Lp (V_pickF rfl (evb e3) rfl) rfl rfl ?_
      exact hk3 _ _ ⟨_, (FrLe.cons rfl (FrLe.cons rfl (FrLe.cons rfl (FrLe.cons rfl (FrLe.cons rfl (FrLe.cons rfl (FrLe.cons rfl (FrLe.nil _)))))))), h⟩
    rintro fr σ ⟨x49_86, hl, h⟩
    unfold j85_law23_JudgeStands at h
    refine Lfr hl ?_
    refine Lp (V_move rfl rfl) rfl rfl ?_
    refine LsplitJ 4 x49_86 Iff.rfl h (fun fr σ => ∃ (x54_88 : Bool), FrLe [(0, .int .i64 a0), (1, Sl.v a1), (6, .pointer (some ⟨x6_83, 0, none⟩)), (35, Sl.v a1), (36, .int .i64 (a1.len : Int)), (37, .int .i64 x37_80), (54, .bool x54_88)] fr ∧ j87_law23_JudgeStands B ro a0 a1 x6_83 x37_80 Q Y79 x54_88 σ) ?_ ?_ ?_
    · intro h e9 hk9
      refine Ln rfl rfl rfl rfl (.inl (by rw [e9]; rfl)) ?_
      refine Ln rfl rfl rfl rfl (.inl (by rw [e9]; rfl)) ?_
      refine Ln rfl rfl rfl rfl (.inl (by rw [e9]; rfl)) ?_
      refine Lp (V_pickT rfl (evb e9) rfl) rfl rfl ?_
      exact hk9 _ _ ⟨_, (FrLe.cons rfl (FrLe.cons rfl (FrLe.cons rfl (FrLe.cons rfl (FrLe.cons rfl (FrLe.cons rfl (FrLe.cons rfl (FrLe.nil _)))))))), h⟩
    · intro h e9 hk9
      refine Lypb (V_ixP rfl Try.underlying24 ty3 rfl rfl (by decide) (by decide)) rfl rfl rfl rfl e9 ?_
      obtain ⟨x52_93, hc, h⟩ := h
      refine Lyb rfl rfl rfl rfl e9 (X_ld rfl Try.underlying3 rfl rfl hc ?_)
      refine Lypb (V_lss rfl rfl rfl) rfl rfl rfl rfl e9 ?_
      refine Lp (V_pickF rfl (evb e9) rfl) rfl rfl ?_
      exact hk9 _ _ ⟨_, (FrLe.cons rfl (FrLe.cons rfl (FrLe.cons rfl (FrLe.cons rfl (FrLe.cons rfl (FrLe.cons rfl (FrLe.cons rfl (FrLe.nil _)))))))), h⟩
    rintro fr σ ⟨x54_88, hl, h⟩
    unfold j87_law23_JudgeStands at h
    refine Lfr hl ?_
    refine Lp (V_move rfl rfl) rfl rfl ?_
    refine LsplitJ 5 x54_88 Iff.rfl h (fun fr σ => ∃ (x60_90 : Bool), FrLe [(0, .int .i64 a0), (1, Sl.v a1), (35, Sl.v a1), (36, .int .i64 (a1.len : Int)), (37, .int .i64 x37_80), (60, .bool x60_90)] fr ∧ j89_law23_JudgeStands B ro a0 a1 x37_80 Q Y79 x60_90 σ) ?_ ?_ ?_
    · intro h e14 hk14
      refine Ln rfl rfl rfl rfl (.inl (by rw [e14]; rfl)) ?_
      refine Ln rfl rfl rfl rfl (.inl (by rw [e14]; rfl)) ?_
      refine Ln rfl rfl rfl rfl (.inl (by rw [e14]; rfl)) ?_
      refine Ln rfl rfl rfl rfl (.inl (by rw [e14]; rfl)) ?_
      refine Lp (V_pickT rfl (evb e14) rfl) rfl rfl ?_
      exact hk14 _ _ ⟨_, (FrLe.cons rfl (FrLe.cons rfl (FrLe.cons rfl (FrLe.cons rfl (FrLe.cons rfl (FrLe.cons rfl (FrLe.nil _))))))), h⟩
    · intro h e14 hk14
      refine Lypb (V_ixP rfl Try.underlying24 ty3 rfl rfl (by decide) (by decide)) rfl rfl rfl rfl e14 ?_
      obtain ⟨x57_92, hc, h⟩ := h
      refine Lyb rfl rfl rfl rfl e14 (X_ld rfl Try.underlying3 rfl rfl hc ?_)
      refine Lypb (V_move rfl rfl) rfl rfl rfl rfl e14 ?_
      refine Lypb (V_geq rfl rfl rfl) rfl rfl rfl rfl e14 ?_
      refine Lp (V_pickF rfl (evb e14) rfl) rfl rfl ?_
      exact hk14 _ _ ⟨_, (FrLe.cons rfl (FrLe.cons rfl (FrLe.cons rfl (FrLe.cons rfl (FrLe.cons rfl (FrLe.cons rfl (FrLe.nil _))))))), h⟩
    rintro fr σ ⟨x60_90, hl, h⟩
    unfold j89_law23_JudgeStands at h
    refine Lfr hl ?_
    refine Lnil ?_
    refine thenN ?_
    refine AW.iff rfl Iff.rfl h (fun h => ?_) (fun h => ?_)
    · refine AW.seq ?_
      refine AW.reg ?_
      refine Ls rfl rfl (X_call rfl Try.func4 rfl rfl rfl (ACalls.mono h ?_))
      rintro v σ ⟨x61_91, rfl, h⟩
      refine Lp (V_asg rfl rfl) rfl rfl ?_
      refine Lnil ?_
      refine thenN ?_
      refine AW.ret ?_
      refine blockR ?_
      refine thenR ?_
      refine thenR ?_
      refine blockR ?_
      refine thenR ?_
      exact bR1 Try.results3 rfl ⟨_, rfl, h⟩
    refine AW.skip ?_
    refine blockN ?_
    refine thenN ?_
    refine AW.reg ?_
    refine Lp (V_add rfl rfl rfl) rfl rfl ?_
    refine Lp (V_move rfl rfl) rfl rfl ?_
    refine Lnil ?_
    refine thenN ?_
    refine ARound.head (fr' := [(0, .int .i64 a0), (1, Sl.v a1), (35, Sl.v a1), (36, .int .i64 (a1.len : Int)), (37, .int .i64 (IntKind.i64.wrap (x37_80 + 1)))]) ?_ (FrLe.cons rfl (FrLe.cons rfl (FrLe.cons rfl (FrLe.cons rfl (FrLe.cons rfl (FrLe.nil _))))))
    exact hY79 _ _ h
  rintro fr σ ⟨hl, h⟩
  refine AW.weaken ?_ hl (HLe.refl _)
  unfold j2_law23_JudgeStands at h
  refine AW.seq ?_
  refine AW.reg ?_
  refine Lp (V_move rfl rfl) rfl rfl ?_
  refine Lp (V_move rfl rfl) rfl rfl ?_
  refine Ls rfl rfl (X_call rfl Try.func5 rfl rfl rfl (ACalls.mono h ?_))
  rintro v σ ⟨x66_3, x66_4, rfl, h⟩
  refine Lp (V_move rfl rfl) rfl rfl ?_
  refine Lp (V_ext rfl rfl rfl) rfl rfl ?_
  refine Lp (V_ext rfl rfl rfl) rfl rfl ?_
  refine Lp (V_asg rfl rfl) rfl rfl ?_
  refine Lp (V_asg rfl rfl) rfl rfl ?_
  refine Lnil ?_
  refine thenN ?_
  refine AW.seqJ (fun fr σ => FrLe [(0, .int .i64 a0), (1, Sl.v a1), (7, Sl.v x66_3)] fr ∧ j5_law23_JudgeStands B ro a0 a1 x66_3 Q σ) ?_ ?_
  · rintro fr σ ⟨hl, h⟩
    refine AW.weaken ?_ hl (HLe.refl _)
    unfold j5_law23_JudgeStands at h
    refine AW.seq ?_
    refine AW.reg ?_
    refine Lp (V_move rfl rfl) rfl rfl ?_
    obtain ⟨⟨h0, h1, h2, h3⟩, h⟩ := h
    refine Ls rfl rfl (X_new (A_mks rfl Try.underlying25 ty3 rfl rfl h0 h1 h2 h3) fun x145_6 g1 g2 => ?_)
    replace h := h x145_6 g1 g2
    refine Lp (V_asg rfl rfl) rfl rfl ?_
    refine Lnil ?_
    refine thenN ?_
    refine AW.seqJ (fun fr σ => FrLe [(0, .int .i64 a0), (1, Sl.v a1), (7, Sl.v x66_3), (17, Sl.v (⟨some ⟨x145_6, 0, none⟩, Int.toNat a0, Int.toNat a0⟩ : Sl))] fr ∧ j7_law23_JudgeStands B ro a0 a1 x66_3 x145_6 Q σ) ?_ ?_
    rotate_left
    · refine AW.seq ?_
      refine AW.reg ?_
      refine Lp (V_move rfl rfl) rfl rfl ?_
      refine Lp (V_lenL rfl rfl Try.underlying25 rfl rfl) rfl rfl ?_
      refine Lp (V_move rfl rfl) rfl rfl ?_
      refine Lnil ?_
      refine thenN ?_
      refine AW.block ?_
      refine ARound.loop (fr' := [(0, .int .i64 a0), (1, Sl.v a1), (7, Sl.v x66_3), (17, Sl.v (⟨some ⟨x145_6, 0, none⟩, Int.toNat a0, Int.toNat a0⟩ : Sl)), (147, .int .i64 ((⟨some ⟨x145_6, 0, none⟩, Int.toNat a0, Int.toNat a0⟩ : Sl).len : Int)), (148, .int .i64 0)]) ?_ (FrLe.cons rfl (FrLe.cons rfl (FrLe.cons rfl (FrLe.cons rfl (FrLe.cons rfl (FrLe.cons rfl (FrLe.nil _)))))))
      refine h (fun x148_34 σ => ARound _ _ _ _ _ _ [(0, .int .i64 a0), (1, Sl.v a1), (7, Sl.v x66_3), (17, Sl.v (⟨some ⟨x145_6, 0, none⟩, Int.toNat a0, Int.toNat a0⟩ : Sl)), (147, .int .i64 ((⟨some ⟨x145_6, 0, none⟩, Int.toNat a0, Int.toNat a0⟩ : Sl).len : Int)), (148, .int .i64 x148_34)] σ) ?_
      rintro x148_34 σ Y33 hY33 h
      show AW _ _ _ _ _ _ _ _
      unfold l33_law23_JudgeStands at h
      refine AW.seq ?_
      refine AW.reg ?_
      refine Lp (V_lss rfl rfl rfl) rfl rfl ?_
      refine Lnil ?_
      refine thenN ?_
      refine AW.seq ?_
      refine AW.iff rfl decide_eq_true_iff h (fun h => ?_) (fun h => ?_)
      rotate_left
      · refine AW.exit ?_
        refine thenE ?_
        refine thenE ?_
        refine blockE ?_
        refine thenN ?_
        exact ⟨(FrLe.cons rfl (FrLe.cons rfl (FrLe.cons rfl (FrLe.cons rfl (FrLe.nil _))))), h⟩
      refine AW.skip ?_
      refine thenN ?_
      refine AW.seq ?_
      refine AW.block ?_
      refine AW.seq ?_
      refine AW.reg ?_
      refine Lp (V_move rfl rfl) rfl rfl ?_
      refine Lp (V_asg rfl rfl) rfl rfl ?_
      refine Lnil ?_
      refine thenN ?_
      refine AW.reg ?_
      refine Lp (V_move rfl rfl) rfl rfl ?_
      refine Lp (V_move rfl rfl) rfl rfl ?_
      obtain ⟨p153_35, ha, h0, h1, h⟩ := h
      refine Lp (V_ixA rfl Try.underlying25 ty3 (ixL rfl ha) rfl h0 h1) rfl rfl ?_
      refine Ls rfl rfl (X_st rfl ty3 rfl rfl rfl rfl (stN_mono h fun σ h => ?_))
      refine Lnil ?_
      refine blockN ?_
      refine thenN ?_
      refine AW.reg ?_
      refine Lp (V_add rfl rfl rfl) rfl rfl ?_
      refine Lp (V_move rfl rfl) rfl rfl ?_
      refine Lnil ?_
      refine thenN ?_
      refine ARound.head (fr' := [(0, .int .i64 a0), (1, Sl.v a1), (7, Sl.v x66_3), (17, Sl.v (⟨some ⟨x145_6, 0, none⟩, Int.toNat a0, Int.toNat a0⟩ : Sl)), (147, .int .i64 ((⟨some ⟨x145_6, 0, none⟩, Int.toNat a0, Int.toNat a0⟩ : Sl).len : Int)), (148, .int .i64 (IntKind.i64.wrap (x148_34 + 1)))]) ?_ (FrLe.cons rfl (FrLe.cons rfl (FrLe.cons rfl (FrLe.cons rfl (FrLe.cons rfl (FrLe.cons rfl (FrLe.nil _)))))))
      exact hY33 _ _ h
    rintro fr σ ⟨hl, h⟩
    refine AW.weaken ?_ hl (HLe.refl _)
    unfold j7_law23_JudgeStands at h
    refine AW.seqJ (fun fr σ => FrLe [(0, .int .i64 a0), (1, Sl.v a1), (7, Sl.v x66_3), (17, Sl.v (⟨some ⟨x145_6, 0, none⟩, Int.toNat a0, Int.toNat a0⟩ : Sl))] fr ∧ j8_law23_JudgeStands B ro a0 a1 x66_3 x145_6 Q σ) ?_ ?_
    · rintro fr σ ⟨hl, h⟩
      refine AW.weaken ?_ hl (HLe.refl _)
      unfold j8_law23_JudgeStands at h
      refine AW.seqJ (fun fr σ => FrLe [(0, .int .i64 a0), (7, Sl.v x66_3)] fr ∧ j9_law23_JudgeStands B ro a0 x66_3 Q σ) ?_ ?_
      · rintro fr σ ⟨hl, h⟩
        refine AW.weaken ?_ hl (HLe.refl _)
        unfold j9_law23_JudgeStands at h
        refine AW.seq ?_
        refine AW.reg ?_
        refine Lp (V_move rfl rfl) rfl rfl ?_
        refine Lp (V_lenL rfl rfl Try.underlying25 rfl rfl) rfl rfl ?_
        refine Lp (V_move rfl rfl) rfl rfl ?_
        refine Lp (V_eql rfl rfl rfl) rfl rfl ?_
        refine Lp (V_move rfl rfl) rfl rfl ?_
        refine LsplitJ 2 (decide ((x66_3.len : Int) = a0)) decide_eq_true_iff h (fun fr σ => ∃ (x205_11 : Bool), FrLe [(205, .bool x205_11)] fr ∧ j10_law23_JudgeStands B ro Q x205_11 σ) ?_ ?_ ?_
        · intro h e4 hk4
          refine Lyb rfl rfl rfl rfl e4 (X_call rfl Try.func4 rfl rfl rfl (ACalls.mono h ?_))
          rintro v σ ⟨x204_12, rfl, h⟩
          refine Lp (V_pickT rfl (evb e4) rfl) rfl rfl ?_
          exact hk4 _ _ ⟨_, (FrLe.cons rfl (FrLe.nil _)), h⟩
        · intro h e4 hk4
          refine Ln rfl rfl rfl rfl (.inl (by rw [e4]; rfl)) ?_
          refine Lp (V_pickF rfl (evb e4) rfl) rfl rfl ?_
          exact hk4 _ _ ⟨_, (FrLe.cons rfl (FrLe.nil _)), h⟩
        rintro fr σ ⟨x205_11, hl, h⟩
        unfold j10_law23_JudgeStands at h
        refine Lfr hl ?_
        refine Lp (V_asg rfl rfl) rfl rfl ?_
        refine Lnil ?_
        refine thenN ?_
        refine AW.ret ?_
        exact bR1 Try.results3 rfl ⟨_, rfl, h⟩
      refine AW.seq ?_
      refine AW.reg ?_
      refine Lp (V_move rfl rfl) rfl rfl ?_
      refine Lp (V_lenL rfl rfl Try.underlying22 rfl rfl) rfl rfl ?_
      refine Lp (V_move rfl rfl) rfl rfl ?_
      refine Lnil ?_
      refine thenN ?_
      refine AW.block ?_
      refine ARound.loop (fr' := [(0, .int .i64 a0), (7, Sl.v x66_3), (17, Sl.v (⟨some ⟨x145_6, 0, none⟩, Int.toNat a0, Int.toNat a0⟩ : Sl)), (181, Sl.v a1), (182, .int .i64 (a1.len : Int)), (183, .int .i64 0)]) ?_ (FrLe.cons rfl (FrLe.cons rfl (FrLe.cons rfl (FrLe.cons rfl (FrLe.cons rfl (FrLe.cons rfl (FrLe.nil _)))))))
      refine h (fun x183_14 σ => ARound _ _ _ _ _ _ [(0, .int .i64 a0), (7, Sl.v x66_3), (17, Sl.v (⟨some ⟨x145_6, 0, none⟩, Int.toNat a0, Int.toNat a0⟩ : Sl)), (181, Sl.v a1), (182, .int .i64 (a1.len : Int)), (183, .int .i64 x183_14)] σ) ?_
      rintro x183_14 σ Y13 hY13 h
      show AW _ _ _ _ _ _ _ _
      unfold l13_law23_JudgeStands at h
      refine AW.seq ?_
      refine AW.reg ?_
      refine Lp (V_lss rfl rfl rfl) rfl rfl ?_
      refine Lnil ?_
      refine thenN ?_
      refine AW.seq ?_
      refine AW.iff rfl decide_eq_true_iff h (fun h => ?_) (fun h => ?_)
      rotate_left
      · refine AW.exit ?_
        refine thenE ?_
        refine thenE ?_
        refine blockE ?_
        refine thenN ?_
        exact ⟨(FrLe.cons rfl (FrLe.cons rfl (FrLe.nil _))), h⟩
      refine AW.skip ?_
      refine thenN ?_
      refine AW.seq ?_
      refine AW.block ?_
      refine AW.seq ?_
      refine AW.reg ?_
      obtain ⟨p185_15, ha, h0, h1, h⟩ := h
      refine Lp (V_ixA rfl Try.underlying22 ty24 (ixL rfl ha) rfl h0 h1) rfl rfl ?_
      obtain ⟨x186_16a, x186_16b, hc, h⟩ := h
      refine Ls rfl rfl (X_lda rfl Try.underlying24 rfl ty24 rfl hc ?_)
      refine Ls rfl rfl (X_new (A_alloc rfl ty24) fun x22_17 g1 g2 => ?_)
      replace h := h x22_17 g1 g2
      refine Ls rfl rfl (X_st rfl ty24 rfl rfl rfl rfl (stN_mono h fun σ h => ?_))
      refine Lnil ?_
      refine thenN ?_
      refine AW.seq ?_
      refine AW.drawn0 (fun i => ([0, 0, 3, 0, 3, 0, 0, 3, 0, 3, 0] : List Nat).getD i 2) [] [0, 1, 5, 6, 2, 3, 4, 7, 8, 9, 10] Try.mixed (by decide +kernel) ?_
      refine Dp rfl rfl rfl rfl (V_move rfl rfl) ?_
      refine Dp rfl rfl rfl rfl (V_ixP rfl Try.underlying24 ty3 rfl rfl (by decide) (by decide)) ?_
      refine Dp rfl rfl rfl rfl (V_move rfl rfl) ?_
      refine Dp rfl rfl rfl rfl (V_ixP rfl Try.underlying24 ty3 rfl rfl (by decide) (by decide)) ?_
      obtain ⟨x189_18, hc, h⟩ := h
      refine Dr rfl rfl rfl rfl (R_ld rfl Try.underlying3 rfl rfl hc) ?_
      obtain ⟨p190_19, ha, h0, h1, h⟩ := h
      refine Dp rfl rfl rfl rfl (V_ixA rfl Try.underlying25 ty3 (ixL rfl ha) rfl h0 h1) ?_
      obtain ⟨x191_20, hc, h⟩ := h
      refine Dr rfl rfl rfl rfl (R_ld rfl Try.underlying3 rfl rfl hc) ?_
      obtain ⟨x194_21, hc, h⟩ := h
      refine Dr rfl rfl rfl rfl (R_ld rfl Try.underlying3 rfl rfl hc) ?_
      obtain ⟨p195_22, ha, h0, h1, h⟩ := h
      refine Dp rfl rfl rfl rfl (V_ixA rfl Try.underlying25 ty3 (ixL rfl ha) rfl h0 h1) ?_
      obtain ⟨x196_23, hc, h⟩ := h
      refine Dr rfl rfl rfl rfl (R_ld rfl Try.underlying3 rfl rfl hc) ?_
      refine Dp rfl rfl rfl rfl (V_geq rfl rfl rfl) ?_
      refine Dend ?_
      refine thenN ?_
      refine AW.iff rfl decide_eq_true_iff h (fun h => ?_) (fun h => ?_)
      · refine AW.seq ?_
        refine AW.reg ?_
        refine Lp (V_asg rfl rfl) rfl rfl ?_
        refine Lnil ?_
        refine thenN ?_
        refine AW.ret ?_
        refine blockR ?_
        refine thenR ?_
        refine thenR ?_
        refine blockR ?_
        refine thenR ?_
        exact bR1 Try.results3 rfl ⟨_, rfl, h⟩
      refine AW.skip ?_
      refine blockN ?_
      refine thenN ?_
      refine AW.reg ?_
      refine Lp (V_add rfl rfl rfl) rfl rfl ?_
      refine Lp (V_move rfl rfl) rfl rfl ?_
      refine Lnil ?_
      refine thenN ?_
      refine ARound.head (fr' := [(0, .int .i64 a0), (7, Sl.v x66_3), (17, Sl.v (⟨some ⟨x145_6, 0, none⟩, Int.toNat a0, Int.toNat a0⟩ : Sl)), (181, Sl.v a1), (182, .int .i64 (a1.len : Int)), (183, .int .i64 (IntKind.i64.wrap (x183_14 + 1)))]) ?_ (FrLe.cons rfl (FrLe.cons rfl (FrLe.cons rfl (FrLe.cons rfl (FrLe.cons rfl (FrLe.cons rfl (FrLe.nil _)))))))
      exact hY13 _ _ h
    refine AW.seq ?_
    refine AW.reg ?_
    refine Lp (V_move rfl rfl) rfl rfl ?_
    refine Lp (V_lenL rfl rfl Try.underlying25 rfl rfl) rfl rfl ?_
    refine Lp (V_move rfl rfl) rfl rfl ?_
    refine Lnil ?_
    refine thenN ?_
    refine AW.block ?_
    refine ARound.loop (fr' := [(0, .int .i64 a0), (1, Sl.v a1), (7, Sl.v x66_3), (17, Sl.v (⟨some ⟨x145_6, 0, none⟩, Int.toNat a0, Int.toNat a0⟩ : Sl)), (155, Sl.v x66_3), (156, .int .i64 (x66_3.len : Int)), (157, .int .i64 0)]) ?_ (FrLe.cons rfl (FrLe.cons rfl (FrLe.cons rfl (FrLe.cons rfl (FrLe.cons rfl (FrLe.cons rfl (FrLe.cons rfl (FrLe.nil _))))))))
    refine h (fun x157_25 σ => ARound _ _ _ _ _ _ [(0, .int .i64 a0), (1, Sl.v a1), (7, Sl.v x66_3), (17, Sl.v (⟨some ⟨x145_6, 0, none⟩, Int.toNat a0, Int.toNat a0⟩ : Sl)), (155, Sl.v x66_3), (156, .int .i64 (x66_3.len : Int)), (157, .int .i64 x157_25)] σ) ?_
    rintro x157_25 σ Y24 hY24 h
    show AW _ _ _ _ _ _ _ _
    unfold l24_law23_JudgeStands at h
    refine AW.seq ?_
    refine AW.reg ?_
    refine Lp (V_lss rfl rfl rfl) rfl rfl ?_
    refine Lnil ?_
    refine thenN ?_
    refine AW.seq ?_
    refine AW.iff rfl decide_eq_true_iff h (fun h => ?_) (fun h => ?_)
    rotate_left
    · refine AW.exit ?_
      refine thenE ?_
      refine thenE ?_
      refine blockE ?_
      refine thenN ?_
      exact ⟨(FrLe.cons rfl (FrLe.cons rfl (FrLe.cons rfl (FrLe.cons rfl (FrLe.nil _))))), h⟩
    refine AW.skip ?_
    refine thenN ?_
    refine AW.seq ?_
    refine AW.block ?_
    refine AW.seq ?_
    refine AW.reg ?_
    refine Lp (V_move rfl rfl) rfl rfl ?_
    obtain ⟨p160_26, ha, h0, h1, h⟩ := h
    refine Lp (V_ixA rfl Try.underlying25 ty3 (ixL rfl ha) rfl h0 h1) rfl rfl ?_
    obtain ⟨x161_27, hc, h⟩ := h
    refine Ls rfl rfl (X_ld rfl Try.underlying3 rfl rfl hc ?_)
    refine Lp (V_asg rfl rfl) rfl rfl ?_
    refine Lp (V_asg rfl rfl) rfl rfl ?_
    refine Lnil ?_
    refine thenN ?_
    refine AW.seq ?_
    refine AW.seq ?_
    refine AW.reg ?_
    refine Lp (V_move rfl rfl) rfl rfl ?_
    refine Lp (V_lss rfl rfl rfl) rfl rfl ?_
    refine Lp (V_move rfl rfl) rfl rfl ?_
    refine Lsplit 4 (decide (x161_27 < 0)) [(0, .int .i64 a0), (1, Sl.v a1), (7, Sl.v x66_3), (17, Sl.v (⟨some ⟨x145_6, 0, none⟩, Int.toNat a0, Int.toNat a0⟩ : Sl)), (19, .int .i64 x157_25), (20, .int .i64 x161_27), (155, Sl.v x66_3), (156, .int .i64 (x66_3.len : Int)), (157, .int .i64 x157_25), (168, .bool ((decide (x161_27 < 0)) || (decide (a0 ≤ x161_27))))] ?_ ?_ ?_
    · intro e2 hk2
      refine Ln rfl rfl rfl rfl (.inl (by rw [e2]; rfl)) ?_
      refine Ln rfl rfl rfl rfl (.inl (by rw [e2]; rfl)) ?_
      refine Ln rfl rfl rfl rfl (.inl (by rw [e2]; rfl)) ?_
      refine Lp (V_pickT rfl (evb e2) rfl) rfl rfl ?_
      exact hk2 _ (FrLe.cons rfl (FrLe.cons rfl (FrLe.cons rfl (FrLe.cons rfl (FrLe.cons rfl (FrLe.cons rfl (FrLe.cons rfl (FrLe.cons rfl (FrLe.cons rfl (FrLe.cons (by rw [e2]; rfl) (FrLe.nil _)))))))))))
    · intro e2 hk2
      refine Lypb (V_move rfl rfl) rfl rfl rfl rfl e2 ?_
      refine Lypb (V_move rfl rfl) rfl rfl rfl rfl e2 ?_
      refine Lypb (V_geq rfl rfl rfl) rfl rfl rfl rfl e2 ?_
      refine Lp (V_pickF rfl (evb e2) rfl) rfl rfl ?_
      exact hk2 _ (FrLe.cons rfl (FrLe.cons rfl (FrLe.cons rfl (FrLe.cons rfl (FrLe.cons rfl (FrLe.cons rfl (FrLe.cons rfl (FrLe.cons rfl (FrLe.cons rfl (FrLe.cons (by rw [e2]; rfl) (FrLe.nil _)))))))))))
    intro fr hl
    refine Lfr hl ?_
    refine Lp (V_move rfl rfl) rfl rfl ?_
    refine LsplitJ 6 ((decide (x161_27 < 0)) || (decide (a0 ≤ x161_27))) (bor_iff decide_eq_true_iff decide_eq_true_iff) h (fun fr σ => ∃ (x175_29 : Bool), FrLe [(0, .int .i64 a0), (1, Sl.v a1), (7, Sl.v x66_3), (17, Sl.v (⟨some ⟨x145_6, 0, none⟩, Int.toNat a0, Int.toNat a0⟩ : Sl)), (19, .int .i64 x157_25), (20, .int .i64 x161_27), (155, Sl.v x66_3), (156, .int .i64 (x66_3.len : Int)), (157, .int .i64 x157_25), (175, .bool x175_29)] fr ∧ j28_law23_JudgeStands B ro a0 a1 x66_3 x145_6 x157_25 x161_27 Q Y24 x175_29 σ) ?_ ?_ ?_
    · intro h e7 hk7
      refine Ln rfl rfl rfl rfl (.inl (by rw [e7]; rfl)) ?_
      refine Ln rfl rfl rfl rfl (.inl (by rw [e7]; rfl)) ?_
      refine Ln rfl rfl rfl rfl (.inl (by rw [e7]; rfl)) ?_
      refine Ln rfl rfl rfl rfl (.inl (by rw [e7]; rfl)) ?_
      refine Ln rfl rfl rfl rfl (.inl (by rw [e7]; rfl)) ?_
      refine Lp (V_pickT rfl (evb e7) rfl) rfl rfl ?_
      exact hk7 _ _ ⟨_, (FrLe.cons rfl (FrLe.cons rfl (FrLe.cons rfl (FrLe.cons rfl (FrLe.cons rfl (FrLe.cons rfl (FrLe.cons rfl (FrLe.cons rfl (FrLe.cons rfl (FrLe.cons rfl (FrLe.nil _))))))))))), h⟩
    · intro h e7 hk7
      refine Lypb (V_move rfl rfl) rfl rfl rfl rfl e7 ?_
      refine Lypb (V_move rfl rfl) rfl rfl rfl rfl e7 ?_
      obtain ⟨p172_31, ha, h0, h1, h⟩ := h
      refine Lypb (V_ixA rfl Try.underlying25 ty3 (ixL rfl ha) rfl h0 h1) rfl rfl rfl rfl e7 ?_
      obtain ⟨x173_32, hc, h⟩ := h
      refine Lyb rfl rfl rfl rfl e7 (X_ld rfl Try.underlying3 rfl rfl hc ?_)
      refine Lypb (V_geq rfl rfl rfl) rfl rfl rfl rfl e7 ?_
      refine Lp (V_pickF rfl (evb e7) rfl) rfl rfl ?_
      exact hk7 _ _ ⟨_, (FrLe.cons rfl (FrLe.cons rfl (FrLe.cons rfl (FrLe.cons rfl (FrLe.cons rfl (FrLe.cons rfl (FrLe.cons rfl (FrLe.cons rfl (FrLe.cons rfl (FrLe.cons rfl (FrLe.nil _))))))))))), h⟩
    rintro fr σ ⟨x175_29, hl, h⟩
    unfold j28_law23_JudgeStands at h
    refine Lfr hl ?_
    refine Lnil ?_
    refine thenN ?_
    refine AW.iff rfl Iff.rfl h (fun h => ?_) (fun h => ?_)
    · refine AW.seq ?_
      refine AW.reg ?_
      refine Lp (V_asg rfl rfl) rfl rfl ?_
      refine Lnil ?_
      refine thenN ?_
      refine AW.ret ?_
      refine thenR ?_
      refine blockR ?_
      refine thenR ?_
      refine thenR ?_
      refine blockR ?_
      refine thenR ?_
      exact bR1 Try.results3 rfl ⟨_, rfl, h⟩
    refine AW.skip ?_
    refine thenN ?_
    refine AW.reg ?_
    refine Lp (V_move rfl rfl) rfl rfl ?_
    refine Lp (V_move rfl rfl) rfl rfl ?_
    refine Lp (V_move rfl rfl) rfl rfl ?_
    obtain ⟨p179_30, ha, h0, h1, h⟩ := h
    refine Lp (V_ixA rfl Try.underlying25 ty3 (ixL rfl ha) rfl h0 h1) rfl rfl ?_
    refine Ls rfl rfl (X_st rfl ty3 rfl rfl rfl rfl (stN_mono h fun σ h => ?_))
    refine Lnil ?_
    refine blockN ?_
    refine thenN ?_
    refine AW.reg ?_
    refine Lp (V_add rfl rfl rfl) rfl rfl ?_
    refine Lp (V_move rfl rfl) rfl rfl ?_
    refine Lnil ?_
    refine thenN ?_
    refine ARound.head (fr' := [(0, .int .i64 a0), (1, Sl.v a1), (7, Sl.v x66_3), (17, Sl.v (⟨some ⟨x145_6, 0, none⟩, Int.toNat a0, Int.toNat a0⟩ : Sl)), (155, Sl.v x66_3), (156, .int .i64 (x66_3.len : Int)), (157, .int .i64 (IntKind.i64.wrap (x157_25 + 1)))]) ?_ (FrLe.cons rfl (FrLe.cons rfl (FrLe.cons rfl (FrLe.cons rfl (FrLe.cons rfl (FrLe.cons rfl (FrLe.cons rfl (FrLe.nil _))))))))
    exact hY24 _ _ h
  refine AW.seq ?_
  refine AW.reg ?_
  refine Lp (V_move rfl rfl) rfl rfl ?_
  refine Lp (V_not rfl rfl) rfl rfl ?_
  refine Lnil ?_
  refine thenN ?_
  refine AW.iff rfl (bnot_iff Iff.rfl) h (fun h => ?_) (fun h => ?_)
  rotate_left
  · refine AW.skip ?_
    refine thenN ?_
    exact ⟨(FrLe.cons rfl (FrLe.cons rfl (FrLe.cons rfl (FrLe.nil _)))), h⟩
  refine AW.seq ?_
  refine AW.reg ?_
  refine Lp (V_move rfl rfl) rfl rfl ?_
  obtain ⟨⟨h0, h1, h2, h3⟩, h⟩ := h
  refine Ls rfl rfl (X_new (A_mks rfl Try.underlying28 ty4 rfl rfl h0 h1 h2 h3) fun x72_36 g1 g2 => ?_)
  replace h := h x72_36 g1 g2
  refine Lp (V_asg rfl rfl) rfl rfl ?_
  refine Lnil ?_
  refine thenN ?_
  refine AW.seqJ (fun fr σ => FrLe [(0, .int .i64 a0), (1, Sl.v a1), (7, Sl.v x66_3), (9, Sl.v (⟨some ⟨x72_36, 0, none⟩, Int.toNat a0, Int.toNat a0⟩ : Sl))] fr ∧ j37_law23_JudgeStands B ro a0 a1 x66_3 x72_36 Q σ) ?_ ?_
  rotate_left
  · refine AW.seq ?_
    refine AW.reg ?_
    refine Lp (V_move rfl rfl) rfl rfl ?_
    refine Lp (V_lenL rfl rfl Try.underlying28 rfl rfl) rfl rfl ?_
    refine Lp (V_move rfl rfl) rfl rfl ?_
    refine Lnil ?_
    refine thenN ?_
    refine AW.block ?_
    refine ARound.loop (fr' := [(0, .int .i64 a0), (1, Sl.v a1), (7, Sl.v x66_3), (9, Sl.v (⟨some ⟨x72_36, 0, none⟩, Int.toNat a0, Int.toNat a0⟩ : Sl)), (74, .int .i64 ((⟨some ⟨x72_36, 0, none⟩, Int.toNat a0, Int.toNat a0⟩ : Sl).len : Int)), (75, .int .i64 0)]) ?_ (FrLe.cons rfl (FrLe.cons rfl (FrLe.cons rfl (FrLe.cons rfl (FrLe.cons rfl (FrLe.cons rfl (FrLe.nil _)))))))
    refine h (fun x75_77 σ => ARound _ _ _ _ _ _ [(0, .int .i64 a0), (1, Sl.v a1), (7, Sl.v x66_3), (9, Sl.v (⟨some ⟨x72_36, 0, none⟩, Int.toNat a0, Int.toNat a0⟩ : Sl)), (74, .int .i64 ((⟨some ⟨x72_36, 0, none⟩, Int.toNat a0, Int.toNat a0⟩ : Sl).len : Int)), (75, .int .i64 x75_77)] σ) ?_
    rintro x75_77 σ Y76 hY76 h
    show AW _ _ _ _ _ _ _ _
    unfold l76_law23_JudgeStands at h
    refine AW.seq ?_
    refine AW.reg ?_
    refine Lp (V_lss rfl rfl rfl) rfl rfl ?_
    refine Lnil ?_
    refine thenN ?_
    refine AW.seq ?_
    refine AW.iff rfl decide_eq_true_iff h (fun h => ?_) (fun h => ?_)
    rotate_left
    · refine AW.exit ?_
      refine thenE ?_
      refine thenE ?_
      refine blockE ?_
      refine thenN ?_
      exact ⟨(FrLe.cons rfl (FrLe.cons rfl (FrLe.cons rfl (FrLe.cons rfl (FrLe.nil _))))), h⟩
    refine AW.skip ?_
    refine thenN ?_
    refine AW.seq ?_
    refine AW.block ?_
    refine AW.seq ?_
    refine AW.reg ?_
    refine Lp (V_move rfl rfl) rfl rfl ?_
    refine Lp (V_asg rfl rfl) rfl rfl ?_
    refine Lnil ?_
    refine thenN ?_
    refine AW.reg ?_
    refine Lp (V_move rfl rfl) rfl rfl ?_
    refine Lp (V_move rfl rfl) rfl rfl ?_
    obtain ⟨p80_78, ha, h0, h1, h⟩ := h
    refine Lp (V_ixA rfl Try.underlying28 ty4 (ixL rfl ha) rfl h0 h1) rfl rfl ?_
    refine Ls rfl rfl (X_st rfl ty4 rfl rfl rfl rfl (stN_mono h fun σ h => ?_))
    refine Lnil ?_
    refine blockN ?_
    refine thenN ?_
    refine AW.reg ?_
    refine Lp (V_add rfl rfl rfl) rfl rfl ?_
    refine Lp (V_move rfl rfl) rfl rfl ?_
    refine Lnil ?_
    refine thenN ?_
    refine ARound.head (fr' := [(0, .int .i64 a0), (1, Sl.v a1), (7, Sl.v x66_3), (9, Sl.v (⟨some ⟨x72_36, 0, none⟩, Int.toNat a0, Int.toNat a0⟩ : Sl)), (74, .int .i64 ((⟨some ⟨x72_36, 0, none⟩, Int.toNat a0, Int.toNat a0⟩ : Sl).len : Int)), (75, .int .i64 (IntKind.i64.wrap (x75_77 + 1)))]) ?_ (FrLe.cons rfl (FrLe.cons rfl (FrLe.cons rfl (FrLe.cons rfl (FrLe.cons rfl (FrLe.cons rfl (FrLe.nil _)))))))
    exact hY76 _ _ h
  rintro fr σ ⟨hl, h⟩
  refine AW.weaken ?_ hl (HLe.refl _)
  unfold j37_law23_JudgeStands at h
  refine AW.seqJ (fun fr σ => FrLe [(7, Sl.v x66_3), (9, Sl.v (⟨some ⟨x72_36, 0, none⟩, Int.toNat a0, Int.toNat a0⟩ : Sl))] fr ∧ j38_law23_JudgeStands B ro a0 x66_3 x72_36 Q σ) ?_ ?_
  · rintro fr σ ⟨hl, h⟩
    refine AW.weaken ?_ hl (HLe.refl _)
    unfold j38_law23_JudgeStands at h
    refine AW.seqJ (fun fr σ => FrLe [] fr ∧ j39_law23_JudgeStands B ro Q σ) ?_ ?_
    · rintro fr σ ⟨hl, h⟩
      refine AW.weaken ?_ hl (HLe.refl _)
      unfold j39_law23_JudgeStands at h
      refine AW.seq ?_
      refine AW.reg ?_
      refine Lp (V_asg rfl rfl) rfl rfl ?_
      refine Lnil ?_
      refine thenN ?_
      refine AW.ret ?_
      refine thenR ?_
      exact bR1 Try.results3 rfl ⟨_, rfl, h⟩
    refine AW.seq ?_
    refine AW.reg ?_
    refine Lp (V_move rfl rfl) rfl rfl ?_
    refine Lp (V_lenL rfl rfl Try.underlying28 rfl rfl) rfl rfl ?_
    refine Lp (V_move rfl rfl) rfl rfl ?_
    refine Lnil ?_
    refine thenN ?_
    refine AW.block ?_
    refine ARound.loop (fr' := [(7, Sl.v x66_3), (130, Sl.v (⟨some ⟨x72_36, 0, none⟩, Int.toNat a0, Int.toNat a0⟩ : Sl)), (131, .int .i64 ((⟨some ⟨x72_36, 0, none⟩, Int.toNat a0, Int.toNat a0⟩ : Sl).len : Int)), (132, .int .i64 0)]) ?_ (FrLe.cons rfl (FrLe.cons rfl (FrLe.cons rfl (FrLe.cons rfl (FrLe.nil _)))))
    refine h (fun x132_41 σ => ARound _ _ _ _ _ _ [(7, Sl.v x66_3), (130, Sl.v (⟨some ⟨x72_36, 0, none⟩, Int.toNat a0, Int.toNat a0⟩ : Sl)), (131, .int .i64 ((⟨some ⟨x72_36, 0, none⟩, Int.toNat a0, Int.toNat a0⟩ : Sl).len : Int)), (132, .int .i64 x132_41)] σ) ?_
    rintro x132_41 σ Y40 hY40 h
    show AW _ _ _ _ _ _ _ _
    unfold l40_law23_JudgeStands at h
    refine AW.seq ?_
    refine AW.reg ?_
    refine Lp (V_lss rfl rfl rfl) rfl rfl ?_
    refine Lnil ?_
    refine thenN ?_
    refine AW.seq ?_
    refine AW.iff rfl decide_eq_true_iff h (fun h => ?_) (fun h => ?_)
    rotate_left
    · refine AW.exit ?_
      refine thenE ?_
      refine thenE ?_
      refine blockE ?_
      refine thenN ?_
      exact ⟨(FrLe.nil _), h⟩
    refine AW.skip ?_
    refine thenN ?_
    refine AW.seq ?_
    refine AW.block ?_
    refine AW.seq ?_
    refine AW.reg ?_
    obtain ⟨p134_42, ha, h0, h1, h⟩ := h
    refine Lp (V_ixA rfl Try.underlying28 ty4 (ixL rfl ha) rfl h0 h1) rfl rfl ?_
    obtain ⟨x135_43, hc, h⟩ := h
    refine Ls rfl rfl (X_ld rfl Try.underlying4 rfl rfl hc ?_)
    refine Lp (V_asg rfl rfl) rfl rfl ?_
    refine Lnil ?_
    refine thenN ?_
    refine AW.seq ?_
    refine AW.reg ?_
    refine Lp (V_move rfl rfl) rfl rfl ?_
    refine Lnil ?_
    refine thenN ?_
    refine AW.iff rfl Iff.rfl h (fun h => ?_) (fun h => ?_)
    rotate_left
    · refine AW.skip ?_
      refine blockN ?_
      refine thenN ?_
      refine AW.reg ?_
      refine Lp (V_add rfl rfl rfl) rfl rfl ?_
      refine Lp (V_move rfl rfl) rfl rfl ?_
      refine Lnil ?_
      refine thenN ?_
      refine ARound.head (fr' := [(7, Sl.v x66_3), (130, Sl.v (⟨some ⟨x72_36, 0, none⟩, Int.toNat a0, Int.toNat a0⟩ : Sl)), (131, .int .i64 ((⟨some ⟨x72_36, 0, none⟩, Int.toNat a0, Int.toNat a0⟩ : Sl).len : Int)), (132, .int .i64 (IntKind.i64.wrap (x132_41 + 1)))]) ?_ (FrLe.cons rfl (FrLe.cons rfl (FrLe.cons rfl (FrLe.cons rfl (FrLe.nil _)))))
      exact hY40 _ _ h
    refine AW.seq ?_
    refine AW.reg ?_
    refine Lp (V_move rfl rfl) rfl rfl ?_
    refine Lp (V_lenL rfl rfl Try.underlying25 rfl rfl) rfl rfl ?_
    refine Lp (V_eql rfl rfl rfl) rfl rfl ?_
    refine Lp (V_move rfl rfl) rfl rfl ?_
    refine LsplitJ 2 (decide ((x66_3.len : Int) = 0)) decide_eq_true_iff h (fun fr σ => ∃ (x142_45 : Bool), FrLe [(142, .bool x142_45)] fr ∧ j44_law23_JudgeStands B ro Q Y40 x142_45 σ) ?_ ?_ ?_
    · intro h e3 hk3
      refine Lyb rfl rfl rfl rfl e3 (X_call rfl Try.func4 rfl rfl rfl (ACalls.mono h ?_))
      rintro v σ ⟨x141_46, rfl, h⟩
      refine Lp (V_pickT rfl (evb e3) rfl) rfl rfl ?_
      exact hk3 _ _ ⟨_, (FrLe.cons rfl (FrLe.nil _)), h⟩
    · intro h e3 hk3
      refine Ln rfl rfl rfl rfl (.inl (by rw [e3]; rfl)) ?_
      refine Lp (V_pickF rfl (evb e3) rfl) rfl rfl ?_
      exact hk3 _ _ ⟨_, (FrLe.cons rfl (FrLe.nil _)), h⟩
    rintro fr σ ⟨x142_45, hl, h⟩
    unfold j44_law23_JudgeStands at h
    refine Lfr hl ?_
    refine Lp (V_asg rfl rfl) rfl rfl ?_
    refine Lnil ?_
    refine thenN ?_
    refine AW.ret ?_
    refine blockR ?_
    refine thenR ?_
    refine thenR ?_
    refine blockR ?_
    refine thenR ?_
    refine thenR ?_
    exact bR1 Try.results3 rfl ⟨_, rfl, h⟩
  refine AW.seq ?_
  refine AW.reg ?_
  refine Lp (V_move rfl rfl) rfl rfl ?_
  refine Lp (V_move rfl rfl) rfl rfl ?_
  refine Lnil ?_
  refine thenN ?_
  refine AW.block ?_
  refine ARound.loop (fr' := [(0, .int .i64 a0), (1, Sl.v a1), (7, Sl.v x66_3), (9, Sl.v (⟨some ⟨x72_36, 0, none⟩, Int.toNat a0, Int.toNat a0⟩ : Sl)), (82, .int .i64 a0), (83, .int .i64 0)]) ?_ (FrLe.cons rfl (FrLe.cons rfl (FrLe.cons rfl (FrLe.cons rfl (FrLe.cons rfl (FrLe.cons rfl (FrLe.nil _)))))))
  refine h (fun x83_48 σ => ARound _ _ _ _ _ _ [(0, .int .i64 a0), (1, Sl.v a1), (7, Sl.v x66_3), (9, Sl.v (⟨some ⟨x72_36, 0, none⟩, Int.toNat a0, Int.toNat a0⟩ : Sl)), (82, .int .i64 a0), (83, .int .i64 x83_48)] σ) ?_
  rintro x83_48 σ Y47 hY47 h
  show AW _ _ _ _ _ _ _ _
  unfold l47_law23_JudgeStands at h
  refine AW.seq ?_
  refine AW.reg ?_
  refine Lp (V_lss rfl rfl rfl) rfl rfl ?_
  refine Lnil ?_
  refine thenN ?_
  refine AW.seq ?_
  refine AW.iff rfl decide_eq_true_iff h (fun h => ?_) (fun h => ?_)
  rotate_left
  · refine AW.exit ?_
    refine thenE ?_
    refine thenE ?_
    refine blockE ?_
    refine thenN ?_
    exact ⟨(FrLe.cons rfl (FrLe.cons rfl (FrLe.nil _))), h⟩
  refine AW.skip ?_
  refine thenN ?_
  refine AW.seqJ (fun fr σ => FrLe [(0, .int .i64 a0), (1, Sl.v a1), (7, Sl.v x66_3), (9, Sl.v (⟨some ⟨x72_36, 0, none⟩, Int.toNat a0, Int.toNat a0⟩ : Sl)), (82, .int .i64 a0), (83, .int .i64 x83_48)] fr ∧ j49_law23_JudgeStands B ro a0 a1 x66_3 x72_36 x83_48 Q Y47 σ) ?_ ?_
  · rintro fr σ ⟨hl, h⟩
    refine AW.weaken ?_ hl (HLe.refl _)
    unfold j49_law23_JudgeStands at h
    refine AW.reg ?_
    refine Lp (V_add rfl rfl rfl) rfl rfl ?_
    refine Lp (V_move rfl rfl) rfl rfl ?_
    refine Lnil ?_
    refine thenN ?_
    refine ARound.head (fr' := [(0, .int .i64 a0), (1, Sl.v a1), (7, Sl.v x66_3), (9, Sl.v (⟨some ⟨x72_36, 0, none⟩, Int.toNat a0, Int.toNat a0⟩ : Sl)), (82, .int .i64 a0), (83, .int .i64 (IntKind.i64.wrap (x83_48 + 1)))]) ?_ (FrLe.cons rfl (FrLe.cons rfl (FrLe.cons rfl (FrLe.cons rfl (FrLe.cons rfl (FrLe.cons rfl (FrLe.nil _)))))))
    exact hY47 _ _ h
  refine AW.block ?_
  refine AW.seq ?_
  refine AW.reg ?_
  refine Lp (V_move rfl rfl) rfl rfl ?_
  obtain ⟨⟨h0, h1, h2, h3⟩, h⟩ := h
  refine Ls rfl rfl (X_new (A_mks rfl Try.underlying28 ty4 rfl rfl h0 h1 h2 h3) fun x86_50 g1 g2 => ?_)
  replace h := h x86_50 g1 g2
  refine Lp (V_asg rfl rfl) rfl rfl ?_
  refine Lnil ?_
  refine thenN ?_
  refine AW.seqJ (fun fr σ => FrLe [(0, .int .i64 a0), (1, Sl.v a1), (7, Sl.v x66_3), (9, Sl.v (⟨some ⟨x72_36, 0, none⟩, Int.toNat a0, Int.toNat a0⟩ : Sl)), (11, Sl.v (⟨some ⟨x86_50, 0, none⟩, Int.toNat a0, Int.toNat a0⟩ : Sl)), (82, .int .i64 a0), (83, .int .i64 x83_48)] fr ∧ j51_law23_JudgeStands B ro a0 a1 x66_3 x72_36 x83_48 x86_50 Q Y47 σ) ?_ ?_
  · rintro fr σ ⟨hl, h⟩
    refine AW.weaken ?_ hl (HLe.refl _)
    unfold j51_law23_JudgeStands at h
    refine AW.seq ?_
    refine AW.reg ?_
    refine Lp (V_move rfl rfl) rfl rfl ?_
    refine Lp (V_lenL rfl rfl Try.underlying28 rfl rfl) rfl rfl ?_
    refine Lp (V_move rfl rfl) rfl rfl ?_
    refine Lnil ?_
    refine thenN ?_
    refine AW.block ?_
    refine ARound.loop (fr' := [(0, .int .i64 a0), (1, Sl.v a1), (7, Sl.v x66_3), (9, Sl.v (⟨some ⟨x72_36, 0, none⟩, Int.toNat a0, Int.toNat a0⟩ : Sl)), (11, Sl.v (⟨some ⟨x86_50, 0, none⟩, Int.toNat a0, Int.toNat a0⟩ : Sl)), (82, .int .i64 a0), (83, .int .i64 x83_48), (111, .int .i64 ((⟨some ⟨x72_36, 0, none⟩, Int.toNat a0, Int.toNat a0⟩ : Sl).len : Int)), (112, .int .i64 0)]) ?_ (FrLe.cons rfl (FrLe.cons rfl (FrLe.cons rfl (FrLe.cons rfl (FrLe.cons rfl (FrLe.cons rfl (FrLe.cons rfl (FrLe.cons rfl (FrLe.cons rfl (FrLe.nil _))))))))))
    refine h (fun x112_53 σ => ARound _ _ _ _ _ _ [(0, .int .i64 a0), (1, Sl.v a1), (7, Sl.v x66_3), (9, Sl.v (⟨some ⟨x72_36, 0, none⟩, Int.toNat a0, Int.toNat a0⟩ : Sl)), (11, Sl.v (⟨some ⟨x86_50, 0, none⟩, Int.toNat a0, Int.toNat a0⟩ : Sl)), (82, .int .i64 a0), (83, .int .i64 x83_48), (111, .int .i64 ((⟨some ⟨x72_36, 0, none⟩, Int.toNat a0, Int.toNat a0⟩ : Sl).len : Int)), (112, .int .i64 x112_53)] σ) ?_
    rintro x112_53 σ Y52 hY52 h
    show AW _ _ _ _ _ _ _ _
    unfold l52_law23_JudgeStands at h
    refine AW.seq ?_
    refine AW.reg ?_
    refine Lp (V_lss rfl rfl rfl) rfl rfl ?_
    refine Lnil ?_
    refine thenN ?_
    refine AW.seq ?_
    refine AW.iff rfl decide_eq_true_iff h (fun h => ?_) (fun h => ?_)
    rotate_left
    · refine AW.exit ?_
      refine thenE ?_
      refine thenE ?_
      refine blockE ?_
      refine blockN ?_
      refine thenN ?_
      exact ⟨(FrLe.cons rfl (FrLe.cons rfl (FrLe.cons rfl (FrLe.cons rfl (FrLe.cons rfl (FrLe.cons rfl (FrLe.nil _))))))), h⟩
    refine AW.skip ?_
    refine thenN ?_
    refine AW.seq ?_
    refine AW.block ?_
    refine AW.seq ?_
    refine AW.reg ?_
    refine Lp (V_move rfl rfl) rfl rfl ?_
    refine Lp (V_asg rfl rfl) rfl rfl ?_
    refine Lnil ?_
    refine thenN ?_
    refine AW.reg ?_
    refine Lp (V_move rfl rfl) rfl rfl ?_
    refine Lp (V_move rfl rfl) rfl rfl ?_
    refine Lp (V_move rfl rfl) rfl rfl ?_
    refine Lp (V_move rfl rfl) rfl rfl ?_
    obtain ⟨p119_54, ha, h0, h1, h⟩ := h
    refine Lp (V_ixA rfl Try.underlying28 ty4 (ixL rfl ha) rfl h0 h1) rfl rfl ?_
    obtain ⟨x120_55, hc, h⟩ := h
    refine Ls rfl rfl (X_ld rfl Try.underlying4 rfl rfl hc ?_)
    refine Lp (V_move rfl rfl) rfl rfl ?_
    refine LsplitJ 5 x120_55 Iff.rfl h (fun fr σ => ∃ (x126_57 : Bool), FrLe [(0, .int .i64 a0), (1, Sl.v a1), (7, Sl.v x66_3), (9, Sl.v (⟨some ⟨x72_36, 0, none⟩, Int.toNat a0, Int.toNat a0⟩ : Sl)), (11, Sl.v (⟨some ⟨x86_50, 0, none⟩, Int.toNat a0, Int.toNat a0⟩ : Sl)), (82, .int .i64 a0), (83, .int .i64 x83_48), (111, .int .i64 ((⟨some ⟨x72_36, 0, none⟩, Int.toNat a0, Int.toNat a0⟩ : Sl).len : Int)), (112, .int .i64 x112_53), (115, Sl.v (⟨some ⟨x72_36, 0, none⟩, Int.toNat a0, Int.toNat a0⟩ : Sl)), (116, .int .i64 x112_53), (126, .bool x126_57)] fr ∧ j56_law23_JudgeStands B ro a0 a1 x66_3 x72_36 x83_48 x86_50 x112_53 Q Y47 Y52 x126_57 σ) ?_ ?_ ?_
    · intro h e6 hk6
      refine Lypb (V_move rfl rfl) rfl rfl rfl rfl e6 ?_
      refine Lypb (V_move rfl rfl) rfl rfl rfl rfl e6 ?_
      obtain ⟨p124_59, ha, h0, h1, h⟩ := h
      refine Lypb (V_ixA rfl Try.underlying28 ty4 (ixL rfl ha) rfl h0 h1) rfl rfl rfl rfl e6 ?_
      obtain ⟨x125_60, hc, h⟩ := h
      refine Lyb rfl rfl rfl rfl e6 (X_ld rfl Try.underlying4 rfl rfl hc ?_)
      refine Lp (V_pickT rfl (evb e6) rfl) rfl rfl ?_
      exact hk6 _ _ ⟨_, (FrLe.cons rfl (FrLe.cons rfl (FrLe.cons rfl (FrLe.cons rfl (FrLe.cons rfl (FrLe.cons rfl (FrLe.cons rfl (FrLe.cons rfl (FrLe.cons rfl (FrLe.cons rfl (FrLe.cons rfl (FrLe.cons rfl (FrLe.nil _))))))))))))), h⟩
    · intro h e6 hk6
      refine Ln rfl rfl rfl rfl (.inl (by rw [e6]; rfl)) ?_
      refine Ln rfl rfl rfl rfl (.inl (by rw [e6]; rfl)) ?_
      refine Ln rfl rfl rfl rfl (.inl (by rw [e6]; rfl)) ?_
      refine Ln rfl rfl rfl rfl (.inl (by rw [e6]; rfl)) ?_
      refine Lp (V_pickF rfl (evb e6) rfl) rfl rfl ?_
      exact hk6 _ _ ⟨_, (FrLe.cons rfl (FrLe.cons rfl (FrLe.cons rfl (FrLe.cons rfl (FrLe.cons rfl (FrLe.cons rfl (FrLe.cons rfl (FrLe.cons rfl (FrLe.cons rfl (FrLe.cons rfl (FrLe.cons rfl (FrLe.cons rfl (FrLe.nil _))))))))))))), h⟩
    rintro fr σ ⟨x126_57, hl, h⟩
    unfold j56_law23_JudgeStands at h
    refine Lfr hl ?_
    obtain ⟨p127_58, ha, h0, h1, h⟩ := h
    refine Lp (V_ixA rfl Try.underlying28 ty4 (ixL rfl ha) rfl h0 h1) rfl rfl ?_
    refine Ls rfl rfl (X_st rfl ty4 rfl rfl rfl rfl (stN_mono h fun σ h => ?_))
    refine Lnil ?_
    refine blockN ?_
    refine thenN ?_
    refine AW.reg ?_
    refine Lp (V_add rfl rfl rfl) rfl rfl ?_
    refine Lp (V_move rfl rfl) rfl rfl ?_
    refine Lnil ?_
    refine thenN ?_
    refine ARound.head (fr' := [(0, .int .i64 a0), (1, Sl.v a1), (7, Sl.v x66_3), (9, Sl.v (⟨some ⟨x72_36, 0, none⟩, Int.toNat a0, Int.toNat a0⟩ : Sl)), (11, Sl.v (⟨some ⟨x86_50, 0, none⟩, Int.toNat a0, Int.toNat a0⟩ : Sl)), (82, .int .i64 a0), (83, .int .i64 x83_48), (111, .int .i64 ((⟨some ⟨x72_36, 0, none⟩, Int.toNat a0, Int.toNat a0⟩ : Sl).len : Int)), (112, .int .i64 (IntKind.i64.wrap (x112_53 + 1)))]) ?_ (FrLe.cons rfl (FrLe.cons rfl (FrLe.cons rfl (FrLe.cons rfl (FrLe.cons rfl (FrLe.cons rfl (FrLe.cons rfl (FrLe.cons rfl (FrLe.cons rfl (FrLe.nil _))))))))))
    exact hY52 _ _ h
  refine AW.seq ?_
  refine AW.reg ?_
  refine Lp (V_move rfl rfl) rfl rfl ?_
  refine Lp (V_lenL rfl rfl Try.underlying22 rfl rfl) rfl rfl ?_
  refine Lp (V_move rfl rfl) rfl rfl ?_
  refine Lnil ?_
  refine thenN ?_
  refine AW.block ?_
  refine ARound.loop (fr' := [(0, .int .i64 a0), (1, Sl.v a1), (7, Sl.v x66_3), (9, Sl.v (⟨some ⟨x72_36, 0, none⟩, Int.toNat a0, Int.toNat a0⟩ : Sl)), (11, Sl.v (⟨some ⟨x86_50, 0, none⟩, Int.toNat a0, Int.toNat a0⟩ : Sl)), (82, .int .i64 a0), (83, .int .i64 x83_48), (87, Sl.v a1), (88, .int .i64 (a1.len : Int)), (89, .int .i64 0)]) ?_ (FrLe.cons rfl (FrLe.cons rfl (FrLe.cons rfl (FrLe.cons rfl (FrLe.cons rfl (FrLe.cons rfl (FrLe.cons rfl (FrLe.cons rfl (FrLe.cons rfl (FrLe.cons rfl (FrLe.nil _)))))))))))
  refine h (fun x89_62 σ => ARound _ _ _ _ _ _ [(0, .int .i64 a0), (1, Sl.v a1), (7, Sl.v x66_3), (9, Sl.v (⟨some ⟨x72_36, 0, none⟩, Int.toNat a0, Int.toNat a0⟩ : Sl)), (11, Sl.v (⟨some ⟨x86_50, 0, none⟩, Int.toNat a0, Int.toNat a0⟩ : Sl)), (82, .int .i64 a0), (83, .int .i64 x83_48), (87, Sl.v a1), (88, .int .i64 (a1.len : Int)), (89, .int .i64 x89_62)] σ) ?_
  rintro x89_62 σ Y61 hY61 h
  show AW _ _ _ _ _ _ _ _
  unfold l61_law23_JudgeStands at h
  refine AW.seq ?_
  refine AW.reg ?_
  refine Lp (V_lss rfl rfl rfl) rfl rfl ?_
  refine Lnil ?_
  refine thenN ?_
  refine AW.seq ?_
  refine AW.iff rfl decide_eq_true_iff h (fun h => ?_) (fun h => ?_)
  rotate_left
  · refine AW.exit ?_
    refine thenE ?_
    refine thenE ?_
    refine blockE ?_
    refine thenN ?_
    exact ⟨(FrLe.cons rfl (FrLe.cons rfl (FrLe.cons rfl (FrLe.cons rfl (FrLe.cons rfl (FrLe.cons rfl (FrLe.cons rfl (FrLe.nil _)))))))), h⟩
  refine AW.skip ?_
  refine thenN ?_
  refine AW.seqJ (fun fr σ => FrLe [(0, .int .i64 a0), (1, Sl.v a1), (7, Sl.v x66_3), (9, Sl.v (⟨some ⟨x72_36, 0, none⟩, Int.toNat a0, Int.toNat a0⟩ : Sl)), (11, Sl.v (⟨some ⟨x86_50, 0, none⟩, Int.toNat a0, Int.toNat a0⟩ : Sl)), (82, .int .i64 a0), (83, .int .i64 x83_48), (87, Sl.v a1), (88, .int .i64 (a1.len : Int)), (89, .int .i64 x89_62)] fr ∧ j63_law23_JudgeStands B ro a0 a1 x66_3 x72_36 x83_48 x86_50 x89_62 Q Y47 Y61 σ) ?_ ?_
  · rintro fr σ ⟨hl, h⟩
    refine AW.weaken ?_ hl (HLe.refl _)
    unfold j63_law23_JudgeStands at h
    refine AW.reg ?_
    refine Lp (V_add rfl rfl rfl) rfl rfl ?_
    refine Lp (V_move rfl rfl) rfl rfl ?_
    refine Lnil ?_
    refine thenN ?_
    refine ARound.head (fr' := [(0, .int .i64 a0), (1, Sl.v a1), (7, Sl.v x66_3), (9, Sl.v (⟨some ⟨x72_36, 0, none⟩, Int.toNat a0, Int.toNat a0⟩ : Sl)), (11, Sl.v (⟨some ⟨x86_50, 0, none⟩, Int.toNat a0, Int.toNat a0⟩ : Sl)), (82, .int .i64 a0), (83, .int .i64 x83_48), (87, Sl.v a1), (88, .int .i64 (a1.len : Int)), (89, .int .i64 (IntKind.i64.wrap (x89_62 + 1)))]) ?_ (FrLe.cons rfl (FrLe.cons rfl (FrLe.cons rfl (FrLe.cons rfl (FrLe.cons rfl (FrLe.cons rfl (FrLe.cons rfl (FrLe.cons rfl (FrLe.cons rfl (FrLe.cons rfl (FrLe.nil _)))))))))))
    exact hY61 _ _ h
  refine AW.block ?_
  refine AW.seq ?_
  refine AW.reg ?_
  obtain ⟨p91_64, ha, h0, h1, h⟩ := h
  refine Lp (V_ixA rfl Try.underlying22 ty24 (ixL rfl ha) rfl h0 h1) rfl rfl ?_
  obtain ⟨x92_65a, x92_65b, hc, h⟩ := h
  refine Ls rfl rfl (X_lda rfl Try.underlying24 rfl ty24 rfl hc ?_)
  refine Ls rfl rfl (X_new (A_alloc rfl ty24) fun x13_66 g1 g2 => ?_)
  replace h := h x13_66 g1 g2
  refine Ls rfl rfl (X_st rfl ty24 rfl rfl rfl rfl (stN_mono h fun σ h => ?_))
  refine Lnil ?_
  refine thenN ?_
  refine AW.drawn0 (fun i => ([0, 0, 3, 0, 0, 3, 0, 3, 0, 0, 0, 3, 0, 3, 0, 0, 2] : List Nat).getD i 2) [] [0, 1, 3, 4, 2, 5, 6, 7, 8, 9, 10, 11, 12, 13, 14, 15, 16] Try.mixed (by decide +kernel) ?_
  refine Dp rfl rfl rfl rfl (V_move rfl rfl) ?_
  refine Dp rfl rfl rfl rfl (V_ixP rfl Try.underlying24 ty3 rfl rfl (by decide) (by decide)) ?_
  refine Dp rfl rfl rfl rfl (V_move rfl rfl) ?_
  refine Dp rfl rfl rfl rfl (V_ixP rfl Try.underlying24 ty3 rfl rfl (by decide) (by decide)) ?_
  obtain ⟨x95_67, hc, h⟩ := h
  refine Dr rfl rfl rfl rfl (R_ld rfl Try.underlying3 rfl rfl hc) ?_
  obtain ⟨x98_68, hc, h⟩ := h
  refine Dr rfl rfl rfl rfl (R_ld rfl Try.underlying3 rfl rfl hc) ?_
  obtain ⟨p99_69, ha, h0, h1, h⟩ := h
  refine Dp rfl rfl rfl rfl (V_ixA rfl Try.underlying28 ty4 (ixL rfl ha) rfl h0 h1) ?_
  obtain ⟨x100_70, hc, h⟩ := h
  refine Dr rfl rfl rfl rfl (R_ld rfl Try.underlying4 rfl rfl hc) ?_
  refine Dp rfl rfl rfl rfl (V_move rfl rfl) ?_
  refine splitP x100_70 Iff.rfl h ?_ ?_
  · intro h e8
    refine Dpn rfl rfl rfl rfl rfl (.inl (by rw [e8]; rfl)) rfl ?_
    refine Dpn rfl rfl rfl rfl rfl (.inl (by rw [e8]; rfl)) rfl ?_
    refine Drn rfl rfl rfl rfl rfl (.inl (by rw [e8]; rfl)) rfl ?_
    refine Dpn rfl rfl rfl rfl rfl (.inl (by rw [e8]; rfl)) rfl ?_
    refine Drn rfl rfl rfl rfl rfl (.inl (by rw [e8]; rfl)) rfl ?_
    refine Dp rfl rfl rfl rfl (V_pickT rfl (evb e8) rfl) ?_
    obtain ⟨p108_71, ha, h0, h1, h⟩ := h
    refine Dp rfl rfl rfl rfl (V_ixA rfl Try.underlying28 ty4 (ixL rfl ha) rfl h0 h1) ?_
    refine Dg rfl rfl rfl rfl (X_st rfl ty4 rfl rfl rfl rfl (stN_mono h fun σ h => ?_))
    refine Dend ?_
    refine blockN ?_
    refine thenN ?_
    exact ⟨(FrLe.cons rfl (FrLe.cons rfl (FrLe.cons rfl (FrLe.cons rfl (FrLe.cons rfl (FrLe.cons rfl (FrLe.cons rfl (FrLe.cons rfl (FrLe.cons rfl (FrLe.cons rfl (FrLe.nil _))))))))))), h⟩
  intro h e8
  refine Dpy rfl rfl rfl rfl rfl e8 rfl (V_move rfl rfl) ?_
  refine Dpy rfl rfl rfl rfl rfl e8 rfl (V_ixP rfl Try.underlying24 ty3 rfl rfl (by decide) (by decide)) ?_
  obtain ⟨x104_72, hc, h⟩ := h
  refine Dry rfl rfl rfl rfl rfl e8 rfl (R_ld rfl Try.underlying3 rfl rfl hc) ?_
  obtain ⟨p105_73, ha, h0, h1, h⟩ := h
  refine Dpy rfl rfl rfl rfl rfl e8 rfl (V_ixA rfl Try.underlying28 ty4 (ixL rfl ha) rfl h0 h1) ?_
  obtain ⟨x106_74, hc, h⟩ := h
  refine Dry rfl rfl rfl rfl rfl e8 rfl (R_ld rfl Try.underlying4 rfl rfl hc) ?_
  refine Dp rfl rfl rfl rfl (V_pickF rfl (evb e8) rfl) ?_
  obtain ⟨p108_75, ha, h0, h1, h⟩ := h
  refine Dp rfl rfl rfl rfl (V_ixA rfl Try.underlying28 ty4 (ixL rfl ha) rfl h0 h1) ?_
  refine Dg rfl rfl rfl rfl (X_st rfl ty4 rfl rfl rfl rfl (stN_mono h fun σ h => ?_))
  refine Dend ?_
  refine blockN ?_
  refine thenN ?_
  exact ⟨(FrLe.cons rfl (FrLe.cons rfl (FrLe.cons rfl (FrLe.cons rfl (FrLe.cons rfl (FrLe.cons rfl (FrLe.cons rfl (FrLe.cons rfl (FrLe.cons rfl (FrLe.cons rfl (FrLe.nil _))))))))))), h⟩

def j4_law23_awake (B : World) (ro : AH) (Q : Bool → AH → Prop) (x14_5 : Bool) (σ : AH) : Prop :=
 Q x14_5 σ

def f_law23_awake (B : World) (ro : AH) (σ : AH) (Q : Bool → AH → Prop) : Prop :=
 nw ro σ (.cells #[.int .i64 2, .int .i64 0] 24) fun x5_1 σ =>
 c_judge_Arrange B ro 3 (⟨some ⟨x5_1, 0, none⟩, 1, 1⟩ : Sl) σ fun x6_2 x6_3 σ =>
 if x6_3 = true then
  nw ro σ (.cells #[.int .i64 1, .int .i64 2, .int .i64 0] 3) fun x12_6 σ =>
  c_ref01_SameInts B ro x6_2 (⟨some ⟨x12_6, 0, none⟩, 3, 3⟩ : Sl) σ fun x13_7 σ =>
  j4_law23_awake B ro Q x13_7 σ
 else
 j4_law23_awake B ro Q false σ

set_option maxRecDepth 100000 in
set_option maxHeartbeats 4000000 in
theorem law23_awake_ok {B : World} {ro : AH} {σ : AH} {Q : Bool → AH → Prop} (h : Sep ro σ → f_law23_awake B ro σ Q) : c_law23_awake B ro σ Q := by
  refine ACalls.of_sep fun hsep => ?_
  replace h := h hsep
  refine ACalls.of_body (args := []) Try.func4 rfl (by rw [Try.ntmps4]; simp) ?_
  rw [Try.ntmps4]
  unfold f_law23_awake at h
  refine AW.seq ?_
  refine AW.reg ?_
  refine Lp (V_asg rfl rfl) rfl rfl ?_
  refine Lnil ?_
  refine thenN ?_
  refine AW.seq ?_
  refine AW.reg ?_
  refine Lp (V_bldA (vs := [(0, .int .i64 2), (1, .int .i64 0)]) (cs := #[.int .i64 2, .int .i64 0]) rfl Try.underlying24 ty24 ty3 rfl rfl) rfl rfl ?_
  refine Ls rfl rfl (X_new (A_bsl (vs := [(0, .agg #[.int .i64 2, .int .i64 0])]) (cs := #[.int .i64 2, .int .i64 0]) rfl Try.underlying22 ty24 (by decide) rfl rfl) fun x5_1 g1 g2 => ?_)
  replace h := h x5_1 g1 g2
  refine Ls rfl rfl (X_call rfl Try.func5 rfl rfl rfl (ACalls.mono h ?_))
  rintro v σ ⟨x6_2, x6_3, rfl, h⟩
  refine Lp (V_move rfl rfl) rfl rfl ?_
  refine Lp (V_ext rfl rfl rfl) rfl rfl ?_
  refine Lp (V_ext rfl rfl rfl) rfl rfl ?_
  refine Lp (V_asg rfl rfl) rfl rfl ?_
  refine Lp (V_asg rfl rfl) rfl rfl ?_
  refine Lnil ?_
  refine thenN ?_
  refine AW.seq ?_
  refine AW.reg ?_
  refine Lp (V_move rfl rfl) rfl rfl ?_
  refine Lp (V_move rfl rfl) rfl rfl ?_
  refine LsplitJ 4 x6_3 Iff.rfl h (fun fr σ => ∃ (x14_5 : Bool), FrLe [(14, .bool x14_5)] fr ∧ j4_law23_awake B ro Q x14_5 σ) ?_ ?_ ?_
  · intro h e1 hk1
    refine Lypb (V_move rfl rfl) rfl rfl rfl rfl e1 ?_
    refine Lyb rfl rfl rfl rfl e1 (X_new (A_bsl (vs := [(0, .int .i64 1), (1, .int .i64 2), (2, .int .i64 0)]) (cs := #[.int .i64 1, .int .i64 2, .int .i64 0]) rfl Try.underlying25 ty3 (by decide) rfl rfl) fun x12_6 g1 g2 => ?_)
    replace h := h x12_6 g1 g2
    refine Lyb rfl rfl rfl rfl e1 (X_call rfl Try.func6 rfl rfl rfl (ACalls.mono h ?_))
    rintro v σ ⟨x13_7, rfl, h⟩
    refine Lp (V_pickT rfl (evb e1) rfl) rfl rfl ?_
    exact hk1 _ _ ⟨_, (FrLe.cons rfl (FrLe.nil _)), h⟩
  · intro h e1 hk1
    refine Ln rfl rfl rfl rfl (.inl (by rw [e1]; rfl)) ?_
    refine Ln rfl rfl rfl rfl (.inl (by rw [e1]; rfl)) ?_
    refine Ln rfl rfl rfl rfl (.inl (by rw [e1]; rfl)) ?_
    refine Lp (V_pickF rfl (evb e1) rfl) rfl rfl ?_
    exact hk1 _ _ ⟨_, (FrLe.cons rfl (FrLe.nil _)), h⟩
  rintro fr σ ⟨x14_5, hl, h⟩
  unfold j4_law23_awake at h
  refine Lfr hl ?_
  refine Lp (V_asg rfl rfl) rfl rfl ?_
  refine Lnil ?_
  refine thenN ?_
  refine AW.ret ?_
  exact bR1 Try.results4 rfl ⟨_, rfl, h⟩

def j6_judge_Arrange (B : World) (ro : AH) (a0 : Int) (Q : Sl → Bool → AH → Prop) (x12_7 : Sl) (σ : AH) : Prop :=
 if (x12_7.len : Int) < a0 then
  Q (⟨none, 0, 0⟩ : Sl) false σ
 else
 Q x12_7 true σ

def j20_judge_Arrange (B : World) (ro : AH) (a0 : Int) (x23_1 : Nat) (x25_2 : Nat) (x69_4 : Nat) (x98_15 : Sl) (x102_17 : Sl) (x104_19 : Int) (Q : Sl → Bool → AH → Prop) (Y8 : (Sl) → AH → Prop) (Y18 : (Int) → AH → Prop) (σ : AH) : Prop :=
 Y18 (IntKind.i64.wrap (x104_19 + 1)) σ

def l18_judge_Arrange (B : World) (ro : AH) (a0 : Int) (x23_1 : Nat) (x25_2 : Nat) (x69_4 : Nat) (x98_15 : Sl) (x102_17 : Sl) (Q : Sl → Bool → AH → Prop) (Y8 : (Sl) → AH → Prop) : (Int) → AH → ((Int) → AH → Prop) → Prop := fun x104_19 σ Y18 =>
 if x104_19 < (x102_17.len : Int) then
  ∃ p106_21 : Addr, x102_17.a = some p106_21 ∧ (0 : Int) ≤ x104_19 ∧ x104_19 < (x102_17.len : Int) ∧
  ∃ (x107_22 : Int), acell ro σ (p106_21.add (Int.toNat x104_19 * 1)) = some (.int .i64 x107_22) ∧
  ∃ p110_23 : Addr, (⟨some ⟨x25_2, 0, none⟩, Int.toNat a0, Int.toNat a0⟩ : Sl).a = some p110_23 ∧ (0 : Int) ≤ x107_22 ∧ x107_22 < ((⟨some ⟨x25_2, 0, none⟩, Int.toNat a0, Int.toNat a0⟩ : Sl).len : Int) ∧
  ∃ (x111_24 : Int), acell ro σ (p110_23.add (Int.toNat x107_22 * 1)) = some (.int .i64 x111_24) ∧
  ∃ p113_25 : Addr, (⟨some ⟨x25_2, 0, none⟩, Int.toNat a0, Int.toNat a0⟩ : Sl).a = some p113_25 ∧ (0 : Int) ≤ x107_22 ∧ x107_22 < ((⟨some ⟨x25_2, 0, none⟩, Int.toNat a0, Int.toNat a0⟩ : Sl).len : Int) ∧
  stN (p113_25.add (Int.toNat x107_22 * 1)) (fun σ =>
   ∃ p116_26 : Addr, (⟨some ⟨x25_2, 0, none⟩, Int.toNat a0, Int.toNat a0⟩ : Sl).a = some p116_26 ∧ (0 : Int) ≤ x107_22 ∧ x107_22 < ((⟨some ⟨x25_2, 0, none⟩, Int.toNat a0, Int.toNat a0⟩ : Sl).len : Int) ∧
   ∃ (x117_27 : Int), acell ro σ (p116_26.add (Int.toNat x107_22 * 1)) = some (.int .i64 x117_27) ∧
   if x117_27 = 0 then
    c_heap_Push B ro (.iface 32 (.pointer (some ⟨x69_4, 0, none⟩))) (.iface 3 (.int .i64 x107_22)) σ fun σ =>
    j20_judge_Arrange B ro a0 x23_1 x25_2 x69_4 x98_15 x102_17 x104_19 Q Y8 Y18 σ
   else
   j20_judge_Arrange B ro a0 x23_1 x25_2 x69_4 x98_15 x102_17 x104_19 Q Y8 Y18 σ) [.int .i64 (IntKind.i64.wrap (x111_24 - 1))] 0 σ
 else
 Y8 (x98_15) σ

def l8_judge_Arrange (B : World) (ro : AH) (a0 : Int) (x23_1 : Nat) (x25_2 : Nat) (x69_4 : Nat) (Q : Sl → Bool → AH → Prop) : (Sl) → AH → ((Sl) → AH → Prop) → Prop := fun x12_9 σ Y8 =>
 ∃ (x88_10 : Sl), acell ro σ ⟨x69_4, 0, none⟩ = some (Sl.v x88_10) ∧
 c_sort_IntSlice_Len B ro x88_10 σ fun x89_11 σ =>
 if 0 < x89_11 then
  c_heap_Pop B ro (.iface 32 (.pointer (some ⟨x69_4, 0, none⟩))) σ fun x93_12 σ =>
  ∃ (x94_13 : Int), x93_12 = .iface 3 (.int .i64 x94_13) ∧
  nw ro σ (.cells #[.int .i64 x94_13] 3) fun x97_14 σ =>
  awp Try.prog ro (Builtin.append_ #[25, 25] 25 #[Sl.v x12_9, Sl.v (⟨some ⟨x97_14, 0, none⟩, 1, 1⟩ : Sl)]) (fun v σ => ∃ (x98_15 : Sl), v = Sl.v x98_15 ∧
   ∃ p101_16 : Addr, (⟨some ⟨x23_1, 0, none⟩, Int.toNat a0, Int.toNat a0⟩ : Sl).a = some p101_16 ∧ (0 : Int) ≤ x94_13 ∧ x94_13 < ((⟨some ⟨x23_1, 0, none⟩, Int.toNat a0, Int.toNat a0⟩ : Sl).len : Int) ∧
   ∃ (x102_17 : Sl), acell ro σ (p101_16.add (Int.toNat x94_13 * 1)) = some (Sl.v x102_17) ∧
   lfpD (l18_judge_Arrange B ro a0 x23_1 x25_2 x69_4 x98_15 x102_17 Q Y8 ) (0) σ) σ
 else
 j6_judge_Arrange B ro a0 Q x12_9 σ

def j5_judge_Arrange (B : World) (ro : AH) (a0 : Int) (x23_1 : Nat) (x25_2 : Nat) (x69_4 : Nat) (Q : Sl → Bool → AH → Prop) (σ : AH) : Prop :=
 lfpD (l8_judge_Arrange B ro a0 x23_1 x25_2 x69_4 Q ) ((⟨none, 0, 0⟩ : Sl)) σ

def j30_judge_Arrange (B : World) (ro : AH) (a0 : Int) (x23_1 : Nat) (x25_2 : Nat) (x69_4 : Nat) (x71_29 : Int) (Q : Sl → Bool → AH → Prop) (Y28 : (Int) → AH → Prop) (σ : AH) : Prop :=
 Y28 (IntKind.i64.wrap (x71_29 + 1)) σ

def l28_judge_Arrange (B : World) (ro : AH) (a0 : Int) (x23_1 : Nat) (x25_2 : Nat) (x69_4 : Nat) (Q : Sl → Bool → AH → Prop) : (Int) → AH → ((Int) → AH → Prop) → Prop := fun x71_29 σ Y28 =>
 if x71_29 < a0 then
  ∃ p76_31 : Addr, (⟨some ⟨x25_2, 0, none⟩, Int.toNat a0, Int.toNat a0⟩ : Sl).a = some p76_31 ∧ (0 : Int) ≤ x71_29 ∧ x71_29 < ((⟨some ⟨x25_2, 0, none⟩, Int.toNat a0, Int.toNat a0⟩ : Sl).len : Int) ∧
  ∃ (x77_32 : Int), acell ro σ (p76_31.add (Int.toNat x71_29 * 1)) = some (.int .i64 x77_32) ∧
  if x77_32 = 0 then
   c_heap_Push B ro (.iface 32 (.pointer (some ⟨x69_4, 0, none⟩))) (.iface 3 (.int .i64 x71_29)) σ fun σ =>
   j30_judge_Arrange B ro a0 x23_1 x25_2 x69_4 x71_29 Q Y28 σ
  else
  j30_judge_Arrange B ro a0 x23_1 x25_2 x69_4 x71_29 Q Y28 σ
 else
 j5_judge_Arrange B ro a0 x23_1 x25_2 x69_4 Q σ

def j3_judge_Arrange (B : World) (ro : AH) (a0 : Int) (x23_1 : Nat) (x25_2 : Nat) (Q : Sl → Bool → AH → Prop) (σ : AH) : Prop :=
 nw ro σ (.cells #[Sl.v (⟨none, 0, 0⟩ : Sl)] 35) fun x69_4 σ =>
 lfpD (l28_judge_Arrange B ro a0 x23_1 x25_2 x69_4 Q ) (0) σ

def j40_judge_Arrange (B : World) (ro : AH) (a0 : Int) (a1 : Sl) (x9_37 : Nat) (x23_1 : Nat) (x25_2 : Nat) (x28_34 : Int) (Q : Sl → Bool → AH → Prop) (Y33 : (Int) → AH → Prop) (x46_41 : Bool) (σ : AH) : Prop :=
 if x46_41 = true then
  Q (⟨none, 0, 0⟩ : Sl) false σ
 else
 lent σ fun ψ σ =>
  ∃ (x49_42 : Int), acell (join ro ψ) (fun _ => none) ((⟨x9_37, 0, none⟩ : Addr).add (Int.toNat 0 * 1)) = some (.int .i64 x49_42) ∧
  ∃ (x52_43 : Int), acell (join ro ψ) σ ((⟨x9_37, 0, none⟩ : Addr).add (Int.toNat 0 * 1)) = some (.int .i64 x52_43) ∧
  ∃ p53_44 : Addr, (⟨some ⟨x23_1, 0, none⟩, Int.toNat a0, Int.toNat a0⟩ : Sl).a = some p53_44 ∧ (0 : Int) ≤ x52_43 ∧ x52_43 < ((⟨some ⟨x23_1, 0, none⟩, Int.toNat a0, Int.toNat a0⟩ : Sl).len : Int) ∧
  ∃ (x54_45 : Sl), acell (join ro ψ) σ (p53_44.add (Int.toNat x52_43 * 1)) = some (Sl.v x54_45) ∧
  ∃ (x56_46 : Int), acell (join ro ψ) σ ((⟨x9_37, 0, none⟩ : Addr).add (Int.toNat 1 * 1)) = some (.int .i64 x56_46) ∧
  nw (join ro ψ) σ (.cells #[.int .i64 x56_46] 3) fun x57_47 σ =>
  awp Try.prog (join ro ψ) (Builtin.append_ #[25, 25] 25 #[Sl.v x54_45, Sl.v (⟨some ⟨x57_47, 0, none⟩, 1, 1⟩ : Sl)]) (fun v σ => ∃ (x58_48 : Sl), v = Sl.v x58_48 ∧
   ∃ p59_49 : Addr, (⟨some ⟨x23_1, 0, none⟩, Int.toNat a0, Int.toNat a0⟩ : Sl).a = some p59_49 ∧ (0 : Int) ≤ x49_42 ∧ x49_42 < ((⟨some ⟨x23_1, 0, none⟩, Int.toNat a0, Int.toNat a0⟩ : Sl).len : Int) ∧
   stN (p59_49.add (Int.toNat x49_42 * 1)) (fun σ =>
    (Disj ψ σ → (fun σ => 
     ∃ (x62_50 : Int), acell ro σ ((⟨x9_37, 0, none⟩ : Addr).add (Int.toNat 1 * 1)) = some (.int .i64 x62_50) ∧
     ∃ p63_51 : Addr, (⟨some ⟨x25_2, 0, none⟩, Int.toNat a0, Int.toNat a0⟩ : Sl).a = some p63_51 ∧ (0 : Int) ≤ x62_50 ∧ x62_50 < ((⟨some ⟨x25_2, 0, none⟩, Int.toNat a0, Int.toNat a0⟩ : Sl).len : Int) ∧
     ∃ (x64_52 : Int), acell ro σ (p63_51.add (Int.toNat x62_50 * 1)) = some (.int .i64 x64_52) ∧
     ∃ p66_53 : Addr, (⟨some ⟨x25_2, 0, none⟩, Int.toNat a0, Int.toNat a0⟩ : Sl).a = some p66_53 ∧ (0 : Int) ≤ x62_50 ∧ x62_50 < ((⟨some ⟨x25_2, 0, none⟩, Int.toNat a0, Int.toNat a0⟩ : Sl).len : Int) ∧
     stN (p66_53.add (Int.toNat x62_50 * 1)) (fun σ =>
      Y33 (IntKind.i64.wrap (x28_34 + 1)) σ) [.int .i64 (IntKind.i64.wrap (x64_52 + 1))] 0 σ) (join ψ σ))) [Sl.v x58_48] 0 σ) σ

def l33_judge_Arrange (B : World) (ro : AH) (a0 : Int) (a1 : Sl) (x23_1 : Nat) (x25_2 : Nat) (Q : Sl → Bool → AH → Prop) : (Int) → AH → ((Int) → AH → Prop) → Prop := fun x28_34 σ Y33 =>
 if x28_34 < (a1.len : Int) then
  ∃ p30_35 : Addr, a1.a = some p30_35 ∧ (0 : Int) ≤ x28_34 ∧ x28_34 < (a1.len : Int) ∧
  ∃ (x31_36a : Int) (x31_36b : Int), cellsAt ro σ (p30_35.add (Int.toNat x28_34 * 2)) 0 [.int .i64 x31_36a, .int .i64 x31_36b] ∧
  nw ro σ (.cells #[.int .i64 0, .int .i64 0] 24) fun x9_37 σ =>
  stN ⟨x9_37, 0, none⟩ (fun σ =>
   ∃ (x33_38 : Int), acell ro σ ((⟨x9_37, 0, none⟩ : Addr).add (Int.toNat 0 * 1)) = some (.int .i64 x33_38) ∧
   ∃ (x35_39 : Int), acell ro σ ((⟨x9_37, 0, none⟩ : Addr).add (Int.toNat 1 * 1)) = some (.int .i64 x35_39) ∧
   if (if x35_39 < x33_38 then x35_39 else x33_38) < 0 then
    j40_judge_Arrange B ro a0 a1 x9_37 x23_1 x25_2 x28_34 Q Y33 true σ
   else
   ∃ (x40_54 : Int), acell ro σ ((⟨x9_37, 0, none⟩ : Addr).add (Int.toNat 0 * 1)) = some (.int .i64 x40_54) ∧
   ∃ (x42_55 : Int), acell ro σ ((⟨x9_37, 0, none⟩ : Addr).add (Int.toNat 1 * 1)) = some (.int .i64 x42_55) ∧
   j40_judge_Arrange B ro a0 a1 x9_37 x23_1 x25_2 x28_34 Q Y33 (decide (a0 ≤ (if x40_54 < x42_55 then x42_55 else x40_54))) σ) [.int .i64 x31_36a, .int .i64 x31_36b] 0 σ
 else
 j3_judge_Arrange B ro a0 x23_1 x25_2 Q σ

def f_judge_Arrange (B : World) (ro : AH) (a0 : Int) (a1 : Sl) (σ : AH) (Q : Sl → Bool → AH → Prop) : Prop :=
 if (a0 < 0) ∨ (4096 < a0) then
  Q (⟨none, 0, 0⟩ : Sl) false σ
 else
 ((0 : Int) ≤ a0 ∧ a0 ≤ a0 ∧ a0 ≤ 281474976710656 ∧ 24 * a0 ≤ 281474976710656) ∧
 nw ro σ (.cells (zeros (.slice none 0 0) (Int.toNat a0 * 1)) 25) fun x23_1 σ =>
 ((0 : Int) ≤ a0 ∧ a0 ≤ a0 ∧ a0 ≤ 281474976710656 ∧ 8 * a0 ≤ 281474976710656) ∧
 nw ro σ (.cells (zeros (.int .i64 0) (Int.toNat a0 * 1)) 3) fun x25_2 σ =>
 lfpD (l33_judge_Arrange B ro a0 a1 x23_1 x25_2 Q ) (0) σ

set_option maxRecDepth 100000 in
set_option maxHeartbeats 4000000 in
theorem judge_Arrange_ok {B : World} {ro : AH} {a0 : Int} {a1 : Sl} {σ : AH} {Q : Sl → Bool → AH → Prop} (h : Sep ro σ → f_judge_Arrange B ro a0 a1 σ Q) : c_judge_Arrange B ro a0 a1 σ Q := by
  refine ACalls.of_sep fun hsep => ?_
  replace h := h hsep
  refine ACalls.of_body (args := [.int .i64 a0, Sl.v a1]) Try.func5 rfl (by rw [Try.ntmps5]; simp) ?_
  rw [Try.ntmps5]
  unfold f_judge_Arrange at h
  refine AW.seq ?_
  refine AW.reg ?_
  refine Lp (V_asg rfl rfl) rfl rfl ?_
  refine Lp (V_asg rfl rfl) rfl rfl ?_
  refine Lnil ?_
  refine thenN ?_
  refine AW.seq ?_
  refine AW.seq ?_
  refine AW.reg ?_
  refine Lp (V_move rfl rfl) rfl rfl ?_
  refine Lp (V_lss rfl rfl rfl) rfl rfl ?_
  refine Lp (V_move rfl rfl) rfl rfl ?_
  refine Lsplit 3 (decide (a0 < 0)) [(0, .int .i64 a0), (1, Sl.v a1), (21, .bool ((decide (a0 < 0)) || (decide (4096 < a0))))] ?_ ?_ ?_
  · intro e2 hk2
    refine Ln rfl rfl rfl rfl (.inl (by rw [e2]; rfl)) ?_
    refine Ln rfl rfl rfl rfl (.inl (by rw [e2]; rfl)) ?_
    refine Lp (V_pickT rfl (evb e2) rfl) rfl rfl ?_
    exact hk2 _ (FrLe.cons rfl (FrLe.cons rfl (FrLe.cons (by rw [e2]; rfl) (FrLe.nil _))))
  · intro e2 hk2
    refine Lypb (V_move rfl rfl) rfl rfl rfl rfl e2 ?_
    refine Lypb (V_gtr rfl rfl rfl) rfl rfl rfl rfl e2 ?_
    refine Lp (V_pickF rfl (evb e2) rfl) rfl rfl ?_
    exact hk2 _ (FrLe.cons rfl (FrLe.cons rfl (FrLe.cons (by rw [e2]; rfl) (FrLe.nil _))))
  intro fr hl
  refine Lfr hl ?_
  refine Lnil ?_
  refine thenN ?_
  refine AW.iff rfl (bor_iff decide_eq_true_iff decide_eq_true_iff) h (fun h => ?_) (fun h => ?_)
  · refine AW.seq ?_
    refine AW.reg ?_
    refine Lp (V_asg rfl rfl) rfl rfl ?_
    refine Lp (V_asg rfl rfl) rfl rfl ?_
    refine Lnil ?_
    refine thenN ?_
    refine AW.ret ?_
    refine thenR ?_
    exact bR2 Try.results5 rfl rfl ⟨_, _, rfl, h⟩
  refine AW.skip ?_
  refine thenN ?_
  refine AW.seq ?_
  refine AW.drawn0 (fun i => ([0, 1, 0, 1, 0, 0] : List Nat).getD i 2) [] [0, 2, 1, 4, 3, 5] Try.mixed (by decide +kernel) ?_
  refine Dp rfl rfl rfl rfl (V_move rfl rfl) ?_
  refine Dp rfl rfl rfl rfl (V_move rfl rfl) ?_
  obtain ⟨⟨h0, h1, h2, h3⟩, h⟩ := h
  refine Da rfl rfl rfl rfl (A_mks rfl Try.underlying31 ty25 rfl rfl h0 h1 h2 h3) fun x23_1 g1 g2 => ?_
  replace h := h x23_1 g1 g2
  refine Dp rfl rfl rfl rfl (V_asg rfl rfl) ?_
  obtain ⟨⟨h0, h1, h2, h3⟩, h⟩ := h
  refine Da rfl rfl rfl rfl (A_mks rfl Try.underlying25 ty3 rfl rfl h0 h1 h2 h3) fun x25_2 g1 g2 => ?_
  replace h := h x25_2 g1 g2
  refine Dp rfl rfl rfl rfl (V_asg rfl rfl) ?_
  refine Dend ?_
  refine thenN ?_
  refine AW.seqJ (fun fr σ => FrLe [(0, .int .i64 a0), (6, Sl.v (⟨some ⟨x23_1, 0, none⟩, Int.toNat a0, Int.toNat a0⟩ : Sl)), (7, Sl.v (⟨some ⟨x25_2, 0, none⟩, Int.toNat a0, Int.toNat a0⟩ : Sl))] fr ∧ j3_judge_Arrange B ro a0 x23_1 x25_2 Q σ) ?_ ?_
  rotate_left
  · refine AW.seq ?_
    refine AW.reg ?_
    refine Lp (V_move rfl rfl) rfl rfl ?_
    refine Lp (V_lenL rfl rfl Try.underlying22 rfl rfl) rfl rfl ?_
    refine Lp (V_move rfl rfl) rfl rfl ?_
    refine Lnil ?_
    refine thenN ?_
    refine AW.block ?_
    refine ARound.loop (fr' := [(0, .int .i64 a0), (6, Sl.v (⟨some ⟨x23_1, 0, none⟩, Int.toNat a0, Int.toNat a0⟩ : Sl)), (7, Sl.v (⟨some ⟨x25_2, 0, none⟩, Int.toNat a0, Int.toNat a0⟩ : Sl)), (26, Sl.v a1), (27, .int .i64 (a1.len : Int)), (28, .int .i64 0)]) ?_ (FrLe.cons rfl (FrLe.cons rfl (FrLe.cons rfl (FrLe.cons rfl (FrLe.cons rfl (FrLe.cons rfl (FrLe.nil _)))))))
    refine h (fun x28_34 σ => ARound _ _ _ _ _ _ [(0, .int .i64 a0), (6, Sl.v (⟨some ⟨x23_1, 0, none⟩, Int.toNat a0, Int.toNat a0⟩ : Sl)), (7, Sl.v (⟨some ⟨x25_2, 0, none⟩, Int.toNat a0, Int.toNat a0⟩ : Sl)), (26, Sl.v a1), (27, .int .i64 (a1.len : Int)), (28, .int .i64 x28_34)] σ) ?_
    rintro x28_34 σ Y33 hY33 h
    show AW _ _ _ _ _ _ _ _
    unfold l33_judge_Arrange at h
    refine AW.seq ?_
    refine AW.reg ?_
    refine Lp (V_lss rfl rfl rfl) rfl rfl ?_
    refine Lnil ?_
    refine thenN ?_
    refine AW.seq ?_
    refine AW.iff rfl decide_eq_true_iff h (fun h => ?_) (fun h => ?_)
    rotate_left
    · refine AW.exit ?_
      refine thenE ?_
      refine thenE ?_
      refine blockE ?_
      refine thenN ?_
      exact ⟨(FrLe.cons rfl (FrLe.cons rfl (FrLe.cons rfl (FrLe.nil _)))), h⟩
    refine AW.skip ?_
    refine thenN ?_
    refine AW.seq ?_
    refine AW.block ?_
    refine AW.seq ?_
    refine AW.reg ?_
    obtain ⟨p30_35, ha, h0, h1, h⟩ := h
    refine Lp (V_ixA rfl Try.underlying22 ty24 (ixL rfl ha) rfl h0 h1) rfl rfl ?_
    obtain ⟨x31_36a, x31_36b, hc, h⟩ := h
    refine Ls rfl rfl (X_lda rfl Try.underlying24 rfl ty24 rfl hc ?_)
    refine Ls rfl rfl (X_new (A_alloc rfl ty24) fun x9_37 g1 g2 => ?_)
    replace h := h x9_37 g1 g2
    refine Ls rfl rfl (X_st rfl ty24 rfl rfl rfl rfl (stN_mono h fun σ h => ?_))
    refine Lnil ?_
    refine thenN ?_
    refine AW.seq ?_
    refine AW.seq ?_
    refine AW.reg ?_
    refine Lp (V_ixP rfl Try.underlying24 ty3 rfl rfl (by decide) (by decide)) rfl rfl ?_
    obtain ⟨x33_38, hc, h⟩ := h
    refine Ls rfl rfl (X_ld rfl Try.underlying3 rfl rfl hc ?_)
    refine Lp (V_ixP rfl Try.underlying24 ty3 rfl rfl (by decide) (by decide)) rfl rfl ?_
    obtain ⟨x35_39, hc, h⟩ := h
    refine Ls rfl rfl (X_ld rfl Try.underlying3 rfl rfl hc ?_)
    refine Lp (V_min2 rfl rfl) rfl rfl ?_
    refine Lp (V_lss rfl rfl rfl) rfl rfl ?_
    refine Lp (V_move rfl rfl) rfl rfl ?_
    refine LsplitJ 8 (decide ((if x35_39 < x33_38 then x35_39 else x33_38) < 0)) decide_eq_true_iff h (fun fr σ => ∃ (x46_41 : Bool), FrLe [(0, .int .i64 a0), (6, Sl.v (⟨some ⟨x23_1, 0, none⟩, Int.toNat a0, Int.toNat a0⟩ : Sl)), (7, Sl.v (⟨some ⟨x25_2, 0, none⟩, Int.toNat a0, Int.toNat a0⟩ : Sl)), (9, .pointer (some ⟨x9_37, 0, none⟩)), (26, Sl.v a1), (27, .int .i64 (a1.len : Int)), (28, .int .i64 x28_34), (46, .bool x46_41)] fr ∧ j40_judge_Arrange B ro a0 a1 x9_37 x23_1 x25_2 x28_34 Q Y33 x46_41 σ) ?_ ?_ ?_
    · intro h e6 hk6
      refine Ln rfl rfl rfl rfl (.inl (by rw [e6]; rfl)) ?_
      refine Ln rfl rfl rfl rfl (.inl (by rw [e6]; rfl)) ?_
      refine Ln rfl rfl rfl rfl (.inl (by rw [e6]; rfl)) ?_
      refine Ln rfl rfl rfl rfl (.inl (by rw [e6]; rfl)) ?_
      refine Ln rfl rfl rfl rfl (.inl (by rw [e6]; rfl)) ?_
      refine Ln rfl rfl rfl rfl (.inl (by rw [e6]; rfl)) ?_
      refine Ln rfl rfl rfl rfl (.inl (by rw [e6]; rfl)) ?_
      refine Lp (V_pickT rfl (evb e6) rfl) rfl rfl ?_
      exact hk6 _ _ ⟨_, (FrLe.cons rfl (FrLe.cons rfl (FrLe.cons rfl (FrLe.cons rfl (FrLe.cons rfl (FrLe.cons rfl (FrLe.cons rfl (FrLe.cons rfl (FrLe.nil _))))))))), h⟩
    · intro h e6 hk6
      refine Lypb (V_ixP rfl Try.underlying24 ty3 rfl rfl (by decide) (by decide)) rfl rfl rfl rfl e6 ?_
      obtain ⟨x40_54, hc, h⟩ := h
      refine Lyb rfl rfl rfl rfl e6 (X_ld rfl Try.underlying3 rfl rfl hc ?_)
      refine Lypb (V_ixP rfl Try.underlying24 ty3 rfl rfl (by decide) (by decide)) rfl rfl rfl rfl e6 ?_
      obtain ⟨x42_55, hc, h⟩ := h
      refine Lyb rfl rfl rfl rfl e6 (X_ld rfl Try.underlying3 rfl rfl hc ?_)
      refine Lypb (V_max2 rfl rfl) rfl rfl rfl rfl e6 ?_
      refine Lypb (V_move rfl rfl) rfl rfl rfl rfl e6 ?_
      refine Lypb (V_geq rfl rfl rfl) rfl rfl rfl rfl e6 ?_
      refine Lp (V_pickF rfl (evb e6) rfl) rfl rfl ?_
      exact hk6 _ _ ⟨_, (FrLe.cons rfl (FrLe.cons rfl (FrLe.cons rfl (FrLe.cons rfl (FrLe.cons rfl (FrLe.cons rfl (FrLe.cons rfl (FrLe.cons rfl (FrLe.nil _))))))))), h⟩
    rintro fr σ ⟨x46_41, hl, h⟩
    unfold j40_judge_Arrange at h
    refine Lfr hl ?_
    refine Lnil ?_
    refine thenN ?_
    refine AW.iff rfl Iff.rfl h (fun h => ?_) (fun h => ?_)
    · refine AW.seq ?_
      refine AW.reg ?_
      refine Lp (V_asg rfl rfl) rfl rfl ?_
      refine Lp (V_asg rfl rfl) rfl rfl ?_
      refine Lnil ?_
      refine thenN ?_
      refine AW.ret ?_
      refine thenR ?_
      refine blockR ?_
      refine thenR ?_
      refine thenR ?_
      refine blockR ?_
      refine thenR ?_
      exact bR2 Try.results5 rfl rfl ⟨_, _, rfl, h⟩
    refine AW.skip ?_
    refine thenN ?_
    refine AW.seq ?_
    refine AW.drawnL (fun i => ([0, 0, 0, 0, 0, 3, 0, 3, 0, 3, 1, 2, 0, 2] : List Nat).getD i 2) [(5, 6), (5, 7), (5, 11), (9, 10), (9, 11)] [0, 1, 2, 3, 4, 8, 5, 6, 7, 9, 10, 11, 12, 13] Try.mixed h (by decide +kernel) ?_
    clear h
    intro ψ σ h
    refine Dp rfl rfl rfl rfl (V_move rfl rfl) ?_
    refine Dp rfl rfl rfl rfl (V_ixP rfl Try.underlying24 ty3 rfl rfl (by decide) (by decide)) ?_
    obtain ⟨x49_42, hc, h⟩ := h
    refine Dp rfl rfl rfl rfl (V_ld rfl Try.underlying3 rfl rfl hc) ?_
    refine Dp rfl rfl rfl rfl (V_move rfl rfl) ?_
    refine Dp rfl rfl rfl rfl (V_ixP rfl Try.underlying24 ty3 rfl rfl (by decide) (by decide)) ?_
    refine Dp rfl rfl rfl rfl (V_ixP rfl Try.underlying24 ty3 rfl rfl (by decide) (by decide)) ?_
    obtain ⟨x52_43, hc, h⟩ := h
    refine Dr rfl rfl rfl rfl (R_ld rfl Try.underlying3 rfl rfl hc) ?_
    obtain ⟨p53_44, ha, h0, h1, h⟩ := h
    refine Dp rfl rfl rfl rfl (V_ixA rfl Try.underlying31 ty25 (ixL rfl ha) rfl h0 h1) ?_
    obtain ⟨x54_45, hc, h⟩ := h
    refine Dr rfl rfl rfl rfl (R_ld rfl Try.underlying25 rfl rfl hc) ?_
    obtain ⟨x56_46, hc, h⟩ := h
    refine Dr rfl rfl rfl rfl (R_ld rfl Try.underlying3 rfl rfl hc) ?_
    refine Da rfl rfl rfl rfl (A_bsl (vs := [(0, .int .i64 x56_46)]) (cs := #[.int .i64 x56_46]) rfl Try.underlying25 ty3 (by decide) rfl rfl) fun x57_47 g1 g2 => ?_
    replace h := h x57_47 g1 g2
    refine Dg rfl rfl rfl rfl (X_bi (s := Builtin.append_ #[25, 25] 25 #[Sl.v x54_45, Sl.v (⟨some ⟨x57_47, 0, none⟩, 1, 1⟩ : Sl)]) rfl rfl (fun _ => rfl) (awp_mono _ h ?_))
    rintro v σ ⟨x58_48, rfl, h⟩
    obtain ⟨p59_49, ha, h0, h1, h⟩ := h
    refine Dp rfl rfl rfl rfl (V_ixA rfl Try.underlying31 ty25 (ixL rfl ha) rfl h0 h1) ?_
    refine Dg rfl rfl rfl rfl (X_st rfl ty25 rfl rfl rfl rfl (stN_mono h fun σ h => ?_))
    refine ⟨_, FrEq.refl _, fun hdj => ?_⟩
    replace h := h hdj
    refine thenN ?_
    refine AW.reg ?_
    refine Lp (V_move rfl rfl) rfl rfl ?_
    refine Lp (V_ixP rfl Try.underlying24 ty3 rfl rfl (by decide) (by decide)) rfl rfl ?_
    obtain ⟨x62_50, hc, h⟩ := h
    refine Ls rfl rfl (X_ld rfl Try.underlying3 rfl rfl hc ?_)
    obtain ⟨p63_51, ha, h0, h1, h⟩ := h
    refine Lp (V_ixA rfl Try.underlying25 ty3 (ixL rfl ha) rfl h0 h1) rfl rfl ?_
    obtain ⟨x64_52, hc, h⟩ := h
    refine Ls rfl rfl (X_ld rfl Try.underlying3 rfl rfl hc ?_)
    refine Lp (V_add rfl rfl rfl) rfl rfl ?_
    obtain ⟨p66_53, ha, h0, h1, h⟩ := h
    refine Lp (V_ixA rfl Try.underlying25 ty3 (ixL rfl ha) rfl h0 h1) rfl rfl ?_
    refine Ls rfl rfl (X_st rfl ty3 rfl rfl rfl rfl (stN_mono h fun σ h => ?_))
    refine Lnil ?_
    refine blockN ?_
    refine thenN ?_
    refine AW.reg ?_
    refine Lp (V_add rfl rfl rfl) rfl rfl ?_
    refine Lp (V_move rfl rfl) rfl rfl ?_
    refine Lnil ?_
    refine thenN ?_
    refine ARound.head (fr' := [(0, .int .i64 a0), (6, Sl.v (⟨some ⟨x23_1, 0, none⟩, Int.toNat a0, Int.toNat a0⟩ : Sl)), (7, Sl.v (⟨some ⟨x25_2, 0, none⟩, Int.toNat a0, Int.toNat a0⟩ : Sl)), (26, Sl.v a1), (27, .int .i64 (a1.len : Int)), (28, .int .i64 (IntKind.i64.wrap (x28_34 + 1)))]) ?_ (FrLe.cons rfl (FrLe.cons rfl (FrLe.cons rfl (FrLe.cons rfl (FrLe.cons rfl (FrLe.cons rfl (FrLe.nil _)))))))
    exact hY33 _ _ h
  rintro fr σ ⟨hl, h⟩
  refine AW.weaken ?_ hl (HLe.refl _)
  unfold j3_judge_Arrange at h
  refine AW.seq ?_
  refine AW.reg ?_
  refine Lp (V_bld (vs := []) (cs := #[Sl.v (⟨none, 0, 0⟩ : Sl)]) rfl Try.underlying35 ty35 pl35 rfl rfl) rfl rfl ?_
  refine Ls rfl rfl (X_new (A_box rfl rfl) fun x69_4 g1 g2 => ?_)
  replace h := h x69_4 g1 g2
  refine Lp (V_asg rfl rfl) rfl rfl ?_
  refine Lnil ?_
  refine thenN ?_
  refine AW.seqJ (fun fr σ => FrLe [(0, .int .i64 a0), (6, Sl.v (⟨some ⟨x23_1, 0, none⟩, Int.toNat a0, Int.toNat a0⟩ : Sl)), (7, Sl.v (⟨some ⟨x25_2, 0, none⟩, Int.toNat a0, Int.toNat a0⟩ : Sl)), (10, .pointer (some ⟨x69_4, 0, none⟩))] fr ∧ j5_judge_Arrange B ro a0 x23_1 x25_2 x69_4 Q σ) ?_ ?_
  rotate_left
  · refine AW.seq ?_
    refine AW.reg ?_
    refine Lp (V_move rfl rfl) rfl rfl ?_
    refine Lp (V_move rfl rfl) rfl rfl ?_
    refine Lnil ?_
    refine thenN ?_
    refine AW.block ?_
    refine ARound.loop (fr' := [(0, .int .i64 a0), (6, Sl.v (⟨some ⟨x23_1, 0, none⟩, Int.toNat a0, Int.toNat a0⟩ : Sl)), (7, Sl.v (⟨some ⟨x25_2, 0, none⟩, Int.toNat a0, Int.toNat a0⟩ : Sl)), (10, .pointer (some ⟨x69_4, 0, none⟩)), (70, .int .i64 a0), (71, .int .i64 0)]) ?_ (FrLe.cons rfl (FrLe.cons rfl (FrLe.cons rfl (FrLe.cons rfl (FrLe.cons rfl (FrLe.cons rfl (FrLe.nil _)))))))
    refine h (fun x71_29 σ => ARound _ _ _ _ _ _ [(0, .int .i64 a0), (6, Sl.v (⟨some ⟨x23_1, 0, none⟩, Int.toNat a0, Int.toNat a0⟩ : Sl)), (7, Sl.v (⟨some ⟨x25_2, 0, none⟩, Int.toNat a0, Int.toNat a0⟩ : Sl)), (10, .pointer (some ⟨x69_4, 0, none⟩)), (70, .int .i64 a0), (71, .int .i64 x71_29)] σ) ?_
    rintro x71_29 σ Y28 hY28 h
    show AW _ _ _ _ _ _ _ _
    unfold l28_judge_Arrange at h
    refine AW.seq ?_
    refine AW.reg ?_
    refine Lp (V_lss rfl rfl rfl) rfl rfl ?_
    refine Lnil ?_
    refine thenN ?_
    refine AW.seq ?_
    refine AW.iff rfl decide_eq_true_iff h (fun h => ?_) (fun h => ?_)
    rotate_left
    · refine AW.exit ?_
      refine thenE ?_
      refine thenE ?_
      refine blockE ?_
      refine thenN ?_
      exact ⟨(FrLe.cons rfl (FrLe.cons rfl (FrLe.cons rfl (FrLe.cons rfl (FrLe.nil _))))), h⟩
    refine AW.skip ?_
    refine thenN ?_
    refine AW.seqJ (fun fr σ => FrLe [(0, .int .i64 a0), (6, Sl.v (⟨some ⟨x23_1, 0, none⟩, Int.toNat a0, Int.toNat a0⟩ : Sl)), (7, Sl.v (⟨some ⟨x25_2, 0, none⟩, Int.toNat a0, Int.toNat a0⟩ : Sl)), (10, .pointer (some ⟨x69_4, 0, none⟩)), (70, .int .i64 a0), (71, .int .i64 x71_29)] fr ∧ j30_judge_Arrange B ro a0 x23_1 x25_2 x69_4 x71_29 Q Y28 σ) ?_ ?_
    · rintro fr σ ⟨hl, h⟩
      refine AW.weaken ?_ hl (HLe.refl _)
      unfold j30_judge_Arrange at h
      refine AW.reg ?_
      refine Lp (V_add rfl rfl rfl) rfl rfl ?_
      refine Lp (V_move rfl rfl) rfl rfl ?_
      refine Lnil ?_
      refine thenN ?_
      refine ARound.head (fr' := [(0, .int .i64 a0), (6, Sl.v (⟨some ⟨x23_1, 0, none⟩, Int.toNat a0, Int.toNat a0⟩ : Sl)), (7, Sl.v (⟨some ⟨x25_2, 0, none⟩, Int.toNat a0, Int.toNat a0⟩ : Sl)), (10, .pointer (some ⟨x69_4, 0, none⟩)), (70, .int .i64 a0), (71, .int .i64 (IntKind.i64.wrap (x71_29 + 1)))]) ?_ (FrLe.cons rfl (FrLe.cons rfl (FrLe.cons rfl (FrLe.cons rfl (FrLe.cons rfl (FrLe.cons rfl (FrLe.nil _)))))))
      exact hY28 _ _ h
    refine AW.block ?_
    refine AW.seq ?_
    refine AW.reg ?_
    refine Lp (V_move rfl rfl) rfl rfl ?_
    refine Lp (V_asg rfl rfl) rfl rfl ?_
    refine Lnil ?_
    refine thenN ?_
    refine AW.seq ?_
    refine AW.reg ?_
    refine Lp (V_move rfl rfl) rfl rfl ?_
    refine Lp (V_move rfl rfl) rfl rfl ?_
    obtain ⟨p76_31, ha, h0, h1, h⟩ := h
    refine Lp (V_ixA rfl Try.underlying25 ty3 (ixL rfl ha) rfl h0 h1) rfl rfl ?_
    obtain ⟨x77_32, hc, h⟩ := h
    refine Ls rfl rfl (X_ld rfl Try.underlying3 rfl rfl hc ?_)
    refine Lp (V_eql rfl rfl rfl) rfl rfl ?_
    refine Lnil ?_
    refine thenN ?_
    refine AW.iff rfl decide_eq_true_iff h (fun h => ?_) (fun h => ?_)
    rotate_left
    · refine AW.skip ?_
      refine blockN ?_
      refine thenN ?_
      exact ⟨(FrLe.cons rfl (FrLe.cons rfl (FrLe.cons rfl (FrLe.cons rfl (FrLe.cons rfl (FrLe.cons rfl (FrLe.nil _))))))), h⟩
    refine AW.reg ?_
    refine Lp (V_move rfl rfl) rfl rfl ?_
    refine Lp (V_ifc rfl Try.underlying32 (fun _ h => by cases h) rfl) rfl rfl ?_
    refine Lp (V_move rfl rfl) rfl rfl ?_
    refine Lp (V_ifc rfl Try.underlying3 (fun _ h => by cases h) rfl) rfl rfl ?_
    refine Ls rfl rfl (X_call rfl Try.func7 rfl rfl rfl (ACalls.mono h ?_))
    rintro v σ ⟨rfl, h⟩
    refine Lnil ?_
    refine blockN ?_
    refine thenN ?_
    exact ⟨(FrLe.cons rfl (FrLe.cons rfl (FrLe.cons rfl (FrLe.cons rfl (FrLe.cons rfl (FrLe.cons rfl (FrLe.nil _))))))), h⟩
  rintro fr σ ⟨hl, h⟩
  refine AW.weaken ?_ hl (HLe.refl _)
  unfold j5_judge_Arrange at h
  refine AW.seq ?_
  refine AW.reg ?_
  refine Lp (V_asg rfl rfl) rfl rfl ?_
  refine Lnil ?_
  refine thenN ?_
  refine AW.seqJ (fun fr σ => ∃ (x12_7 : Sl), FrLe [(0, .int .i64 a0), (12, Sl.v x12_7)] fr ∧ j6_judge_Arrange B ro a0 Q x12_7 σ) ?_ ?_
  · rintro fr σ ⟨x12_7, hl, h⟩
    refine AW.weaken ?_ hl (HLe.refl _)
    unfold j6_judge_Arrange at h
    refine AW.seq ?_
    refine AW.seq ?_
    refine AW.reg ?_
    refine Lp (V_move rfl rfl) rfl rfl ?_
    refine Lp (V_lenL rfl rfl Try.underlying25 rfl rfl) rfl rfl ?_
    refine Lp (V_move rfl rfl) rfl rfl ?_
    refine Lp (V_lss rfl rfl rfl) rfl rfl ?_
    refine Lnil ?_
    refine thenN ?_
    refine AW.iff rfl decide_eq_true_iff h (fun h => ?_) (fun h => ?_)
    · refine AW.seq ?_
      refine AW.reg ?_
      refine Lp (V_asg rfl rfl) rfl rfl ?_
      refine Lp (V_asg rfl rfl) rfl rfl ?_
      refine Lnil ?_
      refine thenN ?_
      refine AW.ret ?_
      refine thenR ?_
      exact bR2 Try.results5 rfl rfl ⟨_, _, rfl, h⟩
    refine AW.skip ?_
    refine thenN ?_
    refine AW.seq ?_
    refine AW.reg ?_
    refine Lp (V_move rfl rfl) rfl rfl ?_
    refine Lp (V_asg rfl rfl) rfl rfl ?_
    refine Lp (V_asg rfl rfl) rfl rfl ?_
    refine Lnil ?_
    refine thenN ?_
    refine AW.ret ?_
    exact bR2 Try.results5 rfl rfl ⟨_, _, rfl, h⟩
  refine AW.block ?_
  refine ARound.loop (fr' := [(0, .int .i64 a0), (6, Sl.v (⟨some ⟨x23_1, 0, none⟩, Int.toNat a0, Int.toNat a0⟩ : Sl)), (7, Sl.v (⟨some ⟨x25_2, 0, none⟩, Int.toNat a0, Int.toNat a0⟩ : Sl)), (10, .pointer (some ⟨x69_4, 0, none⟩)), (12, Sl.v (⟨none, 0, 0⟩ : Sl))]) ?_ (FrLe.cons rfl (FrLe.cons rfl (FrLe.cons rfl (FrLe.cons rfl (FrLe.cons rfl (FrLe.nil _))))))
  refine h (fun x12_9 σ => ARound _ _ _ _ _ _ [(0, .int .i64 a0), (6, Sl.v (⟨some ⟨x23_1, 0, none⟩, Int.toNat a0, Int.toNat a0⟩ : Sl)), (7, Sl.v (⟨some ⟨x25_2, 0, none⟩, Int.toNat a0, Int.toNat a0⟩ : Sl)), (10, .pointer (some ⟨x69_4, 0, none⟩)), (12, Sl.v x12_9)] σ) ?_
  rintro x12_9 σ Y8 hY8 h
  show AW _ _ _ _ _ _ _ _
  unfold l8_judge_Arrange at h
  refine AW.seq ?_
  refine AW.seq ?_
  refine AW.reg ?_
  refine Lp (V_move rfl rfl) rfl rfl ?_
  refine Lp (V_nil rfl rfl) rfl rfl ?_
  refine Lp (V_fld rfl Try.underlying35 rfl ty33 (by decide) rfl) rfl rfl ?_
  obtain ⟨x88_10, hc, h⟩ := h
  refine Ls rfl rfl (X_ld rfl Try.underlying33 rfl rfl hc ?_)
  refine Ls rfl rfl (X_call rfl Try.func8 rfl rfl rfl (ACalls.mono h ?_))
  rintro v σ ⟨x89_11, rfl, h⟩
  refine Lp (V_gtr rfl rfl rfl) rfl rfl ?_
  refine Lnil ?_
  refine thenN ?_
  refine AW.iff rfl decide_eq_true_iff h (fun h => ?_) (fun h => ?_)
  rotate_left
  · refine AW.exit ?_
    refine thenE ?_
    refine thenE ?_
    refine blockE ?_
    refine thenN ?_
    exact ⟨_, (FrLe.cons rfl (FrLe.cons rfl (FrLe.nil _))), h⟩
  refine AW.skip ?_
  refine thenN ?_
  refine AW.block ?_
  refine AW.seq ?_
  refine AW.reg ?_
  refine Lp (V_move rfl rfl) rfl rfl ?_
  refine Lp (V_ifc rfl Try.underlying32 (fun _ h => by cases h) rfl) rfl rfl ?_
  refine Ls rfl rfl (X_call rfl Try.func9 rfl rfl rfl (ACalls.mono h ?_))
  rintro x93_12 σ ⟨_, rfl, h⟩
  obtain ⟨x94_13, hc, h⟩ := h
  refine Lp (V_ta rfl Try.underlying3 (fun _ h => by cases h) (by rw [← hc]; rfl)) rfl rfl ?_
  refine Lp (V_asg rfl rfl) rfl rfl ?_
  refine Lnil ?_
  refine thenN ?_
  refine AW.seq ?_
  refine AW.reg ?_
  refine Lp (V_move rfl rfl) rfl rfl ?_
  refine Lp (V_move rfl rfl) rfl rfl ?_
  refine Ls rfl rfl (X_new (A_bsl (vs := [(0, .int .i64 x94_13)]) (cs := #[.int .i64 x94_13]) rfl Try.underlying25 ty3 (by decide) rfl rfl) fun x97_14 g1 g2 => ?_)
  replace h := h x97_14 g1 g2
  refine Ls rfl rfl (X_bi (s := Builtin.append_ #[25, 25] 25 #[Sl.v x12_9, Sl.v (⟨some ⟨x97_14, 0, none⟩, 1, 1⟩ : Sl)]) rfl rfl (fun _ => rfl) (awp_mono _ h ?_))
  rintro v σ ⟨x98_15, rfl, h⟩
  refine Lp (V_asg rfl rfl) rfl rfl ?_
  refine Lnil ?_
  refine thenN ?_
  refine AW.seq ?_
  refine AW.reg ?_
  refine Lp (V_move rfl rfl) rfl rfl ?_
  refine Lp (V_move rfl rfl) rfl rfl ?_
  obtain ⟨p101_16, ha, h0, h1, h⟩ := h
  refine Lp (V_ixA rfl Try.underlying31 ty25 (ixL rfl ha) rfl h0 h1) rfl rfl ?_
  obtain ⟨x102_17, hc, h⟩ := h
  refine Ls rfl rfl (X_ld rfl Try.underlying25 rfl rfl hc ?_)
  refine Lp (V_lenL rfl rfl Try.underlying25 rfl rfl) rfl rfl ?_
  refine Lp (V_move rfl rfl) rfl rfl ?_
  refine Lnil ?_
  refine thenN ?_
  refine AW.block ?_
  refine ARound.loop (fr' := [(0, .int .i64 a0), (6, Sl.v (⟨some ⟨x23_1, 0, none⟩, Int.toNat a0, Int.toNat a0⟩ : Sl)), (7, Sl.v (⟨some ⟨x25_2, 0, none⟩, Int.toNat a0, Int.toNat a0⟩ : Sl)), (10, .pointer (some ⟨x69_4, 0, none⟩)), (12, Sl.v x98_15), (102, Sl.v x102_17), (103, .int .i64 (x102_17.len : Int)), (104, .int .i64 0)]) ?_ (FrLe.cons rfl (FrLe.cons rfl (FrLe.cons rfl (FrLe.cons rfl (FrLe.cons rfl (FrLe.cons rfl (FrLe.cons rfl (FrLe.cons rfl (FrLe.nil _)))))))))
  refine h (fun x104_19 σ => ARound _ _ _ _ _ _ [(0, .int .i64 a0), (6, Sl.v (⟨some ⟨x23_1, 0, none⟩, Int.toNat a0, Int.toNat a0⟩ : Sl)), (7, Sl.v (⟨some ⟨x25_2, 0, none⟩, Int.toNat a0, Int.toNat a0⟩ : Sl)), (10, .pointer (some ⟨x69_4, 0, none⟩)), (12, Sl.v x98_15), (102, Sl.v x102_17), (103, .int .i64 (x102_17.len : Int)), (104, .int .i64 x104_19)] σ) ?_
  rintro x104_19 σ Y18 hY18 h
  show AW _ _ _ _ _ _ _ _
  unfold l18_judge_Arrange at h
  refine AW.seq ?_
  refine AW.reg ?_
  refine Lp (V_lss rfl rfl rfl) rfl rfl ?_
  refine Lnil ?_
  refine thenN ?_
  refine AW.seq ?_
  refine AW.iff rfl decide_eq_true_iff h (fun h => ?_) (fun h => ?_)
  rotate_left
  · refine AW.exit ?_
    refine thenE ?_
    refine thenE ?_
    refine blockE ?_
    refine blockN ?_
    refine thenN ?_
    refine ARound.head (fr' := [(0, .int .i64 a0), (6, Sl.v (⟨some ⟨x23_1, 0, none⟩, Int.toNat a0, Int.toNat a0⟩ : Sl)), (7, Sl.v (⟨some ⟨x25_2, 0, none⟩, Int.toNat a0, Int.toNat a0⟩ : Sl)), (10, .pointer (some ⟨x69_4, 0, none⟩)), (12, Sl.v x98_15)]) ?_ (FrLe.cons rfl (FrLe.cons rfl (FrLe.cons rfl (FrLe.cons rfl (FrLe.cons rfl (FrLe.nil _))))))
    exact hY8 _ _ h
  refine AW.skip ?_
  refine thenN ?_
  refine AW.seqJ (fun fr σ => FrLe [(0, .int .i64 a0), (6, Sl.v (⟨some ⟨x23_1, 0, none⟩, Int.toNat a0, Int.toNat a0⟩ : Sl)), (7, Sl.v (⟨some ⟨x25_2, 0, none⟩, Int.toNat a0, Int.toNat a0⟩ : Sl)), (10, .pointer (some ⟨x69_4, 0, none⟩)), (12, Sl.v x98_15), (102, Sl.v x102_17), (103, .int .i64 (x102_17.len : Int)), (104, .int .i64 x104_19)] fr ∧ j20_judge_Arrange B ro a0 x23_1 x25_2 x69_4 x98_15 x102_17 x104_19 Q Y8 Y18 σ) ?_ ?_
  · rintro fr σ ⟨hl, h⟩
    refine AW.weaken ?_ hl (HLe.refl _)
    unfold j20_judge_Arrange at h
    refine AW.reg ?_
    refine Lp (V_add rfl rfl rfl) rfl rfl ?_
    refine Lp (V_move rfl rfl) rfl rfl ?_
    refine Lnil ?_
    refine thenN ?_
    refine ARound.head (fr' := [(0, .int .i64 a0), (6, Sl.v (⟨some ⟨x23_1, 0, none⟩, Int.toNat a0, Int.toNat a0⟩ : Sl)), (7, Sl.v (⟨some ⟨x25_2, 0, none⟩, Int.toNat a0, Int.toNat a0⟩ : Sl)), (10, .pointer (some ⟨x69_4, 0, none⟩)), (12, Sl.v x98_15), (102, Sl.v x102_17), (103, .int .i64 (x102_17.len : Int)), (104, .int .i64 (IntKind.i64.wrap (x104_19 + 1)))]) ?_ (FrLe.cons rfl (FrLe.cons rfl (FrLe.cons rfl (FrLe.cons rfl (FrLe.cons rfl (FrLe.cons rfl (FrLe.cons rfl (FrLe.cons rfl (FrLe.nil _)))))))))
    exact hY18 _ _ h
  refine AW.block ?_
  refine AW.seq ?_
  refine AW.reg ?_
  obtain ⟨p106_21, ha, h0, h1, h⟩ := h
  refine Lp (V_ixA rfl Try.underlying25 ty3 (ixL rfl ha) rfl h0 h1) rfl rfl ?_
  obtain ⟨x107_22, hc, h⟩ := h
  refine Ls rfl rfl (X_ld rfl Try.underlying3 rfl rfl hc ?_)
  refine Lp (V_asg rfl rfl) rfl rfl ?_
  refine Lnil ?_
  refine thenN ?_
  refine AW.seq ?_
  refine AW.reg ?_
  refine Lp (V_move rfl rfl) rfl rfl ?_
  refine Lp (V_move rfl rfl) rfl rfl ?_
  obtain ⟨p110_23, ha, h0, h1, h⟩ := h
  refine Lp (V_ixA rfl Try.underlying25 ty3 (ixL rfl ha) rfl h0 h1) rfl rfl ?_
  obtain ⟨x111_24, hc, h⟩ := h
  refine Ls rfl rfl (X_ld rfl Try.underlying3 rfl rfl hc ?_)
  refine Lp (V_sub rfl rfl rfl) rfl rfl ?_
  obtain ⟨p113_25, ha, h0, h1, h⟩ := h
  refine Lp (V_ixA rfl Try.underlying25 ty3 (ixL rfl ha) rfl h0 h1) rfl rfl ?_
  refine Ls rfl rfl (X_st rfl ty3 rfl rfl rfl rfl (stN_mono h fun σ h => ?_))
  refine Lnil ?_
  refine thenN ?_
  refine AW.seq ?_
  refine AW.reg ?_
  refine Lp (V_move rfl rfl) rfl rfl ?_
  refine Lp (V_move rfl rfl) rfl rfl ?_
  obtain ⟨p116_26, ha, h0, h1, h⟩ := h
  refine Lp (V_ixA rfl Try.underlying25 ty3 (ixL rfl ha) rfl h0 h1) rfl rfl ?_
  obtain ⟨x117_27, hc, h⟩ := h
  refine Ls rfl rfl (X_ld rfl Try.underlying3 rfl rfl hc ?_)
  refine Lp (V_eql rfl rfl rfl) rfl rfl ?_
  refine Lnil ?_
  refine thenN ?_
  refine AW.iff rfl decide_eq_true_iff h (fun h => ?_) (fun h => ?_)
  rotate_left
  · refine AW.skip ?_
    refine blockN ?_
    refine thenN ?_
    exact ⟨(FrLe.cons rfl (FrLe.cons rfl (FrLe.cons rfl (FrLe.cons rfl (FrLe.cons rfl (FrLe.cons rfl (FrLe.cons rfl (FrLe.cons rfl (FrLe.nil _))))))))), h⟩
  refine AW.reg ?_
  refine Lp (V_move rfl rfl) rfl rfl ?_
  refine Lp (V_ifc rfl Try.underlying32 (fun _ h => by cases h) rfl) rfl rfl ?_
  refine Lp (V_move rfl rfl) rfl rfl ?_
  refine Lp (V_ifc rfl Try.underlying3 (fun _ h => by cases h) rfl) rfl rfl ?_
  refine Ls rfl rfl (X_call rfl Try.func7 rfl rfl rfl (ACalls.mono h ?_))
  rintro v σ ⟨rfl, h⟩
  refine Lnil ?_
  refine blockN ?_
  refine thenN ?_
  exact ⟨(FrLe.cons rfl (FrLe.cons rfl (FrLe.cons rfl (FrLe.cons rfl (FrLe.cons rfl (FrLe.cons rfl (FrLe.cons rfl (FrLe.cons rfl (FrLe.nil _))))))))), h⟩

def f_judge_least_Pop (B : World) (ro : AH) (a0 : Option Addr) (σ : AH) (Q : Value → AH → Prop) : Prop :=
 ∃ p6_1 : Addr, a0 = some p6_1 ∧
 ∃ (x8_2 : Sl), acell ro σ p6_1 = some (Sl.v x8_2) ∧
 ∃ p12_3 : Addr, a0 = some p12_3 ∧
 ∃ (x14_4 : Sl), acell ro σ p12_3 = some (Sl.v x14_4) ∧
 ∃ p16_5 : Addr, x14_4.a = some p16_5 ∧ (0 : Int) ≤ (IntKind.i64.wrap ((x8_2.len : Int) - 1)) ∧ (IntKind.i64.wrap ((x8_2.len : Int) - 1)) < (x14_4.len : Int) ∧
 ∃ (x17_6 : Int), acell ro σ (p16_5.add (Int.toNat (IntKind.i64.wrap ((x8_2.len : Int) - 1)) * 1)) = some (.int .i64 x17_6) ∧
 ∃ p20_7 : Addr, a0 = some p20_7 ∧
 ∃ (x22_8 : Sl), acell ro σ p20_7 = some (Sl.v x22_8) ∧
 cutOk none (some (IntKind.i64.wrap ((x8_2.len : Int) - 1))) x22_8.len x22_8.cap ∧
 ∃ p25_9 : Addr, a0 = some p25_9 ∧
 stN p25_9 (fun σ =>
  Q (.iface 3 (.int .i64 x17_6)) σ) [Sl.v (⟨cutA x22_8.a (0) x22_8.cap 1, Int.toNat (IntKind.i64.wrap ((x8_2.len : Int) - 1)) - 0, x22_8.cap - 0⟩ : Sl)] 0 σ

set_option maxRecDepth 100000 in
set_option maxHeartbeats 4000000 in
theorem judge_least_Pop_ok {B : World} {ro : AH} {a0 : Option Addr} {σ : AH} {Q : Value → AH → Prop} (h : Sep ro σ → f_judge_least_Pop B ro a0 σ Q) : c_judge_least_Pop B ro a0 σ Q := by
  refine ACalls.of_sep fun hsep => ?_
  replace h := h hsep
  refine ACalls.of_body (args := [.pointer a0]) Try.func29 rfl (by rw [Try.ntmps29]; simp) ?_
  rw [Try.ntmps29]
  unfold f_judge_least_Pop at h
  refine AW.seq ?_
  refine AW.reg ?_
  refine Lp (V_asg rfl rfl) rfl rfl ?_
  refine Lnil ?_
  refine thenN ?_
  refine AW.seq ?_
  refine AW.reg ?_
  refine Lp (V_move rfl rfl) rfl rfl ?_
  obtain ⟨p6_1, hc, h⟩ := h
  refine Lp (V_nil rfl (by rw [← hc]; rfl)) rfl rfl ?_
  refine Lp (V_fld rfl Try.underlying35 rfl ty33 (by decide) rfl) rfl rfl ?_
  obtain ⟨x8_2, hc, h⟩ := h
  refine Ls rfl rfl (X_ld rfl Try.underlying33 rfl rfl hc ?_)
  refine Lp (V_lenL rfl rfl Try.underlying33 rfl rfl) rfl rfl ?_
  refine Lp (V_sub rfl rfl rfl) rfl rfl ?_
  refine Lp (V_asg rfl rfl) rfl rfl ?_
  refine Lnil ?_
  refine thenN ?_
  refine AW.seq ?_
  refine AW.reg ?_
  refine Lp (V_move rfl rfl) rfl rfl ?_
  obtain ⟨p12_3, hc, h⟩ := h
  refine Lp (V_nil rfl (by rw [← hc]; rfl)) rfl rfl ?_
  refine Lp (V_fld rfl Try.underlying35 rfl ty33 (by decide) rfl) rfl rfl ?_
  obtain ⟨x14_4, hc, h⟩ := h
  refine Ls rfl rfl (X_ld rfl Try.underlying33 rfl rfl hc ?_)
  refine Lp (V_move rfl rfl) rfl rfl ?_
  obtain ⟨p16_5, ha, h0, h1, h⟩ := h
  refine Lp (V_ixA rfl Try.underlying33 ty3 (ixL rfl ha) rfl h0 h1) rfl rfl ?_
  obtain ⟨x17_6, hc, h⟩ := h
  refine Ls rfl rfl (X_ld rfl Try.underlying3 rfl rfl hc ?_)
  refine Lp (V_asg rfl rfl) rfl rfl ?_
  refine Lnil ?_
  refine thenN ?_
  refine AW.seq ?_
  refine AW.reg ?_
  refine Lp (V_move rfl rfl) rfl rfl ?_
  refine Lp (V_move rfl rfl) rfl rfl ?_
  obtain ⟨p20_7, hc, h⟩ := h
  refine Lp (V_nil rfl (by rw [← hc]; rfl)) rfl rfl ?_
  refine Lp (V_fld rfl Try.underlying35 rfl ty33 (by decide) rfl) rfl rfl ?_
  obtain ⟨x22_8, hc, h⟩ := h
  refine Ls rfl rfl (X_ld rfl Try.underlying33 rfl rfl hc ?_)
  refine Lp (V_move rfl rfl) rfl rfl ?_
  obtain ⟨hc, h⟩ := h
  refine Lp (V_slL (lo := none) (hi := (some (IntKind.i64.wrap ((x8_2.len : Int) - 1)))) rfl Try.underlying33 ty3 rfl optI_none (optI_some rfl) hc) rfl rfl ?_
  obtain ⟨p25_9, hc, h⟩ := h
  refine Lp (V_nil rfl (by rw [← hc]; rfl)) rfl rfl ?_
  refine Lp (V_fld rfl Try.underlying35 rfl ty33 (by decide) rfl) rfl rfl ?_
  refine Ls rfl rfl (X_st rfl ty33 rfl rfl rfl rfl (stN_mono h fun σ h => ?_))
  refine Lnil ?_
  refine thenN ?_
  refine AW.seq ?_
  refine AW.reg ?_
  refine Lp (V_move rfl rfl) rfl rfl ?_
  refine Lp (V_ifc rfl Try.underlying3 (fun _ h => by cases h) rfl) rfl rfl ?_
  refine Lp (V_asg rfl rfl) rfl rfl ?_
  refine Lnil ?_
  refine thenN ?_
  refine AW.ret ?_
  exact bR1 Try.results29 rfl ⟨_, rfl, h⟩

def f_judge_least_Push (B : World) (ro : AH) (a0 : Option Addr) (a1 : Value) (σ : AH) (Q : AH → Prop) : Prop :=
 ∃ p6_1 : Addr, a0 = some p6_1 ∧
 ∃ (x10_2 : Int), a1 = .iface 3 (.int .i64 x10_2) ∧
 ∃ (x8_3 : Sl), acell ro σ p6_1 = some (Sl.v x8_3) ∧
 nw ro σ (.cells #[.int .i64 x10_2] 3) fun x11_4 σ =>
 awp Try.prog ro (Builtin.append_ #[33, 33] 33 #[Sl.v x8_3, Sl.v (⟨some ⟨x11_4, 0, none⟩, 1, 1⟩ : Sl)]) (fun v σ => ∃ (x12_5 : Sl), v = Sl.v x12_5 ∧
  ∃ p13_6 : Addr, a0 = some p13_6 ∧
  stN p13_6 (fun σ =>
   Q σ) [Sl.v x12_5] 0 σ) σ

set_option maxRecDepth 100000 in
set_option maxHeartbeats 4000000 in
theorem judge_least_Push_ok {B : World} {ro : AH} {a0 : Option Addr} {a1 : Value} {σ : AH} {Q : AH → Prop} (h : Sep ro σ → f_judge_least_Push B ro a0 a1 σ Q) : c_judge_least_Push B ro a0 a1 σ Q := by
  refine ACalls.of_sep fun hsep => ?_
  replace h := h hsep
  refine ACalls.of_body (args := [.pointer a0, a1]) Try.func30 rfl (by rw [Try.ntmps30]; simp) ?_
  rw [Try.ntmps30]
  unfold f_judge_least_Push at h
  refine AW.drawn0 (fun i => ([0, 0, 0, 0, 3, 0, 0, 1, 2, 0, 0, 2] : List Nat).getD i 2) [] [0, 1, 2, 3, 5, 6, 4, 7, 8, 9, 10, 11] Try.mixed (by decide +kernel) ?_
  refine Dp rfl rfl rfl rfl (V_move rfl rfl) ?_
  refine Dp rfl rfl rfl rfl (V_move rfl rfl) ?_
  obtain ⟨p6_1, hc, h⟩ := h
  refine Dp rfl rfl rfl rfl (V_nil rfl (by rw [← hc]; rfl)) ?_
  refine Dp rfl rfl rfl rfl (V_fld rfl Try.underlying35 rfl ty33 (by decide) rfl) ?_
  refine Dp rfl rfl rfl rfl (V_move rfl rfl) ?_
  obtain ⟨x10_2, hc, h⟩ := h
  refine Dp rfl rfl rfl rfl (V_ta rfl Try.underlying3 (fun _ h => by cases h) (by rw [← hc]; rfl)) ?_
  obtain ⟨x8_3, hc, h⟩ := h
  refine Dr rfl rfl rfl rfl (R_ld rfl Try.underlying33 rfl rfl hc) ?_
  refine Da rfl rfl rfl rfl (A_bsl (vs := [(0, .int .i64 x10_2)]) (cs := #[.int .i64 x10_2]) rfl Try.underlying33 ty3 (by decide) rfl rfl) fun x11_4 g1 g2 => ?_
  replace h := h x11_4 g1 g2
  refine Dg rfl rfl rfl rfl (X_bi (s := Builtin.append_ #[33, 33] 33 #[Sl.v x8_3, Sl.v (⟨some ⟨x11_4, 0, none⟩, 1, 1⟩ : Sl)]) rfl rfl (fun _ => rfl) (awp_mono _ h ?_))
  rintro v σ ⟨x12_5, rfl, h⟩
  obtain ⟨p13_6, hc, h⟩ := h
  refine Dp rfl rfl rfl rfl (V_nil rfl (by rw [← hc]; rfl)) ?_
  refine Dp rfl rfl rfl rfl (V_fld rfl Try.underlying35 rfl ty33 (by decide) rfl) ?_
  refine Dg rfl rfl rfl rfl (X_st rfl ty33 rfl rfl rfl rfl (stN_mono h fun σ h => ?_))
  refine Dend ?_
  exact bN0 Try.results30 ⟨rfl, h⟩

end Go.Proofs.Ytoohfcalhlfniaa.G
