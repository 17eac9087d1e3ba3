/- ZtS, ZtX, GR7 -/
import Derived.Test.YthfpmipeejjogaaGreatDoorXJ
/- ZtreeShape, the walk. -/
namespace Go.Proofs.YthfpmipeejjogaaGreatDoor.Zt
open Go Go.Proofs.YthfpmipeejjogaaGreatDoor.SL Go.Proofs.YthfpmipeejjogaaGreatDoor.G Go.Proofs.YthfpmipeejjogaaGreatDoor.Pa
set_option linter.unusedSimpArgs false
set_option linter.unusedVariables false
variable {B : World} {ro σ σ' : AH} {tag tag' : Nat → Nat}

theorem u5 : Tryz.prog.underlying 5 = some (.int .u8) := by kernel_rfl
set_option maxRecDepth 100000 in
theorem awake_ok {Q : Bool → AH → Prop} (g : Glob ro) (hQ : ∀ σ, SL.Sep ro σ → Q true σ) : c_law07_awake B ro σ Q := by
  refine law07_awake_ok fun hs => ?_
  unfold f_law07_awake
  refine new_ok (tag := fun _ => 0) 10 (by decide) (by decide) fun T tag1 σ1 st1 h1 => ?_
  rw [if_neg (by simp)]
  refine nw_cells (tag := tag1) 0 st1.sep fun x tag2 σ2 st2 r2 => ?_
  have h2 := h1.keep (st2 []) (by simp)
  have hs2 := (st2 []).sep
  have hcv : ∀ K : Value → AH → Prop, (∀ σ', Step [0] ro tag2 σ2 tag2 σ' → SL.Read ro σ' ⟨some ⟨x, 0, none⟩, 1, 1⟩ [vU 120] → K (Sl.v ⟨some ⟨x, 0, none⟩, 1, 1⟩) σ') → awp Tryz.prog ro (convert 30 30 (Sl.v ⟨some ⟨x, 0, none⟩, 1, 1⟩)) K σ2 := by
    intro K hK
    rcases r2 with ⟨h, _⟩ | ⟨b', cs, ha, ht, hb, hln, hc, hle, hg⟩
    · cases h
    · cases ha
      have hrd : SL.rd ro σ2 x = some (.cells cs 5) := by unfold SL.rd; rw [hs2 x _ hb]; exact hb
      unfold convert
      simp only [bind_def]
      rw [awp_underlying u30, awp_underlying u30]
      simp only [Sl.v]
      rw [awp_underlying u5]
      refine ⟨.cells cs 5, hrd, ?_⟩
      refine ⟨by decide, .cells cs 5, hb, ?_⟩
      refine hK _ (step_obj hs2 ht hb) ⟨rfl, (fun h => by cases h), fun p hp i v hv => ?_⟩
      cases hp
      rcases i with _ | i
      · cases hv
        rw [add_zero]
        unfold acell SL.rd
        rw [hs2 x _ hb]
        simp only [upd_same]
        show (if (⟨x, 0, none⟩ : Addr).spot.isSome then none else cs[0]?) = _
        rw [if_neg (by simp), hg 0 (by simp)]; rfl
      · cases hv
  refine hcv _ fun σx stx rdx => ⟨_, rfl, ?_⟩
  have h2 := h2.keep stx (by simp)
  refine create_ok (d := [120]) g (by decide) (by decide) (by decide) h2 rdx (by decide) fun tag3 σ3 st3 h3 => ?_
  have e1 : (create St.new (L (⟨#[47, 97]⟩ : ByteArray)) [120] 0 false).2 = ([47, 97], 0) := by decide
  rw [show (create St.new (L (⟨#[47, 97]⟩ : ByteArray)) [120] 0 false).2.1 = [47, 97] from by rw [e1], show (create St.new (L (⟨#[47, 97]⟩ : ByteArray)) [120] 0 false).2.2 = 0 from by rw [e1]]
  refine create_ok (d := []) g (by decide) (by decide) (by decide) h3 ⟨rfl, fun _ => rfl, fun p h => by cases h⟩ (by decide) fun tag4 σ4 st4 h4 => ?_
  have e2 : (create (create St.new (L (⟨#[47, 97]⟩ : ByteArray)) [120] 0 false).1 (L (⟨#[47, 97, 47, 115]⟩ : ByteArray)) [] 0 true).2 = ([47, 97, 47, 115, 48, 48, 48, 48, 48, 48, 48, 48, 48, 48], 0) := by decide
  have e3 : (create (create St.new (L (⟨#[47, 97]⟩ : ByteArray)) [120] 0 false).1 (L (⟨#[47, 97, 47, 115]⟩ : ByteArray)) [] 0 true).1.length = 3 := by decide
  generalize create (create St.new (L (⟨#[47, 97]⟩ : ByteArray)) [120] 0 false).1 (L (⟨#[47, 97, 47, 115]⟩ : ByteArray)) [] 0 true = y at e2 e3 h4
  rw [e2]
  rw [if_pos (by decide)]
  obtain ⟨M, bs, hA⟩ := h4
  refine size_ok hA ?_
  unfold j8_law07_awake
  rw [e3]
  exact hQ _ st4.sep

end Go.Proofs.YthfpmipeejjogaaGreatDoor.Zt

/- Trees that are the same but for their order go on the same; ZtreeBack, the walk. -/
namespace Go.Proofs.YthfpmipeejjogaaGreatDoor.Zt
open Go Go.Proofs.YthfpmipeejjogaaGreatDoor.SL Go.Proofs.YthfpmipeejjogaaGreatDoor.G Go.Proofs.YthfpmipeejjogaaGreatDoor.Pa
set_option linter.unusedSimpArgs false
set_option linter.unusedVariables false
variable {B : World} {ro σ σ' : AH} {tag tag' : Nat → Nat}

theorem encL_len (x : St) : (∀ p ∈ x, p.1.length ≤ 128 ∧ p.2.data.length ≤ 256 ∧ numsOk p.2 = true) → (encL x).length ≤ 512 * x.length := by
  induction x with
  | nil => intro _; simp [encL]
  | cons p x ih =>
    intro h
    have := ih fun q hq => h q (by simp [hq])
    obtain ⟨h1, h2, h3⟩ := h p (by simp)
    unfold encL at this ⊢
    rw [List.flatMap_cons, List.length_append, List.length_cons]
    unfold numsOk Wi.rightN at h3
    simp only [Bool.and_eq_true, decide_eq_true_eq] at h3
    have l1 := (Wi.vput_len 8 p.1.length (by omega)).2
    have l2 := (Wi.vput_len 8 p.2.data.length (by omega)).2
    have l3 := (Wi.vput_len 8 p.2.ver.toNat (by omega)).2
    have l4 := (Wi.vput_len 8 p.2.ctr.toNat (by omega)).2
    have l5 := (Wi.vput_len 8 p.2.own.toNat (by omega)).2
    have : (encN p).length ≤ 512 := by
      unfold encN Wi.blob
      simp only [List.length_append]
      omega
    omega
end Go.Proofs.YthfpmipeejjogaaGreatDoor.Zt

/- Functions as predicate transformers, and the proofs that the code does what they tell: printed by wip/tools/gen.py. -/
namespace Go.Proofs.YthfpmipeejjogaaGreatDoor.G
open Go Go.Proofs.YthfpmipeejjogaaGreatDoor.SL
set_option linter.unusedVariables false
set_option linter.unusedSimpArgs false

def j4_ref07_Decode (B : World) (ro : AH) (x15_2 : Nat) (Q : Option Addr → Bool → AH → Prop) (σ : AH) : Prop :=
 ∃ (x170_5 : Sl), acell ro σ ⟨x15_2, 0, none⟩ = some (Sl.v x170_5) ∧
 Q (some ⟨x15_2, 0, none⟩) (decide (0 < (x170_5.len : Int))) σ

def l6_ref07_Decode (B : World) (ro : AH) (x15_2 : Nat) (Q : Option Addr → Bool → AH → Prop) : (Int) → AH → ((Int) → AH → Prop) → Prop := fun x10_7 σ Y6 =>
 ∃ (x142_8 : Sl), acell ro σ ⟨x15_2, 0, none⟩ = some (Sl.v x142_8) ∧
 if x10_7 < (x142_8.len : Int) then
  lent σ fun ψ σ =>
   ∃ (x150_9 : Sl), acell (join ro ψ) (fun _ => none) ⟨x15_2, 0, none⟩ = some (Sl.v x150_9) ∧
   ∃ p152_10 : Addr, x150_9.a = some p152_10 ∧ (0 : Int) ≤ x10_7 ∧ x10_7 < (x150_9.len : Int) ∧
   ∃ (x154_11 : Int), acell (join ro ψ) (fun _ => none) ((p152_10.add (Int.toNat x10_7 * 5)).add 3) = some (.int .i64 x154_11) ∧
   ∃ (x159_12 : Sl), acell (join ro ψ) σ ⟨x15_2, 0, none⟩ = some (Sl.v x159_12) ∧
   ∃ p161_13 : Addr, x159_12.a = some p161_13 ∧ (0 : Int) ≤ x10_7 ∧ x10_7 < (x159_12.len : Int) ∧
   ∃ (x163_14 : ByteArray), acell (join ro ψ) σ (p161_13.add (Int.toNat x10_7 * 5)) = some (.string x163_14) ∧
   c_ref07_Tree_below B (join ro ψ) (some ⟨x15_2, 0, none⟩) x163_14 σ fun x164_15 σ =>
   (Disj ψ σ → (fun σ => 
    if x154_11 < x164_15 then
     Q none false σ
    else
    Y6 (IntKind.i64.wrap (x10_7 + 1)) σ) (join ψ σ))
 else
 j4_ref07_Decode B ro x15_2 Q σ

def j3_ref07_Decode (B : World) (ro : AH) (x15_2 : Nat) (Q : Option Addr → Bool → AH → Prop) (σ : AH) : Prop :=
 lfpD (l6_ref07_Decode B ro x15_2 Q ) (0) σ

def j32_ref07_Decode (B : World) (ro : AH) (x6_20 : Nat) (x13_1 : Nat) (x15_2 : Nat) (Q : Option Addr → Bool → AH → Prop) (Y16 : (Unit) → AH → Prop) (σ : AH) : Prop :=
 ∃ (x132_33 : Sl), acell ro σ ⟨x15_2, 0, none⟩ = some (Sl.v x132_33) ∧
 ∃ (x133_34a : ByteArray) (x133_34b : Sl) (x133_34c : Int) (x133_34d : Int) (x133_34e : Int), cellsAt ro σ ⟨x6_20, 0, none⟩ 0 [.string x133_34a, Sl.v x133_34b, .int .i64 x133_34c, .int .i64 x133_34d, .int .i64 x133_34e] ∧
 nw ro σ (.cells #[.string x133_34a, Sl.v x133_34b, .int .i64 x133_34c, .int .i64 x133_34d, .int .i64 x133_34e] 159) fun x134_35 σ =>
 awp Tryz.prog ro (Builtin.append_ #[155, 155] 155 #[Sl.v x132_33, Sl.v (⟨some ⟨x134_35, 0, none⟩, 1, 1⟩ : Sl)]) (fun v σ => ∃ (x135_36 : Sl), v = Sl.v x135_36 ∧
  stN ⟨x15_2, 0, none⟩ (fun σ =>
   Y16 () σ) [Sl.v x135_36] 0 σ) σ

def j43_ref07_Decode (B : World) (ro : AH) (x6_20 : Nat) (x13_1 : Nat) (x15_2 : Nat) (Q : Option Addr → Bool → AH → Prop) (Y16 : (Unit) → AH → Prop) (x85_44 : Bool) (σ : AH) : Prop :=
 if x85_44 = true then
  Q none false σ
 else
 j32_ref07_Decode B ro x6_20 x13_1 x15_2 Q Y16 σ

def j41_ref07_Decode (B : World) (ro : AH) (x6_20 : Nat) (x13_1 : Nat) (x15_2 : Nat) (Q : Option Addr → Bool → AH → Prop) (Y16 : (Unit) → AH → Prop) (x80_42 : Bool) (σ : AH) : Prop :=
 if x80_42 = true then
  j43_ref07_Decode B ro x6_20 x13_1 x15_2 Q Y16 true σ
 else
 ∃ (x83_45 : Int), acell ro σ ((⟨x6_20, 0, none⟩ : Addr).add 4) = some (.int .i64 x83_45) ∧
 j43_ref07_Decode B ro x6_20 x13_1 x15_2 Q Y16 (!(decide (x83_45 = 0))) σ

def j39_ref07_Decode (B : World) (ro : AH) (x6_20 : Nat) (x13_1 : Nat) (x15_2 : Nat) (Q : Option Addr → Bool → AH → Prop) (Y16 : (Unit) → AH → Prop) (x75_40 : Bool) (σ : AH) : Prop :=
 if x75_40 = true then
  j41_ref07_Decode B ro x6_20 x13_1 x15_2 Q Y16 true σ
 else
 ∃ (x78_46 : Int), acell ro σ ((⟨x6_20, 0, none⟩ : Addr).add 2) = some (.int .i64 x78_46) ∧
 j41_ref07_Decode B ro x6_20 x13_1 x15_2 Q Y16 (!(decide (x78_46 = 0))) σ

def j54_ref07_Decode (B : World) (ro : AH) (x6_20 : Nat) (x13_1 : Nat) (x15_2 : Nat) (Q : Option Addr → Bool → AH → Prop) (Y16 : (Unit) → AH → Prop) (x127_55 : Bool) (σ : AH) : Prop :=
 if x127_55 = true then
  Q none false σ
 else
 j32_ref07_Decode B ro x6_20 x13_1 x15_2 Q Y16 σ

def j51_ref07_Decode (B : World) (ro : AH) (x6_20 : Nat) (x13_1 : Nat) (x15_2 : Nat) (x89_49 : ByteArray) (Q : Option Addr → Bool → AH → Prop) (Y16 : (Unit) → AH → Prop) (x111_52 : Bool) (σ : AH) : Prop :=
 if x111_52 = true then
  Q none false σ
 else
 c_ref07_Tree_Find B ro (some ⟨x15_2, 0, none⟩) x89_49 σ fun x114_53 σ =>
 if x114_53 < 0 then
  j54_ref07_Decode B ro x6_20 x13_1 x15_2 Q Y16 true σ
 else
 ∃ (x121_56 : Sl), acell ro σ ⟨x15_2, 0, none⟩ = some (Sl.v x121_56) ∧
 ∃ p123_57 : Addr, x121_56.a = some p123_57 ∧ (0 : Int) ≤ x114_53 ∧ x114_53 < (x121_56.len : Int) ∧
 ∃ (x125_58 : Int), acell ro σ ((p123_57.add (Int.toNat x114_53 * 5)).add 4) = some (.int .i64 x125_58) ∧
 j54_ref07_Decode B ro x6_20 x13_1 x15_2 Q Y16 (!(decide (x125_58 = 0))) σ

def j30_ref07_Decode (B : World) (ro : AH) (x6_20 : Nat) (x13_1 : Nat) (x15_2 : Nat) (Q : Option Addr → Bool → AH → Prop) (Y16 : (Unit) → AH → Prop) (x60_31 : Bool) (σ : AH) : Prop :=
 if x60_31 = true then
  Q none false σ
 else
 ∃ (x64_37 : Sl), acell ro σ ⟨x15_2, 0, none⟩ = some (Sl.v x64_37) ∧
 if (x64_37.len : Int) = 0 then
  ∃ (x68_38 : ByteArray), acell ro σ ⟨x6_20, 0, none⟩ = some (.string x68_38) ∧
  if ¬ (x68_38 = (⟨#[47]⟩ : ByteArray)) then
   j39_ref07_Decode B ro x6_20 x13_1 x15_2 Q Y16 true σ
  else
  ∃ (x72_47 : Sl), acell ro σ ((⟨x6_20, 0, none⟩ : Addr).add 1) = some (Sl.v x72_47) ∧
  j39_ref07_Decode B ro x6_20 x13_1 x15_2 Q Y16 (decide (0 < (x72_47.len : Int))) σ
 else
 ∃ (x88_48 : ByteArray), acell ro σ ⟨x6_20, 0, none⟩ = some (.string x88_48) ∧
 c_ref02_Parent B ro x88_48 σ fun x89_49 x89_50 σ =>
 if ¬ (x89_50 = true) then
  j51_ref07_Decode B ro x6_20 x13_1 x15_2 x89_49 Q Y16 true σ
 else
 ∃ (x96_59 : ByteArray), acell ro σ ⟨x6_20, 0, none⟩ = some (.string x96_59) ∧
 ∃ (x100_60 : Sl), acell ro σ ⟨x15_2, 0, none⟩ = some (Sl.v x100_60) ∧
 ∃ (x104_61 : Sl), acell ro σ ⟨x15_2, 0, none⟩ = some (Sl.v x104_61) ∧
 ∃ p107_62 : Addr, x100_60.a = some p107_62 ∧ (0 : Int) ≤ (IntKind.i64.wrap ((x104_61.len : Int) - 1)) ∧ (IntKind.i64.wrap ((x104_61.len : Int) - 1)) < (x100_60.len : Int) ∧
 ∃ (x109_63 : ByteArray), acell ro σ (p107_62.add (Int.toNat (IntKind.i64.wrap ((x104_61.len : Int) - 1)) * 5)) = some (.string x109_63) ∧
 j51_ref07_Decode B ro x6_20 x13_1 x15_2 x89_49 Q Y16 ((lessS x96_59 x109_63) || (decide (x96_59 = x109_63))) σ

def j65_ref07_Decode (B : World) (ro : AH) (x6_20 : Nat) (x13_1 : Nat) (x15_2 : Nat) (x50_29 : Bool) (Q : Option Addr → Bool → AH → Prop) (Y16 : (Unit) → AH → Prop) (x59_66 : Bool) (σ : AH) : Prop :=
 j30_ref07_Decode B ro x6_20 x13_1 x15_2 Q Y16 x59_66 σ

def j28_ref07_Decode (B : World) (ro : AH) (x6_20 : Nat) (x13_1 : Nat) (x15_2 : Nat) (Q : Option Addr → Bool → AH → Prop) (Y16 : (Unit) → AH → Prop) (x50_29 : Bool) (σ : AH) : Prop :=
 if x50_29 = true then
  j30_ref07_Decode B ro x6_20 x13_1 x15_2 Q Y16 true σ
 else
 ∃ (x53_64 : Int), acell ro σ ((⟨x6_20, 0, none⟩ : Addr).add 4) = some (.int .i64 x53_64) ∧
 if ¬ (x53_64 = 0) then
  ∃ (x57_67 : Int), acell ro σ ((⟨x6_20, 0, none⟩ : Addr).add 3) = some (.int .i64 x57_67) ∧
  j65_ref07_Decode B ro x6_20 x13_1 x15_2 x50_29 Q Y16 (!(decide (x57_67 = 0))) σ
 else
 j65_ref07_Decode B ro x6_20 x13_1 x15_2 x50_29 Q Y16 false σ

def j26_ref07_Decode (B : World) (ro : AH) (x6_20 : Nat) (x13_1 : Nat) (x15_2 : Nat) (Q : Option Addr → Bool → AH → Prop) (Y16 : (Unit) → AH → Prop) (x45_27 : Bool) (σ : AH) : Prop :=
 if x45_27 = true then
  j28_ref07_Decode B ro x6_20 x13_1 x15_2 Q Y16 true σ
 else
 ∃ (x48_68 : Int), acell ro σ ((⟨x6_20, 0, none⟩ : Addr).add 3) = some (.int .i64 x48_68) ∧
 j28_ref07_Decode B ro x6_20 x13_1 x15_2 Q Y16 (decide (10000000000 < x48_68)) σ

def l16_ref07_Decode (B : World) (ro : AH) (x13_1 : Nat) (x15_2 : Nat) (Q : Option Addr → Bool → AH → Prop) : (Unit) → AH → ((Unit) → AH → Prop) → Prop := fun _ σ Y16 =>
 c_ref01_Reader_Left B ro (some ⟨x13_1, 0, none⟩) σ fun x17_17 σ =>
 if 0 < x17_17 then
  c_ref01_Reader_Blob B ro (some ⟨x13_1, 0, none⟩) σ fun x20_18 σ =>
  awp Tryz.prog ro (convert 30 9 (Sl.v x20_18)) (fun v σ =>
   (∃ (x21_19 : ByteArray), v = .string x21_19 ∧
    nw ro σ (.cells #[.string ByteArray.empty, Sl.v (⟨none, 0, 0⟩ : Sl), .int .i64 0, .int .i64 0, .int .i64 0] 159) fun x6_20 σ =>
    stN ⟨x6_20, 0, none⟩ (fun σ =>
     c_ref01_Reader_Blob B ro (some ⟨x13_1, 0, none⟩) σ fun x24_21 σ =>
     stN ((⟨x6_20, 0, none⟩ : Addr).add 1) (fun σ =>
      c_ref01_Reader_Num B ro (some ⟨x13_1, 0, none⟩) σ fun x27_22 σ =>
      stN ((⟨x6_20, 0, none⟩ : Addr).add 2) (fun σ =>
       c_ref01_Reader_Num B ro (some ⟨x13_1, 0, none⟩) σ fun x30_23 σ =>
       stN ((⟨x6_20, 0, none⟩ : Addr).add 3) (fun σ =>
        c_ref01_Reader_Num B ro (some ⟨x13_1, 0, none⟩) σ fun x33_24 σ =>
        stN ((⟨x6_20, 0, none⟩ : Addr).add 4) (fun σ =>
         ∃ (x38_25 : Int), acell ro σ ((⟨x13_1, 0, none⟩ : Addr).add 2) = some (.int .i64 x38_25) ∧
         if ¬ (x38_25 = 0) then
          j26_ref07_Decode B ro x6_20 x13_1 x15_2 Q Y16 true σ
         else
         ∃ (x42_69 : Sl), acell ro σ ((⟨x6_20, 0, none⟩ : Addr).add 1) = some (Sl.v x42_69) ∧
         j26_ref07_Decode B ro x6_20 x13_1 x15_2 Q Y16 (decide (256 < (x42_69.len : Int))) σ) [.int .i64 x33_24] 0 σ) [.int .i64 x30_23] 0 σ) [.int .i64 x27_22] 0 σ) [Sl.v x24_21] 0 σ) [.string x21_19, Sl.v (⟨none, 0, 0⟩ : Sl), .int .i64 0, .int .i64 0, .int .i64 0] 0 σ)) σ
 else
 j3_ref07_Decode B ro x15_2 Q σ

def f_ref07_Decode (B : World) (ro : AH) (a0 : Sl) (σ : AH) (Q : Option Addr → Bool → AH → Prop) : Prop :=
 nw ro σ (.cells #[Sl.v a0, .int .i64 0, .int .i64 0] 154) fun x13_1 σ =>
 nw ro σ (.cells #[Sl.v (⟨none, 0, 0⟩ : Sl)] 157) fun x15_2 σ =>
 lfpD (l16_ref07_Decode B ro x13_1 x15_2 Q ) () σ

set_option maxRecDepth 100000 in
set_option maxHeartbeats 4000000 in
theorem ref07_Decode_ok {B : World} {ro : AH} {a0 : Sl} {σ : AH} {Q : Option Addr → Bool → AH → Prop} (h : Sep ro σ → f_ref07_Decode B ro a0 σ Q) : c_ref07_Decode B ro a0 σ Q := by
  refine ACalls.of_sep fun hsep => ?_
  replace h := h hsep
  refine ACalls.of_body (args := [Sl.v a0]) Tryz.func28 rfl (by rw [Tryz.ntmps28]; simp) ?_
  rw [Tryz.ntmps28]
  unfold f_ref07_Decode at h
  refine AW.seq ?_
  refine AW.reg ?_
  refine Lp (V_asg rfl rfl) rfl rfl ?_
  refine Lp (V_asg rfl rfl) rfl rfl ?_
  refine Lnil ?_
  refine thenN ?_
  refine AW.seq ?_
  refine AW.reg ?_
  refine Lp (V_move rfl rfl) rfl rfl ?_
  refine Lp (V_bld (vs := [(0, Sl.v a0)]) (cs := #[Sl.v a0, .int .i64 0, .int .i64 0]) rfl Tryz.underlying154 ty154 pl154 rfl rfl) rfl rfl ?_
  refine Ls rfl rfl (X_new (A_box rfl rfl) fun x13_1 g1 g2 => ?_)
  replace h := h x13_1 g1 g2
  refine Lp (V_asg rfl rfl) rfl rfl ?_
  refine Lnil ?_
  refine thenN ?_
  refine AW.seq ?_
  refine AW.reg ?_
  refine Lp (V_bld (vs := []) (cs := #[Sl.v (⟨none, 0, 0⟩ : Sl)]) rfl Tryz.underlying157 ty157 pl157 rfl rfl) rfl rfl ?_
  refine Ls rfl rfl (X_new (A_box rfl rfl) fun x15_2 g1 g2 => ?_)
  replace h := h x15_2 g1 g2
  refine Lp (V_asg rfl rfl) rfl rfl ?_
  refine Lnil ?_
  refine thenN ?_
  refine AW.seqJ (fun fr σ => FrLe [(5, .pointer (some ⟨x15_2, 0, none⟩))] fr ∧ j3_ref07_Decode B ro x15_2 Q σ) ?_ ?_
  · rintro fr σ ⟨hl, h⟩
    refine AW.weaken ?_ hl (HLe.refl _)
    unfold j3_ref07_Decode at h
    refine AW.seqJ (fun fr σ => FrLe [(5, .pointer (some ⟨x15_2, 0, none⟩))] fr ∧ j4_ref07_Decode B ro x15_2 Q σ) ?_ ?_
    · rintro fr σ ⟨hl, h⟩
      refine AW.weaken ?_ hl (HLe.refl _)
      unfold j4_ref07_Decode at h
      refine AW.seq ?_
      refine AW.drawn0 (fun i => ([0, 0, 0, 0, 3, 0, 0, 0, 0] : List Nat).getD i 2) [] [0, 1, 2, 3, 7, 4, 5, 6, 8] Tryz.mixed (by decide +kernel) ?_
      refine Dp rfl rfl rfl rfl (V_move rfl rfl) ?_
      refine Dp rfl rfl rfl rfl (V_move rfl rfl) ?_
      refine Dp rfl rfl rfl rfl (V_nil rfl rfl) ?_
      refine Dp rfl rfl rfl rfl (V_fld rfl Tryz.underlying157 rfl ty155 (by decide) rfl) ?_
      refine Dp rfl rfl rfl rfl (V_asg rfl rfl) ?_
      obtain ⟨x170_5, hc, h⟩ := h
      refine Dr rfl rfl rfl rfl (R_ld rfl Tryz.underlying155 rfl rfl hc) ?_
      refine Dp rfl rfl rfl rfl (V_lenL rfl rfl Tryz.underlying155 rfl rfl) ?_
      refine Dp rfl rfl rfl rfl (V_gtr rfl rfl rfl) ?_
      refine Dp rfl rfl rfl rfl (V_asg rfl rfl) ?_
      refine Dend ?_
      refine thenN ?_
      refine AW.ret ?_
      exact bR2 Tryz.results28 rfl rfl ⟨_, _, rfl, h⟩
    refine AW.seq ?_
    refine AW.reg ?_
    refine Lp (V_asg rfl rfl) rfl rfl ?_
    refine Lnil ?_
    refine thenN ?_
    refine AW.block ?_
    refine ARound.loop (fr' := [(5, .pointer (some ⟨x15_2, 0, none⟩)), (10, .int .i64 0)]) ?_ (FrLe.cons rfl (FrLe.cons rfl (FrLe.nil _)))
    refine h (fun x10_7 σ => ARound _ _ _ _ _ _ [(5, .pointer (some ⟨x15_2, 0, none⟩)), (10, .int .i64 x10_7)] σ) ?_
    rintro x10_7 σ Y6 hY6 h
    show AW _ _ _ _ _ _ _ _
    unfold l6_ref07_Decode at h
    refine AW.seq ?_
    refine AW.seq ?_
    refine AW.reg ?_
    refine Lp (V_move rfl rfl) rfl rfl ?_
    refine Lp (V_move rfl rfl) rfl rfl ?_
    refine Lp (V_nil rfl rfl) rfl rfl ?_
    refine Lp (V_fld rfl Tryz.underlying157 rfl ty155 (by decide) rfl) rfl rfl ?_
    obtain ⟨x142_8, hc, h⟩ := h
    refine Ls rfl rfl (X_ld rfl Tryz.underlying155 rfl rfl hc ?_)
    refine Lp (V_lenL rfl rfl Tryz.underlying155 rfl rfl) rfl rfl ?_
    refine Lp (V_lss rfl rfl rfl) rfl rfl ?_
    refine Lnil ?_
    refine thenN ?_
    refine AW.iff rfl decide_eq_true_iff h (fun h => ?_) (fun h => ?_)
    rotate_left
    · refine AW.exit ?_
      refine thenE ?_
      refine thenE ?_
      refine blockE ?_
      refine thenN ?_
      exact ⟨(FrLe.cons rfl (FrLe.nil _)), h⟩
    refine AW.skip ?_
    refine thenN ?_
    refine AW.seq ?_
    refine AW.block ?_
    refine AW.seq ?_
    refine AW.drawnL (fun i => ([0, 0, 0, 0, 0, 0, 0, 0, 0, 0, 0, 0, 3, 0, 0, 0, 3, 2, 0] : List Nat).getD i 2) [(12, 14), (12, 15), (12, 16), (12, 17)] [0, 1, 2, 3, 4, 5, 6, 7, 8, 9, 10, 11, 13, 12, 14, 15, 16, 17, 18] Tryz.mixed h (by decide +kernel) ?_
    clear h
    intro ψ σ h
    refine Dp rfl rfl rfl rfl (V_move rfl rfl) ?_
    refine Dp rfl rfl rfl rfl (V_nil rfl rfl) ?_
    refine Dp rfl rfl rfl rfl (V_fld rfl Tryz.underlying157 rfl ty155 (by decide) rfl) ?_
    obtain ⟨x150_9, hc, h⟩ := h
    refine Dp rfl rfl rfl rfl (V_ld rfl Tryz.underlying155 rfl rfl hc) ?_
    refine Dp rfl rfl rfl rfl (V_move rfl rfl) ?_
    obtain ⟨p152_10, ha, h0, h1, h⟩ := h
    refine Dp rfl rfl rfl rfl (V_ixA rfl Tryz.underlying155 ty159 (ixL rfl ha) rfl h0 h1) ?_
    refine Dp rfl rfl rfl rfl (V_fld rfl Tryz.underlying159 rfl ty3 (by decide) rfl) ?_
    obtain ⟨x154_11, hc, h⟩ := h
    refine Dp rfl rfl rfl rfl (V_ld rfl Tryz.underlying3 rfl rfl hc) ?_
    refine Dp rfl rfl rfl rfl (V_move rfl rfl) ?_
    refine Dp rfl rfl rfl rfl (V_move rfl rfl) ?_
    refine Dp rfl rfl rfl rfl (V_nil rfl rfl) ?_
    refine Dp rfl rfl rfl rfl (V_fld rfl Tryz.underlying157 rfl ty155 (by decide) rfl) ?_
    refine Dp rfl rfl rfl rfl (V_move rfl rfl) ?_
    obtain ⟨x159_12, hc, h⟩ := h
    refine Dr rfl rfl rfl rfl (R_ld rfl Tryz.underlying155 rfl rfl hc) ?_
    obtain ⟨p161_13, ha, h0, h1, h⟩ := h
    refine Dp rfl rfl rfl rfl (V_ixA rfl Tryz.underlying155 ty159 (ixL rfl ha) rfl h0 h1) ?_
    refine Dp rfl rfl rfl rfl (V_fld rfl Tryz.underlying159 rfl ty9 (by decide) rfl) ?_
    obtain ⟨x163_14, hc, h⟩ := h
    refine Dr rfl rfl rfl rfl (R_ld rfl Tryz.underlying9 rfl rfl hc) ?_
    refine Dg rfl rfl rfl rfl (X_call rfl Tryz.func85 rfl rfl rfl (ACalls.mono h ?_))
    rintro v σ ⟨x164_15, rfl, h⟩
    refine Dp rfl rfl rfl rfl (V_lss rfl rfl rfl) ?_
    refine ⟨_, FrEq.refl _, fun hdj => ?_⟩
    replace h := h hdj
    refine thenN ?_
    refine AW.iff rfl decide_eq_true_iff h (fun h => ?_) (fun h => ?_)
    · refine AW.seq ?_
      refine AW.reg ?_
      refine Lp (V_asg rfl rfl) rfl rfl ?_
      refine Lp (V_asg rfl rfl) rfl rfl ?_
      refine Lnil ?_
      refine thenN ?_
      refine AW.ret ?_
      refine blockR ?_
      refine thenR ?_
      refine thenR ?_
      refine blockR ?_
      refine thenR ?_
      exact bR2 Tryz.results28 rfl rfl ⟨_, _, rfl, h⟩
    refine AW.skip ?_
    refine blockN ?_
    refine thenN ?_
    refine AW.reg ?_
    refine Lp (V_move rfl rfl) rfl rfl ?_
    refine Lp (V_add rfl rfl rfl) rfl rfl ?_
    refine Lp (V_asg rfl rfl) rfl rfl ?_
    refine Lnil ?_
    refine thenN ?_
    refine ARound.head (fr' := [(5, .pointer (some ⟨x15_2, 0, none⟩)), (10, .int .i64 (IntKind.i64.wrap (x10_7 + 1)))]) ?_ (FrLe.cons rfl (FrLe.cons rfl (FrLe.nil _)))
    exact hY6 _ _ h
  refine AW.block ?_
  refine ARound.loop (fr' := [(4, .pointer (some ⟨x13_1, 0, none⟩)), (5, .pointer (some ⟨x15_2, 0, none⟩))]) ?_ (FrLe.cons rfl (FrLe.cons rfl (FrLe.nil _)))
  refine h (fun _ σ => ARound _ _ _ _ _ _ [(4, .pointer (some ⟨x13_1, 0, none⟩)), (5, .pointer (some ⟨x15_2, 0, none⟩))] σ) ?_
  rintro _ σ Y16 hY16 h
  show AW _ _ _ _ _ _ _ _
  unfold l16_ref07_Decode at h
  refine AW.seq ?_
  refine AW.seq ?_
  refine AW.reg ?_
  refine Lp (V_move rfl rfl) rfl rfl ?_
  refine Ls rfl rfl (X_call rfl Tryz.func81 rfl rfl rfl (ACalls.mono h ?_))
  rintro v σ ⟨x17_17, rfl, h⟩
  refine Lp (V_gtr rfl rfl rfl) rfl rfl ?_
  refine Lnil ?_
  refine thenN ?_
  refine AW.iff rfl decide_eq_true_iff h (fun h => ?_) (fun h => ?_)
  rotate_left
  · refine AW.exit ?_
    refine thenE ?_
    refine thenE ?_
    refine blockE ?_
    refine thenN ?_
    exact ⟨(FrLe.cons rfl (FrLe.nil _)), h⟩
  refine AW.skip ?_
  refine thenN ?_
  refine AW.block ?_
  refine AW.seq ?_
  refine AW.reg ?_
  refine Lp (V_move rfl rfl) rfl rfl ?_
  refine Ls rfl rfl (X_call rfl Tryz.func82 rfl rfl rfl (ACalls.mono h ?_))
  rintro v σ ⟨x20_18, rfl, h⟩
  refine Ls rfl rfl (X_cvt rfl rfl (awp_mono _ h ?_))
  rintro v σ ⟨x21_19, rfl, h⟩
  refine Lp (V_bld (vs := [(0, .string x21_19)]) (cs := #[.string x21_19, Sl.v (⟨none, 0, 0⟩ : Sl), .int .i64 0, .int .i64 0, .int .i64 0]) rfl Tryz.underlying159 ty159 pl159 rfl rfl) rfl rfl ?_
  refine Ls rfl rfl (X_new (A_alloc rfl ty159) fun x6_20 g1 g2 => ?_)
  replace h := h x6_20 g1 g2
  refine Ls rfl rfl (X_st rfl ty159 rfl rfl rfl rfl (stN_mono h fun σ h => ?_))
  refine Lnil ?_
  refine thenN ?_
  refine AW.seq ?_
  refine AW.reg ?_
  refine Lp (V_move rfl rfl) rfl rfl ?_
  refine Ls rfl rfl (X_call rfl Tryz.func82 rfl rfl rfl (ACalls.mono h ?_))
  rintro v σ ⟨x24_21, rfl, h⟩
  refine Lp (V_fld rfl Tryz.underlying159 rfl ty30 (by decide) rfl) rfl rfl ?_
  refine Ls rfl rfl (X_st rfl ty30 rfl rfl rfl rfl (stN_mono h fun σ h => ?_))
  refine Lnil ?_
  refine thenN ?_
  refine AW.seq ?_
  refine AW.reg ?_
  refine Lp (V_move rfl rfl) rfl rfl ?_
  refine Ls rfl rfl (X_call rfl Tryz.func83 rfl rfl rfl (ACalls.mono h ?_))
  rintro v σ ⟨x27_22, rfl, h⟩
  refine Lp (V_fld rfl Tryz.underlying159 rfl ty3 (by decide) rfl) rfl rfl ?_
  refine Ls rfl rfl (X_st rfl ty3 rfl rfl rfl rfl (stN_mono h fun σ h => ?_))
  refine Lnil ?_
  refine thenN ?_
  refine AW.seq ?_
  refine AW.reg ?_
  refine Lp (V_move rfl rfl) rfl rfl ?_
  refine Ls rfl rfl (X_call rfl Tryz.func83 rfl rfl rfl (ACalls.mono h ?_))
  rintro v σ ⟨x30_23, rfl, h⟩
  refine Lp (V_fld rfl Tryz.underlying159 rfl ty3 (by decide) rfl) rfl rfl ?_
  refine Ls rfl rfl (X_st rfl ty3 rfl rfl rfl rfl (stN_mono h fun σ h => ?_))
  refine Lnil ?_
  refine thenN ?_
  refine AW.seq ?_
  refine AW.reg ?_
  refine Lp (V_move rfl rfl) rfl rfl ?_
  refine Ls rfl rfl (X_call rfl Tryz.func83 rfl rfl rfl (ACalls.mono h ?_))
  rintro v σ ⟨x33_24, rfl, h⟩
  refine Lp (V_fld rfl Tryz.underlying159 rfl ty3 (by decide) rfl) rfl rfl ?_
  refine Ls rfl rfl (X_st rfl ty3 rfl rfl rfl rfl (stN_mono h fun σ h => ?_))
  refine Lnil ?_
  refine thenN ?_
  refine AW.seq ?_
  refine AW.seq ?_
  refine AW.reg ?_
  refine Lp (V_move rfl rfl) rfl rfl ?_
  refine Lp (V_nil rfl rfl) rfl rfl ?_
  refine Lp (V_fld rfl Tryz.underlying154 rfl ty3 (by decide) rfl) rfl rfl ?_
  obtain ⟨x38_25, hc, h⟩ := h
  refine Ls rfl rfl (X_ld rfl Tryz.underlying3 rfl rfl hc ?_)
  refine Lp (V_neq rfl rfl rfl) rfl rfl ?_
  refine Lp (V_move rfl rfl) rfl rfl ?_
  refine LsplitJ 5 (!(decide (x38_25 = 0))) (bnot_iff decide_eq_true_iff) h (fun fr σ => ∃ (x45_27 : Bool), FrLe [(4, .pointer (some ⟨x13_1, 0, none⟩)), (5, .pointer (some ⟨x15_2, 0, none⟩)), (6, .pointer (some ⟨x6_20, 0, none⟩)), (45, .bool x45_27)] fr ∧ j26_ref07_Decode B ro x6_20 x13_1 x15_2 Q Y16 x45_27 σ) ?_ ?_ ?_
  · intro h e5 hk5
    refine Ln rfl rfl rfl rfl (.inl (by rw [e5]; rfl)) ?_
    refine Ln rfl rfl rfl rfl (.inl (by rw [e5]; rfl)) ?_
    refine Ln rfl rfl rfl rfl (.inl (by rw [e5]; rfl)) ?_
    refine Ln rfl rfl rfl rfl (.inl (by rw [e5]; rfl)) ?_
    refine Lp (V_pickT rfl (evb e5) rfl) rfl rfl ?_
    exact hk5 _ _ ⟨_, (FrLe.cons rfl (FrLe.cons rfl (FrLe.cons rfl (FrLe.cons rfl (FrLe.nil _))))), h⟩
  · intro h e5 hk5
    refine Lypb (V_fld rfl Tryz.underlying159 rfl ty30 (by decide) rfl) rfl rfl rfl rfl e5 ?_
    obtain ⟨x42_69, hc, h⟩ := h
    refine Lyb rfl rfl rfl rfl e5 (X_ld rfl Tryz.underlying30 rfl rfl hc ?_)
    refine Lypb (V_lenL rfl rfl Tryz.underlying30 rfl rfl) rfl rfl rfl rfl e5 ?_
    refine Lypb (V_gtr rfl rfl rfl) rfl rfl rfl rfl e5 ?_
    refine Lp (V_pickF rfl (evb e5) rfl) rfl rfl ?_
    exact hk5 _ _ ⟨_, (FrLe.cons rfl (FrLe.cons rfl (FrLe.cons rfl (FrLe.cons rfl (FrLe.nil _))))), h⟩
  rintro fr σ ⟨x45_27, hl, h⟩
  unfold j26_ref07_Decode at h
  refine Lfr hl ?_
  refine Lp (V_move rfl rfl) rfl rfl ?_
  refine LsplitJ 4 x45_27 Iff.rfl h (fun fr σ => ∃ (x50_29 : Bool), FrLe [(4, .pointer (some ⟨x13_1, 0, none⟩)), (5, .pointer (some ⟨x15_2, 0, none⟩)), (6, .pointer (some ⟨x6_20, 0, none⟩)), (50, .bool x50_29)] fr ∧ j28_ref07_Decode B ro x6_20 x13_1 x15_2 Q Y16 x50_29 σ) ?_ ?_ ?_
  · intro h e11 hk11
    refine Ln rfl rfl rfl rfl (.inl (by rw [e11]; rfl)) ?_
    refine Ln rfl rfl rfl rfl (.inl (by rw [e11]; rfl)) ?_
    refine Ln rfl rfl rfl rfl (.inl (by rw [e11]; rfl)) ?_
    refine Lp (V_pickT rfl (evb e11) rfl) rfl rfl ?_
    exact hk11 _ _ ⟨_, (FrLe.cons rfl (FrLe.cons rfl (FrLe.cons rfl (FrLe.cons rfl (FrLe.nil _))))), h⟩
  · intro h e11 hk11
    refine Lypb (V_fld rfl Tryz.underlying159 rfl ty3 (by decide) rfl) rfl rfl rfl rfl e11 ?_
    obtain ⟨x48_68, hc, h⟩ := h
    refine Lyb rfl rfl rfl rfl e11 (X_ld rfl Tryz.underlying3 rfl rfl hc ?_)
    refine Lypb (V_gtr rfl rfl rfl) rfl rfl rfl rfl e11 ?_
    refine Lp (V_pickF rfl (evb e11) rfl) rfl rfl ?_
    exact hk11 _ _ ⟨_, (FrLe.cons rfl (FrLe.cons rfl (FrLe.cons rfl (FrLe.cons rfl (FrLe.nil _))))), h⟩
  rintro fr σ ⟨x50_29, hl, h⟩
  unfold j28_ref07_Decode at h
  refine Lfr hl ?_
  refine Lp (V_move rfl rfl) rfl rfl ?_
  refine LsplitJ 9 x50_29 Iff.rfl h (fun fr σ => ∃ (x60_31 : Bool), FrLe [(4, .pointer (some ⟨x13_1, 0, none⟩)), (5, .pointer (some ⟨x15_2, 0, none⟩)), (6, .pointer (some ⟨x6_20, 0, none⟩)), (60, .bool x60_31)] fr ∧ j30_ref07_Decode B ro x6_20 x13_1 x15_2 Q Y16 x60_31 σ) ?_ ?_ ?_
  · intro h e16 hk16
    refine Ln rfl rfl rfl rfl (.inl (by rw [e16]; rfl)) ?_
    refine Ln rfl rfl rfl rfl (.inl (by rw [e16]; rfl)) ?_
    refine Ln rfl rfl rfl rfl (.inl (by rw [e16]; rfl)) ?_
    refine Ln rfl rfl rfl rfl (.inl (by rw [e16]; rfl)) ?_
    refine Ln rfl rfl rfl rfl (.inr rfl) ?_
    refine Ln rfl rfl rfl rfl (.inr rfl) ?_
    refine Ln rfl rfl rfl rfl (.inr rfl) ?_
    refine Ln rfl rfl rfl rfl (.inl (by rw [e16]; rfl)) ?_
    refine Lp (V_pickT rfl (evb e16) rfl) rfl rfl ?_
    exact hk16 _ _ ⟨_, (FrLe.cons rfl (FrLe.cons rfl (FrLe.cons rfl (FrLe.cons rfl (FrLe.nil _))))), h⟩
  · intro h e16 hk16
    refine Lypb (V_fld rfl Tryz.underlying159 rfl ty3 (by decide) rfl) rfl rfl rfl rfl e16 ?_
    obtain ⟨x53_64, hc, h⟩ := h
    refine Lyb rfl rfl rfl rfl e16 (X_ld rfl Tryz.underlying3 rfl rfl hc ?_)
    refine Lypb (V_neq rfl rfl rfl) rfl rfl rfl rfl e16 ?_
    refine Lypb (V_move rfl rfl) rfl rfl rfl rfl e16 ?_
    refine LsplitJ 4 (!(decide (x53_64 = 0))) (bnot_iff decide_eq_true_iff) h (fun fr σ => ∃ (x59_66 : Bool), FrLe [(4, .pointer (some ⟨x13_1, 0, none⟩)), (5, .pointer (some ⟨x15_2, 0, none⟩)), (6, .pointer (some ⟨x6_20, 0, none⟩)), (51, .bool x50_29), (59, .bool x59_66)] fr ∧ j65_ref07_Decode B ro x6_20 x13_1 x15_2 x50_29 Q Y16 x59_66 σ) ?_ ?_ ?_
    · intro h e20 hk20
      refine Lypb (V_fld rfl Tryz.underlying159 rfl ty3 (by decide) rfl) rfl rfl rfl rfl e20 ?_
      obtain ⟨x57_67, hc, h⟩ := h
      refine Lyb rfl rfl rfl rfl e20 (X_ld rfl Tryz.underlying3 rfl rfl hc ?_)
      refine Lypb (V_neq rfl rfl rfl) rfl rfl rfl rfl e20 ?_
      refine Lypb (V_pickT rfl (evb e20) rfl) rfl rfl rfl rfl e16 ?_
      exact hk20 _ _ ⟨_, (FrLe.cons rfl (FrLe.cons rfl (FrLe.cons rfl (FrLe.cons rfl (FrLe.cons rfl (FrLe.nil _)))))), h⟩
    · intro h e20 hk20
      refine Ln rfl rfl rfl rfl (.inl (by rw [e20]; rfl)) ?_
      refine Ln rfl rfl rfl rfl (.inl (by rw [e20]; rfl)) ?_
      refine Ln rfl rfl rfl rfl (.inl (by rw [e20]; rfl)) ?_
      refine Lypb (V_pickF rfl (evb e20) rfl) rfl rfl rfl rfl e16 ?_
      exact hk20 _ _ ⟨_, (FrLe.cons rfl (FrLe.cons rfl (FrLe.cons rfl (FrLe.cons rfl (FrLe.cons rfl (FrLe.nil _)))))), h⟩
    rintro fr σ ⟨x59_66, hl, h⟩
    unfold j65_ref07_Decode at h
    refine Lfr hl ?_
    refine Lp (V_pickF rfl (evb e16) rfl) rfl rfl ?_
    exact hk16 _ _ ⟨_, (FrLe.cons rfl (FrLe.cons rfl (FrLe.cons rfl (FrLe.cons rfl (FrLe.nil _))))), h⟩
  rintro fr σ ⟨x60_31, hl, h⟩
  unfold j30_ref07_Decode at h
  refine Lfr hl ?_
  refine Lnil ?_
  refine thenN ?_
  refine AW.iff rfl Iff.rfl h (fun h => ?_) (fun h => ?_)
  · refine AW.seq ?_
    refine AW.reg ?_
    refine Lp (V_asg rfl rfl) rfl rfl ?_
    refine Lp (V_asg rfl rfl) rfl rfl ?_
    refine Lnil ?_
    refine thenN ?_
    refine AW.ret ?_
    refine thenR ?_
    refine blockR ?_
    refine thenR ?_
    refine blockR ?_
    refine thenR ?_
    exact bR2 Tryz.results28 rfl rfl ⟨_, _, rfl, h⟩
  refine AW.skip ?_
  refine thenN ?_
  refine AW.seqJ (fun fr σ => FrLe [(4, .pointer (some ⟨x13_1, 0, none⟩)), (5, .pointer (some ⟨x15_2, 0, none⟩)), (6, .pointer (some ⟨x6_20, 0, none⟩))] fr ∧ j32_ref07_Decode B ro x6_20 x13_1 x15_2 Q Y16 σ) ?_ ?_
  · rintro fr σ ⟨hl, h⟩
    refine AW.weaken ?_ hl (HLe.refl _)
    unfold j32_ref07_Decode at h
    refine AW.drawn0 (fun i => ([0, 0, 0, 0, 3, 3, 1, 2, 0, 0, 2] : List Nat).getD i 2) [(5, 6), (5, 7)] [0, 1, 2, 3, 4, 5, 6, 7, 8, 9, 10] Tryz.mixed (by decide +kernel) ?_
    refine Dp rfl rfl rfl rfl (V_move rfl rfl) ?_
    refine Dp rfl rfl rfl rfl (V_move rfl rfl) ?_
    refine Dp rfl rfl rfl rfl (V_nil rfl rfl) ?_
    refine Dp rfl rfl rfl rfl (V_fld rfl Tryz.underlying157 rfl ty155 (by decide) rfl) ?_
    obtain ⟨x132_33, hc, h⟩ := h
    refine Dr rfl rfl rfl rfl (R_ld rfl Tryz.underlying155 rfl rfl hc) ?_
    obtain ⟨x133_34a, x133_34b, x133_34c, x133_34d, x133_34e, hc, h⟩ := h
    refine Dr rfl rfl rfl rfl (R_lda rfl Tryz.underlying159 rfl ty159 rfl hc) ?_
    refine Da rfl rfl rfl rfl (A_bsl (vs := [(0, .agg #[.string x133_34a, Sl.v x133_34b, .int .i64 x133_34c, .int .i64 x133_34d, .int .i64 x133_34e])]) (cs := #[.string x133_34a, Sl.v x133_34b, .int .i64 x133_34c, .int .i64 x133_34d, .int .i64 x133_34e]) rfl Tryz.underlying155 ty159 (by decide) rfl rfl) fun x134_35 g1 g2 => ?_
    replace h := h x134_35 g1 g2
    refine Dg rfl rfl rfl rfl (X_bi (s := Builtin.append_ #[155, 155] 155 #[Sl.v x132_33, Sl.v (⟨some ⟨x134_35, 0, none⟩, 1, 1⟩ : Sl)]) rfl rfl (fun _ => rfl) (awp_mono _ h ?_))
    rintro v σ ⟨x135_36, rfl, h⟩
    refine Dp rfl rfl rfl rfl (V_nil rfl rfl) ?_
    refine Dp rfl rfl rfl rfl (V_fld rfl Tryz.underlying157 rfl ty155 (by decide) rfl) ?_
    refine Dg rfl rfl rfl rfl (X_st rfl ty155 rfl rfl rfl rfl (stN_mono h fun σ h => ?_))
    refine Dend ?_
    refine blockN ?_
    refine thenN ?_
    refine ARound.head (fr' := [(4, .pointer (some ⟨x13_1, 0, none⟩)), (5, .pointer (some ⟨x15_2, 0, none⟩))]) ?_ (FrLe.cons rfl (FrLe.cons rfl (FrLe.nil _)))
    exact hY16 _ _ h
  refine AW.seq ?_
  refine AW.reg ?_
  refine Lp (V_move rfl rfl) rfl rfl ?_
  refine Lp (V_nil rfl rfl) rfl rfl ?_
  refine Lp (V_fld rfl Tryz.underlying157 rfl ty155 (by decide) rfl) rfl rfl ?_
  obtain ⟨x64_37, hc, h⟩ := h
  refine Ls rfl rfl (X_ld rfl Tryz.underlying155 rfl rfl hc ?_)
  refine Lp (V_lenL rfl rfl Tryz.underlying155 rfl rfl) rfl rfl ?_
  refine Lp (V_eql rfl rfl rfl) rfl rfl ?_
  refine Lnil ?_
  refine thenN ?_
  refine AW.iff rfl decide_eq_true_iff h (fun h => ?_) (fun h => ?_)
  · refine AW.seq ?_
    refine AW.reg ?_
    refine Lp (V_fld rfl Tryz.underlying159 rfl ty9 (by decide) rfl) rfl rfl ?_
    obtain ⟨x68_38, hc, h⟩ := h
    refine Ls rfl rfl (X_ld rfl Tryz.underlying9 rfl rfl hc ?_)
    refine Lp (V_neqS rfl rfl rfl) rfl rfl ?_
    refine Lp (V_move rfl rfl) rfl rfl ?_
    refine LsplitJ 5 (!(decide (x68_38 = (⟨#[47]⟩ : ByteArray)))) (bnot_iff decide_eq_true_iff) h (fun fr σ => ∃ (x75_40 : Bool), FrLe [(4, .pointer (some ⟨x13_1, 0, none⟩)), (5, .pointer (some ⟨x15_2, 0, none⟩)), (6, .pointer (some ⟨x6_20, 0, none⟩)), (75, .bool x75_40)] fr ∧ j39_ref07_Decode B ro x6_20 x13_1 x15_2 Q Y16 x75_40 σ) ?_ ?_ ?_
    · intro h e3 hk3
      refine Ln rfl rfl rfl rfl (.inl (by rw [e3]; rfl)) ?_
      refine Ln rfl rfl rfl rfl (.inl (by rw [e3]; rfl)) ?_
      refine Ln rfl rfl rfl rfl (.inl (by rw [e3]; rfl)) ?_
      refine Ln rfl rfl rfl rfl (.inl (by rw [e3]; rfl)) ?_
      refine Lp (V_pickT rfl (evb e3) rfl) rfl rfl ?_
      exact hk3 _ _ ⟨_, (FrLe.cons rfl (FrLe.cons rfl (FrLe.cons rfl (FrLe.cons rfl (FrLe.nil _))))), h⟩
    · intro h e3 hk3
      refine Lypb (V_fld rfl Tryz.underlying159 rfl ty30 (by decide) rfl) rfl rfl rfl rfl e3 ?_
      obtain ⟨x72_47, hc, h⟩ := h
      refine Lyb rfl rfl rfl rfl e3 (X_ld rfl Tryz.underlying30 rfl rfl hc ?_)
      refine Lypb (V_lenL rfl rfl Tryz.underlying30 rfl rfl) rfl rfl rfl rfl e3 ?_
      refine Lypb (V_gtr rfl rfl rfl) rfl rfl rfl rfl e3 ?_
      refine Lp (V_pickF rfl (evb e3) rfl) rfl rfl ?_
      exact hk3 _ _ ⟨_, (FrLe.cons rfl (FrLe.cons rfl (FrLe.cons rfl (FrLe.cons rfl (FrLe.nil _))))), h⟩
    rintro fr σ ⟨x75_40, hl, h⟩
    unfold j39_ref07_Decode at h
    refine Lfr hl ?_
    refine Lp (V_move rfl rfl) rfl rfl ?_
    refine LsplitJ 4 x75_40 Iff.rfl h (fun fr σ => ∃ (x80_42 : Bool), FrLe [(4, .pointer (some ⟨x13_1, 0, none⟩)), (5, .pointer (some ⟨x15_2, 0, none⟩)), (6, .pointer (some ⟨x6_20, 0, none⟩)), (80, .bool x80_42)] fr ∧ j41_ref07_Decode B ro x6_20 x13_1 x15_2 Q Y16 x80_42 σ) ?_ ?_ ?_
    · intro h e9 hk9
      refine Ln rfl rfl rfl rfl (.inl (by rw [e9]; rfl)) ?_
      refine Ln rfl rfl rfl rfl (.inl (by rw [e9]; rfl)) ?_
      refine Ln rfl rfl rfl rfl (.inl (by rw [e9]; rfl)) ?_
      refine Lp (V_pickT rfl (evb e9) rfl) rfl rfl ?_
      exact hk9 _ _ ⟨_, (FrLe.cons rfl (FrLe.cons rfl (FrLe.cons rfl (FrLe.cons rfl (FrLe.nil _))))), h⟩
    · intro h e9 hk9
      refine Lypb (V_fld rfl Tryz.underlying159 rfl ty3 (by decide) rfl) rfl rfl rfl rfl e9 ?_
      obtain ⟨x78_46, hc, h⟩ := h
      refine Lyb rfl rfl rfl rfl e9 (X_ld rfl Tryz.underlying3 rfl rfl hc ?_)
      refine Lypb (V_neq rfl rfl rfl) rfl rfl rfl rfl e9 ?_
      refine Lp (V_pickF rfl (evb e9) rfl) rfl rfl ?_
      exact hk9 _ _ ⟨_, (FrLe.cons rfl (FrLe.cons rfl (FrLe.cons rfl (FrLe.cons rfl (FrLe.nil _))))), h⟩
    rintro fr σ ⟨x80_42, hl, h⟩
    unfold j41_ref07_Decode at h
    refine Lfr hl ?_
    refine Lp (V_move rfl rfl) rfl rfl ?_
    refine LsplitJ 4 x80_42 Iff.rfl h (fun fr σ => ∃ (x85_44 : Bool), FrLe [(4, .pointer (some ⟨x13_1, 0, none⟩)), (5, .pointer (some ⟨x15_2, 0, none⟩)), (6, .pointer (some ⟨x6_20, 0, none⟩)), (85, .bool x85_44)] fr ∧ j43_ref07_Decode B ro x6_20 x13_1 x15_2 Q Y16 x85_44 σ) ?_ ?_ ?_
    · intro h e14 hk14
      refine Ln rfl rfl rfl rfl (.inl (by rw [e14]; rfl)) ?_
      refine Ln rfl rfl rfl rfl (.inl (by rw [e14]; rfl)) ?_
      refine Ln rfl rfl rfl rfl (.inl (by rw [e14]; rfl)) ?_
      refine Lp (V_pickT rfl (evb e14) rfl) rfl rfl ?_
      exact hk14 _ _ ⟨_, (FrLe.cons rfl (FrLe.cons rfl (FrLe.cons rfl (FrLe.cons rfl (FrLe.nil _))))), h⟩
    · intro h e14 hk14
      refine Lypb (V_fld rfl Tryz.underlying159 rfl ty3 (by decide) rfl) rfl rfl rfl rfl e14 ?_
      obtain ⟨x83_45, hc, h⟩ := h
      refine Lyb rfl rfl rfl rfl e14 (X_ld rfl Tryz.underlying3 rfl rfl hc ?_)
      refine Lypb (V_neq rfl rfl rfl) rfl rfl rfl rfl e14 ?_
      refine Lp (V_pickF rfl (evb e14) rfl) rfl rfl ?_
      exact hk14 _ _ ⟨_, (FrLe.cons rfl (FrLe.cons rfl (FrLe.cons rfl (FrLe.cons rfl (FrLe.nil _))))), h⟩
    rintro fr σ ⟨x85_44, hl, h⟩
    unfold j43_ref07_Decode at h
    refine Lfr hl ?_
    refine Lnil ?_
    refine thenN ?_
    refine AW.iff rfl Iff.rfl h (fun h => ?_) (fun h => ?_)
    rotate_left
    · refine AW.skip ?_
      refine thenN ?_
      exact ⟨(FrLe.cons rfl (FrLe.cons rfl (FrLe.cons rfl (FrLe.nil _)))), h⟩
    refine AW.seq ?_
    refine AW.reg ?_
    refine Lp (V_asg rfl rfl) rfl rfl ?_
    refine Lp (V_asg rfl rfl) rfl rfl ?_
    refine Lnil ?_
    refine thenN ?_
    refine AW.ret ?_
    refine thenR ?_
    refine blockR ?_
    refine thenR ?_
    refine blockR ?_
    refine thenR ?_
    exact bR2 Tryz.results28 rfl rfl ⟨_, _, rfl, h⟩
  refine AW.seq ?_
  refine AW.reg ?_
  refine Lp (V_fld rfl Tryz.underlying159 rfl ty9 (by decide) rfl) rfl rfl ?_
  obtain ⟨x88_48, hc, h⟩ := h
  refine Ls rfl rfl (X_ld rfl Tryz.underlying9 rfl rfl hc ?_)
  refine Ls rfl rfl (X_call rfl Tryz.func19 rfl rfl rfl (ACalls.mono h ?_))
  rintro v σ ⟨x89_49, x89_50, rfl, h⟩
  refine Lp (V_move rfl rfl) rfl rfl ?_
  refine Lp (V_ext rfl rfl rfl) rfl rfl ?_
  refine Lp (V_ext rfl rfl rfl) rfl rfl ?_
  refine Lp (V_asg rfl rfl) rfl rfl ?_
  refine Lp (V_asg rfl rfl) rfl rfl ?_
  refine Lnil ?_
  refine thenN ?_
  refine AW.seq ?_
  refine AW.seqJ (fun fr σ => ∃ (x111_52 : Bool), FrLe [(4, .pointer (some ⟨x13_1, 0, none⟩)), (5, .pointer (some ⟨x15_2, 0, none⟩)), (6, .pointer (some ⟨x6_20, 0, none⟩)), (7, .string x89_49), (111, .bool x111_52)] fr ∧ j51_ref07_Decode B ro x6_20 x13_1 x15_2 x89_49 Q Y16 x111_52 σ) ?_ ?_
  rotate_left
  · refine AW.drawn0 (fun i => ([0, 0, 0, 0, 3, 0, 0, 0, 3, 0, 0, 0, 3, 0, 0, 0, 0, 3, 0, 0] : List Nat).getD i 2) [] [0, 1, 2, 3, 5, 6, 7, 9, 10, 11, 4, 8, 12, 13, 14, 15, 16, 17, 18, 19] Tryz.mixed (by decide +kernel) ?_
    refine Dp rfl rfl rfl rfl (V_move rfl rfl) ?_
    refine Dp rfl rfl rfl rfl (V_not rfl rfl) ?_
    refine Dp rfl rfl rfl rfl (V_move rfl rfl) ?_
    refine splitP (!x89_50) (bnot_iff Iff.rfl) h ?_ ?_
    · intro h e2
      refine Dpn rfl rfl rfl rfl rfl (.inl (by rw [e2]; rfl)) rfl ?_
      refine Dpn rfl rfl rfl rfl rfl (.inl (by rw [e2]; rfl)) rfl ?_
      refine Dpn rfl rfl rfl rfl rfl (.inl (by rw [e2]; rfl)) rfl ?_
      refine Dpn rfl rfl rfl rfl rfl (.inl (by rw [e2]; rfl)) rfl ?_
      refine Dpn rfl rfl rfl rfl rfl (.inl (by rw [e2]; rfl)) rfl ?_
      refine Dpn rfl rfl rfl rfl rfl (.inl (by rw [e2]; rfl)) rfl ?_
      refine Dpn rfl rfl rfl rfl rfl (.inl (by rw [e2]; rfl)) rfl ?_
      refine Drn rfl rfl rfl rfl rfl (.inl (by rw [e2]; rfl)) rfl ?_
      refine Drn rfl rfl rfl rfl rfl (.inl (by rw [e2]; rfl)) rfl ?_
      refine Drn rfl rfl rfl rfl rfl (.inl (by rw [e2]; rfl)) rfl ?_
      refine Dpn rfl rfl rfl rfl rfl (.inl (by rw [e2]; rfl)) rfl ?_
      refine Dpn rfl rfl rfl rfl rfl (.inl (by rw [e2]; rfl)) rfl ?_
      refine Dpn rfl rfl rfl rfl rfl (.inl (by rw [e2]; rfl)) rfl ?_
      refine Dpn rfl rfl rfl rfl rfl (.inl (by rw [e2]; rfl)) rfl ?_
      refine Drn rfl rfl rfl rfl rfl (.inl (by rw [e2]; rfl)) rfl ?_
      refine Dpn rfl rfl rfl rfl rfl (.inl (by rw [e2]; rfl)) rfl ?_
      refine Dp rfl rfl rfl rfl (V_pickT rfl (evb e2) rfl) ?_
      refine Dend ?_
      refine thenN ?_
      exact ⟨_, (FrLe.cons rfl (FrLe.cons rfl (FrLe.cons rfl (FrLe.cons rfl (FrLe.cons rfl (FrLe.nil _)))))), h⟩
    intro h e2
    refine Dpy rfl rfl rfl rfl rfl e2 rfl (V_fld rfl Tryz.underlying159 rfl ty9 (by decide) rfl) ?_
    refine Dpy rfl rfl rfl rfl rfl e2 rfl (V_move rfl rfl) ?_
    refine Dpy rfl rfl rfl rfl rfl e2 rfl (V_nil rfl rfl) ?_
    refine Dpy rfl rfl rfl rfl rfl e2 rfl (V_fld rfl Tryz.underlying157 rfl ty155 (by decide) rfl) ?_
    refine Dpy rfl rfl rfl rfl rfl e2 rfl (V_move rfl rfl) ?_
    refine Dpy rfl rfl rfl rfl rfl e2 rfl (V_nil rfl rfl) ?_
    refine Dpy rfl rfl rfl rfl rfl e2 rfl (V_fld rfl Tryz.underlying157 rfl ty155 (by decide) rfl) ?_
    obtain ⟨x96_59, hc, h⟩ := h
    refine Dry rfl rfl rfl rfl rfl e2 rfl (R_ld rfl Tryz.underlying9 rfl rfl hc) ?_
    obtain ⟨x100_60, hc, h⟩ := h
    refine Dry rfl rfl rfl rfl rfl e2 rfl (R_ld rfl Tryz.underlying155 rfl rfl hc) ?_
    obtain ⟨x104_61, hc, h⟩ := h
    refine Dry rfl rfl rfl rfl rfl e2 rfl (R_ld rfl Tryz.underlying155 rfl rfl hc) ?_
    refine Dpy rfl rfl rfl rfl rfl e2 rfl (V_lenL rfl rfl Tryz.underlying155 rfl rfl) ?_
    refine Dpy rfl rfl rfl rfl rfl e2 rfl (V_sub rfl rfl rfl) ?_
    obtain ⟨p107_62, ha, h0, h1, h⟩ := h
    refine Dpy rfl rfl rfl rfl rfl e2 rfl (V_ixA rfl Tryz.underlying155 ty159 (ixL rfl ha) rfl h0 h1) ?_
    refine Dpy rfl rfl rfl rfl rfl e2 rfl (V_fld rfl Tryz.underlying159 rfl ty9 (by decide) rfl) ?_
    obtain ⟨x109_63, hc, h⟩ := h
    refine Dry rfl rfl rfl rfl rfl e2 rfl (R_ld rfl Tryz.underlying9 rfl rfl hc) ?_
    refine Dpy rfl rfl rfl rfl rfl e2 rfl (V_leqS rfl rfl rfl) ?_
    refine Dp rfl rfl rfl rfl (V_pickF rfl (evb e2) rfl) ?_
    refine Dend ?_
    refine thenN ?_
    exact ⟨_, (FrLe.cons rfl (FrLe.cons rfl (FrLe.cons rfl (FrLe.cons rfl (FrLe.cons rfl (FrLe.nil _)))))), h⟩
  rintro fr σ ⟨x111_52, hl, h⟩
  refine AW.weaken ?_ hl (HLe.refl _)
  unfold j51_ref07_Decode at h
  refine AW.iff rfl Iff.rfl h (fun h => ?_) (fun h => ?_)
  · refine AW.seq ?_
    refine AW.reg ?_
    refine Lp (V_asg rfl rfl) rfl rfl ?_
    refine Lp (V_asg rfl rfl) rfl rfl ?_
    refine Lnil ?_
    refine thenN ?_
    refine AW.ret ?_
    refine thenR ?_
    refine thenR ?_
    refine blockR ?_
    refine thenR ?_
    refine blockR ?_
    refine thenR ?_
    exact bR2 Tryz.results28 rfl rfl ⟨_, _, rfl, h⟩
  refine AW.skip ?_
  refine thenN ?_
  refine AW.seq ?_
  refine AW.reg ?_
  refine Lp (V_move rfl rfl) rfl rfl ?_
  refine Lp (V_move rfl rfl) rfl rfl ?_
  refine Ls rfl rfl (X_call rfl Tryz.func84 rfl rfl rfl (ACalls.mono h ?_))
  rintro v σ ⟨x114_53, rfl, h⟩
  refine Lp (V_asg rfl rfl) rfl rfl ?_
  refine Lnil ?_
  refine thenN ?_
  refine AW.seq ?_
  refine AW.reg ?_
  refine Lp (V_move rfl rfl) rfl rfl ?_
  refine Lp (V_lss rfl rfl rfl) rfl rfl ?_
  refine Lp (V_move rfl rfl) rfl rfl ?_
  refine LsplitJ 10 (decide (x114_53 < 0)) decide_eq_true_iff h (fun fr σ => ∃ (x127_55 : Bool), FrLe [(4, .pointer (some ⟨x13_1, 0, none⟩)), (5, .pointer (some ⟨x15_2, 0, none⟩)), (6, .pointer (some ⟨x6_20, 0, none⟩)), (127, .bool x127_55)] fr ∧ j54_ref07_Decode B ro x6_20 x13_1 x15_2 Q Y16 x127_55 σ) ?_ ?_ ?_
  · intro h e2 hk2
    refine Ln rfl rfl rfl rfl (.inl (by rw [e2]; rfl)) ?_
    refine Ln rfl rfl rfl rfl (.inl (by rw [e2]; rfl)) ?_
    refine Ln rfl rfl rfl rfl (.inl (by rw [e2]; rfl)) ?_
    refine Ln rfl rfl rfl rfl (.inl (by rw [e2]; rfl)) ?_
    refine Ln rfl rfl rfl rfl (.inl (by rw [e2]; rfl)) ?_
    refine Ln rfl rfl rfl rfl (.inl (by rw [e2]; rfl)) ?_
    refine Ln rfl rfl rfl rfl (.inl (by rw [e2]; rfl)) ?_
    refine Ln rfl rfl rfl rfl (.inl (by rw [e2]; rfl)) ?_
    refine Ln rfl rfl rfl rfl (.inl (by rw [e2]; rfl)) ?_
    refine Lp (V_pickT rfl (evb e2) rfl) rfl rfl ?_
    exact hk2 _ _ ⟨_, (FrLe.cons rfl (FrLe.cons rfl (FrLe.cons rfl (FrLe.cons rfl (FrLe.nil _))))), h⟩
  · intro h e2 hk2
    refine Lypb (V_move rfl rfl) rfl rfl rfl rfl e2 ?_
    refine Lypb (V_nil rfl rfl) rfl rfl rfl rfl e2 ?_
    refine Lypb (V_fld rfl Tryz.underlying157 rfl ty155 (by decide) rfl) rfl rfl rfl rfl e2 ?_
    obtain ⟨x121_56, hc, h⟩ := h
    refine Lyb rfl rfl rfl rfl e2 (X_ld rfl Tryz.underlying155 rfl rfl hc ?_)
    refine Lypb (V_move rfl rfl) rfl rfl rfl rfl e2 ?_
    obtain ⟨p123_57, ha, h0, h1, h⟩ := h
    refine Lypb (V_ixA rfl Tryz.underlying155 ty159 (ixL rfl ha) rfl h0 h1) rfl rfl rfl rfl e2 ?_
    refine Lypb (V_fld rfl Tryz.underlying159 rfl ty3 (by decide) rfl) rfl rfl rfl rfl e2 ?_
    obtain ⟨x125_58, hc, h⟩ := h
    refine Lyb rfl rfl rfl rfl e2 (X_ld rfl Tryz.underlying3 rfl rfl hc ?_)
    refine Lypb (V_neq rfl rfl rfl) rfl rfl rfl rfl e2 ?_
    refine Lp (V_pickF rfl (evb e2) rfl) rfl rfl ?_
    exact hk2 _ _ ⟨_, (FrLe.cons rfl (FrLe.cons rfl (FrLe.cons rfl (FrLe.cons rfl (FrLe.nil _))))), h⟩
  rintro fr σ ⟨x127_55, hl, h⟩
  unfold j54_ref07_Decode at h
  refine Lfr hl ?_
  refine Lnil ?_
  refine thenN ?_
  refine AW.iff rfl Iff.rfl h (fun h => ?_) (fun h => ?_)
  rotate_left
  · refine AW.skip ?_
    refine thenN ?_
    exact ⟨(FrLe.cons rfl (FrLe.cons rfl (FrLe.cons rfl (FrLe.nil _)))), h⟩
  refine AW.seq ?_
  refine AW.reg ?_
  refine Lp (V_asg rfl rfl) rfl rfl ?_
  refine Lp (V_asg rfl rfl) rfl rfl ?_
  refine Lnil ?_
  refine thenN ?_
  refine AW.ret ?_
  refine thenR ?_
  refine blockR ?_
  refine thenR ?_
  refine blockR ?_
  refine thenR ?_
  exact bR2 Tryz.results28 rfl rfl ⟨_, _, rfl, h⟩

def j2_ref07_Tree_Encode (B : World) (ro : AH) (Q : Sl → AH → Prop) (x3_3 : Sl) (σ : AH) : Prop :=
 Q x3_3 σ

def l4_ref07_Tree_Encode (B : World) (ro : AH) (a0 : Option Addr) (Q : Sl → AH → Prop) : (Sl × Int) → AH → ((Sl × Int) → AH → Prop) → Prop := fun ⟨x3_5, x4_6⟩ σ Y4 =>
 ∃ p9_7 : Addr, a0 = some p9_7 ∧
 ∃ (x11_8 : Sl), acell ro σ p9_7 = some (Sl.v x11_8) ∧
 if x4_6 < (x11_8.len : Int) then
  ∃ p17_9 : Addr, a0 = some p17_9 ∧
  ∃ (x19_10 : Sl), acell ro σ p17_9 = some (Sl.v x19_10) ∧
  ∃ p21_11 : Addr, x19_10.a = some p21_11 ∧ (0 : Int) ≤ x4_6 ∧ x4_6 < (x19_10.len : Int) ∧
  ∃ (x22_12a : ByteArray) (x22_12b : Sl) (x22_12c : Int) (x22_12d : Int) (x22_12e : Int), cellsAt ro σ (p21_11.add (Int.toNat x4_6 * 5)) 0 [.string x22_12a, Sl.v x22_12b, .int .i64 x22_12c, .int .i64 x22_12d, .int .i64 x22_12e] ∧
  nw ro σ (.cells #[.string ByteArray.empty, Sl.v (⟨none, 0, 0⟩ : Sl), .int .i64 0, .int .i64 0, .int .i64 0] 159) fun x5_13 σ =>
  stN ⟨x5_13, 0, none⟩ (fun σ =>
   lent σ fun ψ σ =>
    ∃ (x29_14 : Sl), acell (join ro ψ) (fun _ => none) ((⟨x5_13, 0, none⟩ : Addr).add 1) = some (Sl.v x29_14) ∧
    ∃ (x32_15 : Int), acell (join ro ψ) (fun _ => none) ((⟨x5_13, 0, none⟩ : Addr).add 2) = some (.int .i64 x32_15) ∧
    ∃ (x35_16 : Int), acell (join ro ψ) (fun _ => none) ((⟨x5_13, 0, none⟩ : Addr).add 3) = some (.int .i64 x35_16) ∧
    ∃ (x38_17 : Int), acell (join ro ψ) (fun _ => none) ((⟨x5_13, 0, none⟩ : Addr).add 4) = some (.int .i64 x38_17) ∧
    ∃ (x25_18 : ByteArray), acell (join ro ψ) σ ⟨x5_13, 0, none⟩ = some (.string x25_18) ∧
    awp Tryz.prog (join ro ψ) (convert 9 30 (.string x25_18)) (fun v σ =>
     (∃ (x26_19 : Sl), v = Sl.v x26_19 ∧
      c_ref01_Blob B (join ro ψ) x26_19 σ fun x27_20 σ =>
      c_ref01_Blob B (join ro ψ) x29_14 σ fun x30_21 σ =>
      c_ref01_Put B (join ro ψ) x32_15 σ fun x33_22 σ =>
      c_ref01_Put B (join ro ψ) x35_16 σ fun x36_23 σ =>
      c_ref01_Put B (join ro ψ) x38_17 σ fun x39_24 σ =>
      nw (join ro ψ) σ (.cells #[Sl.v x3_5, Sl.v x27_20, Sl.v x30_21, Sl.v x33_22, Sl.v x36_23, Sl.v x39_24] 30) fun x40_25 σ =>
      c_ref01_Join B (join ro ψ) (⟨some ⟨x40_25, 0, none⟩, 6, 6⟩ : Sl) σ fun x41_26 σ =>
      (Disj ψ σ → (fun σ => 
       Y4 (x41_26, IntKind.i64.wrap (x4_6 + 1)) σ) (join ψ σ)))) σ) [.string x22_12a, Sl.v x22_12b, .int .i64 x22_12c, .int .i64 x22_12d, .int .i64 x22_12e] 0 σ
 else
 j2_ref07_Tree_Encode B ro Q x3_5 σ

def f_ref07_Tree_Encode (B : World) (ro : AH) (a0 : Option Addr) (σ : AH) (Q : Sl → AH → Prop) : Prop :=
 nw ro σ (.cells #[] 5) fun x6_1 σ =>
 lfpD (l4_ref07_Tree_Encode B ro a0 Q ) ((⟨some ⟨x6_1, 0, none⟩, 0, 0⟩ : Sl), 0) σ

set_option maxRecDepth 100000 in
set_option maxHeartbeats 4000000 in
theorem ref07_Tree_Encode_ok {B : World} {ro : AH} {a0 : Option Addr} {σ : AH} {Q : Sl → AH → Prop} (h : Sep ro σ → f_ref07_Tree_Encode B ro a0 σ Q) : c_ref07_Tree_Encode B ro a0 σ Q := by
  refine ACalls.of_sep fun hsep => ?_
  replace h := h hsep
  refine ACalls.of_body (args := [.pointer a0]) Tryz.func48 rfl (by rw [Tryz.ntmps48]; simp) ?_
  rw [Tryz.ntmps48]
  unfold f_ref07_Tree_Encode at h
  refine AW.seq ?_
  refine AW.reg ?_
  refine Lp (V_asg rfl rfl) rfl rfl ?_
  refine Lnil ?_
  refine thenN ?_
  refine AW.seq ?_
  refine AW.reg ?_
  refine Ls rfl rfl (X_new (A_bsl (vs := []) (cs := #[]) rfl Tryz.underlying30 ty5 (by decide) rfl rfl) fun x6_1 g1 g2 => ?_)
  replace h := h x6_1 g1 g2
  refine Lp (V_asg rfl rfl) rfl rfl ?_
  refine Lnil ?_
  refine thenN ?_
  refine AW.seqJ (fun fr σ => ∃ (x3_3 : Sl), FrLe [(3, Sl.v x3_3)] fr ∧ j2_ref07_Tree_Encode B ro Q x3_3 σ) ?_ ?_
  · rintro fr σ ⟨x3_3, hl, h⟩
    refine AW.weaken ?_ hl (HLe.refl _)
    unfold j2_ref07_Tree_Encode at h
    refine AW.seq ?_
    refine AW.reg ?_
    refine Lp (V_move rfl rfl) rfl rfl ?_
    refine Lp (V_asg rfl rfl) rfl rfl ?_
    refine Lnil ?_
    refine thenN ?_
    refine AW.ret ?_
    exact bR1 Tryz.results48 rfl ⟨_, rfl, h⟩
  refine AW.seq ?_
  refine AW.reg ?_
  refine Lp (V_asg rfl rfl) rfl rfl ?_
  refine Lnil ?_
  refine thenN ?_
  refine AW.block ?_
  refine ARound.loop (fr' := [(0, .pointer a0), (3, Sl.v (⟨some ⟨x6_1, 0, none⟩, 0, 0⟩ : Sl)), (4, .int .i64 0)]) ?_ (FrLe.cons rfl (FrLe.cons rfl (FrLe.cons rfl (FrLe.nil _))))
  refine h (fun ⟨x3_5, x4_6⟩ σ => ARound _ _ _ _ _ _ [(0, .pointer a0), (3, Sl.v x3_5), (4, .int .i64 x4_6)] σ) ?_
  rintro ⟨x3_5, x4_6⟩ σ Y4 hY4 h
  show AW _ _ _ _ _ _ _ _
  unfold l4_ref07_Tree_Encode at h
  dsimp only at h
  refine AW.seq ?_
  refine AW.seq ?_
  refine AW.reg ?_
  refine Lp (V_move rfl rfl) rfl rfl ?_
  refine Lp (V_move rfl rfl) rfl rfl ?_
  obtain ⟨p9_7, hc, h⟩ := h
  refine Lp (V_nil rfl (by rw [← hc]; rfl)) rfl rfl ?_
  refine Lp (V_fld rfl Tryz.underlying157 rfl ty155 (by decide) rfl) rfl rfl ?_
  obtain ⟨x11_8, hc, h⟩ := h
  refine Ls rfl rfl (X_ld rfl Tryz.underlying155 rfl rfl hc ?_)
  refine Lp (V_lenL rfl rfl Tryz.underlying155 rfl rfl) rfl rfl ?_
  refine Lp (V_lss rfl rfl rfl) rfl rfl ?_
  refine Lnil ?_
  refine thenN ?_
  refine AW.iff rfl decide_eq_true_iff h (fun h => ?_) (fun h => ?_)
  rotate_left
  · refine AW.exit ?_
    refine thenE ?_
    refine thenE ?_
    refine blockE ?_
    refine thenN ?_
    exact ⟨_, (FrLe.cons rfl (FrLe.nil _)), h⟩
  refine AW.skip ?_
  refine thenN ?_
  refine AW.seq ?_
  refine AW.block ?_
  refine AW.seq ?_
  refine AW.reg ?_
  refine Lp (V_move rfl rfl) rfl rfl ?_
  obtain ⟨p17_9, hc, h⟩ := h
  refine Lp (V_nil rfl (by rw [← hc]; rfl)) rfl rfl ?_
  refine Lp (V_fld rfl Tryz.underlying157 rfl ty155 (by decide) rfl) rfl rfl ?_
  obtain ⟨x19_10, hc, h⟩ := h
  refine Ls rfl rfl (X_ld rfl Tryz.underlying155 rfl rfl hc ?_)
  refine Lp (V_move rfl rfl) rfl rfl ?_
  obtain ⟨p21_11, ha, h0, h1, h⟩ := h
  refine Lp (V_ixA rfl Tryz.underlying155 ty159 (ixL rfl ha) rfl h0 h1) rfl rfl ?_
  obtain ⟨x22_12a, x22_12b, x22_12c, x22_12d, x22_12e, hc, h⟩ := h
  refine Ls rfl rfl (X_lda rfl Tryz.underlying159 rfl ty159 rfl hc ?_)
  refine Ls rfl rfl (X_new (A_alloc rfl ty159) fun x5_13 g1 g2 => ?_)
  replace h := h x5_13 g1 g2
  refine Ls rfl rfl (X_st rfl ty159 rfl rfl rfl rfl (stN_mono h fun σ h => ?_))
  refine Lnil ?_
  refine thenN ?_
  refine AW.drawnL (fun i => ([0, 0, 3, 2, 2, 0, 0, 2, 0, 0, 2, 0, 0, 2, 0, 0, 2, 1, 2, 0] : List Nat).getD i 2) [(2, 3), (2, 4), (2, 7), (2, 10), (2, 13), (2, 16), (2, 17), (2, 18), (3, 4), (3, 7), (3, 10), (3, 13), (3, 16), (3, 17), (3, 18), (4, 7), (4, 10), (4, 13), (4, 16), (4, 17), (4, 18), (7, 10), (7, 13), (7, 16), (7, 17), (7, 18), (10, 13), (10, 16), (10, 17), (10, 18), (13, 17), (13, 18)] [0, 1, 5, 6, 8, 9, 11, 12, 14, 15, 2, 3, 4, 7, 10, 13, 16, 17, 18, 19] Tryz.mixed h (by decide +kernel) ?_
  clear h
  intro ψ σ h
  refine Dp rfl rfl rfl rfl (V_move rfl rfl) ?_
  refine Dp rfl rfl rfl rfl (V_fld rfl Tryz.underlying159 rfl ty9 (by decide) rfl) ?_
  refine Dp rfl rfl rfl rfl (V_fld rfl Tryz.underlying159 rfl ty30 (by decide) rfl) ?_
  obtain ⟨x29_14, hc, h⟩ := h
  refine Dp rfl rfl rfl rfl (V_ld rfl Tryz.underlying30 rfl rfl hc) ?_
  refine Dp rfl rfl rfl rfl (V_fld rfl Tryz.underlying159 rfl ty3 (by decide) rfl) ?_
  obtain ⟨x32_15, hc, h⟩ := h
  refine Dp rfl rfl rfl rfl (V_ld rfl Tryz.underlying3 rfl rfl hc) ?_
  refine Dp rfl rfl rfl rfl (V_fld rfl Tryz.underlying159 rfl ty3 (by decide) rfl) ?_
  obtain ⟨x35_16, hc, h⟩ := h
  refine Dp rfl rfl rfl rfl (V_ld rfl Tryz.underlying3 rfl rfl hc) ?_
  refine Dp rfl rfl rfl rfl (V_fld rfl Tryz.underlying159 rfl ty3 (by decide) rfl) ?_
  obtain ⟨x38_17, hc, h⟩ := h
  refine Dp rfl rfl rfl rfl (V_ld rfl Tryz.underlying3 rfl rfl hc) ?_
  obtain ⟨x25_18, hc, h⟩ := h
  refine Dr rfl rfl rfl rfl (R_ld rfl Tryz.underlying9 rfl rfl hc) ?_
  refine Dg rfl rfl rfl rfl (X_cvt rfl rfl (awp_mono _ h ?_))
  rintro v σ ⟨x26_19, rfl, h⟩
  refine Dg rfl rfl rfl rfl (X_call rfl Tryz.func103 rfl rfl rfl (ACalls.mono h ?_))
  rintro v σ ⟨x27_20, rfl, h⟩
  refine Dg rfl rfl rfl rfl (X_call rfl Tryz.func103 rfl rfl rfl (ACalls.mono h ?_))
  rintro v σ ⟨x30_21, rfl, h⟩
  refine Dg rfl rfl rfl rfl (X_call rfl Tryz.func104 rfl rfl rfl (ACalls.mono h ?_))
  rintro v σ ⟨x33_22, rfl, h⟩
  refine Dg rfl rfl rfl rfl (X_call rfl Tryz.func104 rfl rfl rfl (ACalls.mono h ?_))
  rintro v σ ⟨x36_23, rfl, h⟩
  refine Dg rfl rfl rfl rfl (X_call rfl Tryz.func104 rfl rfl rfl (ACalls.mono h ?_))
  rintro v σ ⟨x39_24, rfl, h⟩
  refine Da rfl rfl rfl rfl (A_bsl (vs := [(0, Sl.v x3_5), (1, Sl.v x27_20), (2, Sl.v x30_21), (3, Sl.v x33_22), (4, Sl.v x36_23), (5, Sl.v x39_24)]) (cs := #[Sl.v x3_5, Sl.v x27_20, Sl.v x30_21, Sl.v x33_22, Sl.v x36_23, Sl.v x39_24]) rfl Tryz.underlying208 ty30 (by decide) rfl rfl) fun x40_25 g1 g2 => ?_
  replace h := h x40_25 g1 g2
  refine Dg rfl rfl rfl rfl (X_call rfl Tryz.func72 rfl rfl rfl (ACalls.mono h ?_))
  rintro v σ ⟨x41_26, rfl, h⟩
  refine Dp rfl rfl rfl rfl (V_asg rfl rfl) ?_
  refine ⟨_, FrEq.refl _, fun hdj => ?_⟩
  replace h := h hdj
  refine blockN ?_
  refine thenN ?_
  refine AW.reg ?_
  refine Lp (V_move rfl rfl) rfl rfl ?_
  refine Lp (V_add rfl rfl rfl) rfl rfl ?_
  refine Lp (V_asg rfl rfl) rfl rfl ?_
  refine Lnil ?_
  refine thenN ?_
  refine ARound.head (fr' := [(0, .pointer a0), (3, Sl.v x41_26), (4, .int .i64 (IntKind.i64.wrap (x4_6 + 1)))]) ?_ (FrLe.cons rfl (FrLe.cons rfl (FrLe.cons rfl (FrLe.nil _))))
  exact hY4 _ _ h

def j1_ref07_Tree_Find (B : World) (ro : AH) (Q : Int → AH → Prop) (σ : AH) : Prop :=
 Q (-1) σ

def l2_ref07_Tree_Find (B : World) (ro : AH) (a0 : Option Addr) (a1 : ByteArray) (Q : Int → AH → Prop) : (Int) → AH → ((Int) → AH → Prop) → Prop := fun x5_3 σ Y2 =>
 ∃ p8_4 : Addr, a0 = some p8_4 ∧
 ∃ (x10_5 : Sl), acell ro σ p8_4 = some (Sl.v x10_5) ∧
 if x5_3 < (x10_5.len : Int) then
  ∃ p16_6 : Addr, a0 = some p16_6 ∧
  ∃ (x18_7 : Sl), acell ro σ p16_6 = some (Sl.v x18_7) ∧
  ∃ p20_8 : Addr, x18_7.a = some p20_8 ∧ (0 : Int) ≤ x5_3 ∧ x5_3 < (x18_7.len : Int) ∧
  ∃ (x22_9 : ByteArray), acell ro σ (p20_8.add (Int.toNat x5_3 * 5)) = some (.string x22_9) ∧
  if x22_9 = a1 then
   Q x5_3 σ
  else
  Y2 (IntKind.i64.wrap (x5_3 + 1)) σ
 else
 j1_ref07_Tree_Find B ro Q σ

def f_ref07_Tree_Find (B : World) (ro : AH) (a0 : Option Addr) (a1 : ByteArray) (σ : AH) (Q : Int → AH → Prop) : Prop :=
 lfpD (l2_ref07_Tree_Find B ro a0 a1 Q ) (0) σ

set_option maxRecDepth 100000 in
set_option maxHeartbeats 4000000 in
theorem ref07_Tree_Find_ok {B : World} {ro : AH} {a0 : Option Addr} {a1 : ByteArray} {σ : AH} {Q : Int → AH → Prop} (h : Sep ro σ → f_ref07_Tree_Find B ro a0 a1 σ Q) : c_ref07_Tree_Find B ro a0 a1 σ Q := by
  refine ACalls.of_sep fun hsep => ?_
  replace h := h hsep
  refine ACalls.of_body (args := [.pointer a0, .string a1]) Tryz.func84 rfl (by rw [Tryz.ntmps84]; simp) ?_
  rw [Tryz.ntmps84]
  unfold f_ref07_Tree_Find at h
  refine AW.seq ?_
  refine AW.reg ?_
  refine Lp (V_asg rfl rfl) rfl rfl ?_
  refine Lnil ?_
  refine thenN ?_
  refine AW.seqJ (fun fr σ => FrLe [] fr ∧ j1_ref07_Tree_Find B ro Q σ) ?_ ?_
  · rintro fr σ ⟨hl, h⟩
    refine AW.weaken ?_ hl (HLe.refl _)
    unfold j1_ref07_Tree_Find at h
    refine AW.seq ?_
    refine AW.reg ?_
    refine Lp (V_asg rfl rfl) rfl rfl ?_
    refine Lnil ?_
    refine thenN ?_
    refine AW.ret ?_
    exact bR1 Tryz.results84 rfl ⟨_, rfl, h⟩
  refine AW.seq ?_
  refine AW.reg ?_
  refine Lp (V_asg rfl rfl) rfl rfl ?_
  refine Lnil ?_
  refine thenN ?_
  refine AW.block ?_
  refine ARound.loop (fr' := [(0, .pointer a0), (1, .string a1), (5, .int .i64 0)]) ?_ (FrLe.cons rfl (FrLe.cons rfl (FrLe.cons rfl (FrLe.nil _))))
  refine h (fun x5_3 σ => ARound _ _ _ _ _ _ [(0, .pointer a0), (1, .string a1), (5, .int .i64 x5_3)] σ) ?_
  rintro x5_3 σ Y2 hY2 h
  show AW _ _ _ _ _ _ _ _
  unfold l2_ref07_Tree_Find at h
  refine AW.seq ?_
  refine AW.seq ?_
  refine AW.reg ?_
  refine Lp (V_move rfl rfl) rfl rfl ?_
  refine Lp (V_move rfl rfl) rfl rfl ?_
  obtain ⟨p8_4, hc, h⟩ := h
  refine Lp (V_nil rfl (by rw [← hc]; rfl)) rfl rfl ?_
  refine Lp (V_fld rfl Tryz.underlying157 rfl ty155 (by decide) rfl) rfl rfl ?_
  obtain ⟨x10_5, hc, h⟩ := h
  refine Ls rfl rfl (X_ld rfl Tryz.underlying155 rfl rfl hc ?_)
  refine Lp (V_lenL rfl rfl Tryz.underlying155 rfl rfl) rfl rfl ?_
  refine Lp (V_lss rfl rfl rfl) rfl rfl ?_
  refine Lnil ?_
  refine thenN ?_
  refine AW.iff rfl decide_eq_true_iff h (fun h => ?_) (fun h => ?_)
  rotate_left
  · refine AW.exit ?_
    refine thenE ?_
    refine thenE ?_
    refine blockE ?_
    refine thenN ?_
    exact ⟨(FrLe.nil _), h⟩
  refine AW.skip ?_
  refine thenN ?_
  refine AW.seq ?_
  refine AW.block ?_
  refine AW.seq ?_
  refine AW.reg ?_
  refine Lp (V_move rfl rfl) rfl rfl ?_
  obtain ⟨p16_6, hc, h⟩ := h
  refine Lp (V_nil rfl (by rw [← hc]; rfl)) rfl rfl ?_
  refine Lp (V_fld rfl Tryz.underlying157 rfl ty155 (by decide) rfl) rfl rfl ?_
  obtain ⟨x18_7, hc, h⟩ := h
  refine Ls rfl rfl (X_ld rfl Tryz.underlying155 rfl rfl hc ?_)
  refine Lp (V_move rfl rfl) rfl rfl ?_
  obtain ⟨p20_8, ha, h0, h1, h⟩ := h
  refine Lp (V_ixA rfl Tryz.underlying155 ty159 (ixL rfl ha) rfl h0 h1) rfl rfl ?_
  refine Lp (V_fld rfl Tryz.underlying159 rfl ty9 (by decide) rfl) rfl rfl ?_
  obtain ⟨x22_9, hc, h⟩ := h
  refine Ls rfl rfl (X_ld rfl Tryz.underlying9 rfl rfl hc ?_)
  refine Lp (V_move rfl rfl) rfl rfl ?_
  refine Lp (V_eqlS rfl rfl rfl) rfl rfl ?_
  refine Lnil ?_
  refine thenN ?_
  refine AW.iff rfl decide_eq_true_iff h (fun h => ?_) (fun h => ?_)
  · refine AW.seq ?_
    refine AW.reg ?_
    refine Lp (V_move rfl rfl) rfl rfl ?_
    refine Lp (V_asg rfl rfl) rfl rfl ?_
    refine Lnil ?_
    refine thenN ?_
    refine AW.ret ?_
    refine blockR ?_
    refine thenR ?_
    refine thenR ?_
    refine blockR ?_
    refine thenR ?_
    exact bR1 Tryz.results84 rfl ⟨_, rfl, h⟩
  refine AW.skip ?_
  refine blockN ?_
  refine thenN ?_
  refine AW.reg ?_
  refine Lp (V_move rfl rfl) rfl rfl ?_
  refine Lp (V_add rfl rfl rfl) rfl rfl ?_
  refine Lp (V_asg rfl rfl) rfl rfl ?_
  refine Lnil ?_
  refine thenN ?_
  refine ARound.head (fr' := [(0, .pointer a0), (1, .string a1), (5, .int .i64 (IntKind.i64.wrap (x5_3 + 1)))]) ?_ (FrLe.cons rfl (FrLe.cons rfl (FrLe.cons rfl (FrLe.nil _))))
  exact hY2 _ _ h

def j1_ref07_Tree_below (B : World) (ro : AH) (Q : Int → AH → Prop) (x5_2 : Int) (σ : AH) : Prop :=
 Q x5_2 σ

def j8_ref07_Tree_below (B : World) (ro : AH) (a0 : Option Addr) (a1 : ByteArray) (x6_5 : Int) (Q : Int → AH → Prop) (Y3 : (Int × Int) → AH → Prop) (x5_9 : Int) (σ : AH) : Prop :=
 Y3 (x5_9, IntKind.i64.wrap (x6_5 + 1)) σ

def l3_ref07_Tree_below (B : World) (ro : AH) (a0 : Option Addr) (a1 : ByteArray) (Q : Int → AH → Prop) : (Int × Int) → AH → ((Int × Int) → AH → Prop) → Prop := fun ⟨x5_4, x6_5⟩ σ Y3 =>
 ∃ p11_6 : Addr, a0 = some p11_6 ∧
 ∃ (x13_7 : Sl), acell ro σ p11_6 = some (Sl.v x13_7) ∧
 if x6_5 < (x13_7.len : Int) then
  ∃ p20_10 : Addr, a0 = some p20_10 ∧
  ∃ (x22_11 : Sl), acell ro σ p20_10 = some (Sl.v x22_11) ∧
  ∃ p24_12 : Addr, x22_11.a = some p24_12 ∧ (0 : Int) ≤ x6_5 ∧ x6_5 < (x22_11.len : Int) ∧
  ∃ (x26_13 : ByteArray), acell ro σ (p24_12.add (Int.toNat x6_5 * 5)) = some (.string x26_13) ∧
  c_ref02_Parent B ro x26_13 σ fun x27_14 x27_15 σ =>
  if (x27_15 = true) ∧ (x27_14 = a1) then
   j8_ref07_Tree_below B ro a0 a1 x6_5 Q Y3 (IntKind.i64.wrap (x5_4 + 1)) σ
  else
  j8_ref07_Tree_below B ro a0 a1 x6_5 Q Y3 x5_4 σ
 else
 j1_ref07_Tree_below B ro Q x5_4 σ

def f_ref07_Tree_below (B : World) (ro : AH) (a0 : Option Addr) (a1 : ByteArray) (σ : AH) (Q : Int → AH → Prop) : Prop :=
 lfpD (l3_ref07_Tree_below B ro a0 a1 Q ) (0, 0) σ

set_option maxRecDepth 100000 in
set_option maxHeartbeats 4000000 in
theorem ref07_Tree_below_ok {B : World} {ro : AH} {a0 : Option Addr} {a1 : ByteArray} {σ : AH} {Q : Int → AH → Prop} (h : Sep ro σ → f_ref07_Tree_below B ro a0 a1 σ Q) : c_ref07_Tree_below B ro a0 a1 σ Q := by
  refine ACalls.of_sep fun hsep => ?_
  replace h := h hsep
  refine ACalls.of_body (args := [.pointer a0, .string a1]) Tryz.func85 rfl (by rw [Tryz.ntmps85]; simp) ?_
  rw [Tryz.ntmps85]
  unfold f_ref07_Tree_below at h
  refine AW.seq ?_
  refine AW.reg ?_
  refine Lp (V_asg rfl rfl) rfl rfl ?_
  refine Lnil ?_
  refine thenN ?_
  refine AW.seq ?_
  refine AW.reg ?_
  refine Lp (V_asg rfl rfl) rfl rfl ?_
  refine Lnil ?_
  refine thenN ?_
  refine AW.seqJ (fun fr σ => ∃ (x5_2 : Int), FrLe [(5, .int .i64 x5_2)] fr ∧ j1_ref07_Tree_below B ro Q x5_2 σ) ?_ ?_
  · rintro fr σ ⟨x5_2, hl, h⟩
    refine AW.weaken ?_ hl (HLe.refl _)
    unfold j1_ref07_Tree_below at h
    refine AW.seq ?_
    refine AW.reg ?_
    refine Lp (V_move rfl rfl) rfl rfl ?_
    refine Lp (V_asg rfl rfl) rfl rfl ?_
    refine Lnil ?_
    refine thenN ?_
    refine AW.ret ?_
    exact bR1 Tryz.results85 rfl ⟨_, rfl, h⟩
  refine AW.seq ?_
  refine AW.reg ?_
  refine Lp (V_asg rfl rfl) rfl rfl ?_
  refine Lnil ?_
  refine thenN ?_
  refine AW.block ?_
  refine ARound.loop (fr' := [(0, .pointer a0), (1, .string a1), (5, .int .i64 0), (6, .int .i64 0)]) ?_ (FrLe.cons rfl (FrLe.cons rfl (FrLe.cons rfl (FrLe.cons rfl (FrLe.nil _)))))
  refine h (fun ⟨x5_4, x6_5⟩ σ => ARound _ _ _ _ _ _ [(0, .pointer a0), (1, .string a1), (5, .int .i64 x5_4), (6, .int .i64 x6_5)] σ) ?_
  rintro ⟨x5_4, x6_5⟩ σ Y3 hY3 h
  show AW _ _ _ _ _ _ _ _
  unfold l3_ref07_Tree_below at h
  dsimp only at h
  refine AW.seq ?_
  refine AW.seq ?_
  refine AW.reg ?_
  refine Lp (V_move rfl rfl) rfl rfl ?_
  refine Lp (V_move rfl rfl) rfl rfl ?_
  obtain ⟨p11_6, hc, h⟩ := h
  refine Lp (V_nil rfl (by rw [← hc]; rfl)) rfl rfl ?_
  refine Lp (V_fld rfl Tryz.underlying157 rfl ty155 (by decide) rfl) rfl rfl ?_
  obtain ⟨x13_7, hc, h⟩ := h
  refine Ls rfl rfl (X_ld rfl Tryz.underlying155 rfl rfl hc ?_)
  refine Lp (V_lenL rfl rfl Tryz.underlying155 rfl rfl) rfl rfl ?_
  refine Lp (V_lss rfl rfl rfl) rfl rfl ?_
  refine Lnil ?_
  refine thenN ?_
  refine AW.iff rfl decide_eq_true_iff h (fun h => ?_) (fun h => ?_)
  rotate_left
  · refine AW.exit ?_
    refine thenE ?_
    refine thenE ?_
    refine blockE ?_
    refine thenN ?_
    exact ⟨_, (FrLe.cons rfl (FrLe.nil _)), h⟩
  refine AW.skip ?_
  refine thenN ?_
  refine AW.seqJ (fun fr σ => ∃ (x5_9 : Int), FrLe [(0, .pointer a0), (1, .string a1), (6, .int .i64 x6_5), (5, .int .i64 x5_9)] fr ∧ j8_ref07_Tree_below B ro a0 a1 x6_5 Q Y3 x5_9 σ) ?_ ?_
  · rintro fr σ ⟨x5_9, hl, h⟩
    refine AW.weaken ?_ hl (HLe.refl _)
    unfold j8_ref07_Tree_below at h
    refine AW.reg ?_
    refine Lp (V_move rfl rfl) rfl rfl ?_
    refine Lp (V_add rfl rfl rfl) rfl rfl ?_
    refine Lp (V_asg rfl rfl) rfl rfl ?_
    refine Lnil ?_
    refine thenN ?_
    refine ARound.head (fr' := [(0, .pointer a0), (1, .string a1), (5, .int .i64 x5_9), (6, .int .i64 (IntKind.i64.wrap (x6_5 + 1)))]) ?_ (FrLe.cons rfl (FrLe.cons rfl (FrLe.cons rfl (FrLe.cons rfl (FrLe.nil _)))))
    exact hY3 _ _ h
  refine AW.block ?_
  refine AW.seq ?_
  refine AW.reg ?_
  refine Lp (V_move rfl rfl) rfl rfl ?_
  obtain ⟨p20_10, hc, h⟩ := h
  refine Lp (V_nil rfl (by rw [← hc]; rfl)) rfl rfl ?_
  refine Lp (V_fld rfl Tryz.underlying157 rfl ty155 (by decide) rfl) rfl rfl ?_
  obtain ⟨x22_11, hc, h⟩ := h
  refine Ls rfl rfl (X_ld rfl Tryz.underlying155 rfl rfl hc ?_)
  refine Lp (V_move rfl rfl) rfl rfl ?_
  obtain ⟨p24_12, ha, h0, h1, h⟩ := h
  refine Lp (V_ixA rfl Tryz.underlying155 ty159 (ixL rfl ha) rfl h0 h1) rfl rfl ?_
  refine Lp (V_fld rfl Tryz.underlying159 rfl ty9 (by decide) rfl) rfl rfl ?_
  obtain ⟨x26_13, hc, h⟩ := h
  refine Ls rfl rfl (X_ld rfl Tryz.underlying9 rfl rfl hc ?_)
  refine Ls rfl rfl (X_call rfl Tryz.func19 rfl rfl rfl (ACalls.mono h ?_))
  rintro v σ ⟨x27_14, x27_15, rfl, h⟩
  refine Lp (V_move rfl rfl) rfl rfl ?_
  refine Lp (V_ext rfl rfl rfl) rfl rfl ?_
  refine Lp (V_ext rfl rfl rfl) rfl rfl ?_
  refine Lp (V_asg rfl rfl) rfl rfl ?_
  refine Lp (V_asg rfl rfl) rfl rfl ?_
  refine Lnil ?_
  refine thenN ?_
  refine AW.seq ?_
  refine AW.reg ?_
  refine Lp (V_move rfl rfl) rfl rfl ?_
  refine Lp (V_move rfl rfl) rfl rfl ?_
  refine Lsplit 4 x27_15 [(0, .pointer a0), (1, .string a1), (5, .int .i64 x5_4), (6, .int .i64 x6_5), (35, .bool (x27_15 && (decide (x27_14 = a1))))] ?_ ?_ ?_
  · intro e1 hk1
    refine Lypb (V_move rfl rfl) rfl rfl rfl rfl e1 ?_
    refine Lypb (V_move rfl rfl) rfl rfl rfl rfl e1 ?_
    refine Lypb (V_eqlS rfl rfl rfl) rfl rfl rfl rfl e1 ?_
    refine Lp (V_pickT rfl (evb e1) rfl) rfl rfl ?_
    exact hk1 _ (FrLe.cons rfl (FrLe.cons rfl (FrLe.cons rfl (FrLe.cons rfl (FrLe.cons (by rw [e1]; rfl) (FrLe.nil _))))))
  · intro e1 hk1
    refine Ln rfl rfl rfl rfl (.inl (by rw [e1]; rfl)) ?_
    refine Ln rfl rfl rfl rfl (.inl (by rw [e1]; rfl)) ?_
    refine Ln rfl rfl rfl rfl (.inl (by rw [e1]; rfl)) ?_
    refine Lp (V_pickF rfl (evb e1) rfl) rfl rfl ?_
    exact hk1 _ (FrLe.cons rfl (FrLe.cons rfl (FrLe.cons rfl (FrLe.cons rfl (FrLe.cons (by rw [e1]; rfl) (FrLe.nil _))))))
  intro fr hl
  refine Lfr hl ?_
  refine Lnil ?_
  refine thenN ?_
  refine AW.iff rfl (band_iff Iff.rfl decide_eq_true_iff) h (fun h => ?_) (fun h => ?_)
  rotate_left
  · refine AW.skip ?_
    refine blockN ?_
    refine thenN ?_
    exact ⟨_, (FrLe.cons rfl (FrLe.cons rfl (FrLe.cons rfl (FrLe.cons rfl (FrLe.nil _))))), h⟩
  refine AW.reg ?_
  refine Lp (V_move rfl rfl) rfl rfl ?_
  refine Lp (V_add rfl rfl rfl) rfl rfl ?_
  refine Lp (V_asg rfl rfl) rfl rfl ?_
  refine Lnil ?_
  refine blockN ?_
  refine thenN ?_
  exact ⟨_, (FrLe.cons rfl (FrLe.cons rfl (FrLe.cons rfl (FrLe.cons rfl (FrLe.nil _))))), h⟩

def j1_ref07_Tree_Owned (B : World) (ro : AH) (Q : Sl → AH → Prop) (x5_2 : Sl) (σ : AH) : Prop :=
 Q x5_2 σ

def j8_ref07_Tree_Owned (B : World) (ro : AH) (a0 : Option Addr) (a1 : Sl) (x6_5 : Int) (Q : Sl → AH → Prop) (Y3 : (Sl × Int) → AH → Prop) (x5_9 : Sl) (σ : AH) : Prop :=
 Y3 (x5_9, IntKind.i64.wrap (x6_5 + 1)) σ

def j17_ref07_Tree_Owned (B : World) (ro : AH) (a0 : Option Addr) (a1 : Sl) (x5_11 : Sl) (x6_5 : Int) (x7_12 : Int) (Q : Sl → AH → Prop) (Y3 : (Sl × Int) → AH → Prop) (Y10 : (Sl × Int) → AH → Prop) (x41_18 : Bool) (σ : AH) : Prop :=
 if x41_18 = true then
  ∃ p44_19 : Addr, a0 = some p44_19 ∧
  ∃ (x46_20 : Sl), acell ro σ p44_19 = some (Sl.v x46_20) ∧
  ∃ p48_21 : Addr, x46_20.a = some p48_21 ∧ (0 : Int) ≤ x6_5 ∧ x6_5 < (x46_20.len : Int) ∧
  ∃ (x50_22 : ByteArray), acell ro σ (p48_21.add (Int.toNat x6_5 * 5)) = some (.string x50_22) ∧
  nw ro σ (.cells #[.string x50_22] 9) fun x51_23 σ =>
  awp Tryz.prog ro (Builtin.append_ #[25, 25] 25 #[Sl.v x5_11, Sl.v (⟨some ⟨x51_23, 0, none⟩, 1, 1⟩ : Sl)]) (fun v σ => ∃ (x52_24 : Sl), v = Sl.v x52_24 ∧
   j8_ref07_Tree_Owned B ro a0 a1 x6_5 Q Y3 x52_24 σ) σ
 else
 Y10 (x5_11, IntKind.i64.wrap (x7_12 + 1)) σ

def l10_ref07_Tree_Owned (B : World) (ro : AH) (a0 : Option Addr) (a1 : Sl) (x6_5 : Int) (Q : Sl → AH → Prop) (Y3 : (Sl × Int) → AH → Prop) : (Sl × Int) → AH → ((Sl × Int) → AH → Prop) → Prop := fun ⟨x5_11, x7_12⟩ σ Y10 =>
 if x7_12 < (a1.len : Int) then
  ∃ p25_13 : Addr, a0 = some p25_13 ∧
  ∃ (x27_14 : Sl), acell ro σ p25_13 = some (Sl.v x27_14) ∧
  ∃ p29_15 : Addr, x27_14.a = some p29_15 ∧ (0 : Int) ≤ x6_5 ∧ x6_5 < (x27_14.len : Int) ∧
  ∃ (x31_16 : Int), acell ro σ ((p29_15.add (Int.toNat x6_5 * 5)).add 4) = some (.int .i64 x31_16) ∧
  if ¬ (x31_16 = 0) then
   ∃ p38_25 : Addr, a1.a = some p38_25 ∧ (0 : Int) ≤ x7_12 ∧ x7_12 < (a1.len : Int) ∧
   ∃ (x39_26 : Int), acell ro σ (p38_25.add (Int.toNat x7_12 * 1)) = some (.int .i64 x39_26) ∧
   j17_ref07_Tree_Owned B ro a0 a1 x5_11 x6_5 x7_12 Q Y3 Y10 (decide (x31_16 = x39_26)) σ
  else
  j17_ref07_Tree_Owned B ro a0 a1 x5_11 x6_5 x7_12 Q Y3 Y10 false σ
 else
 j8_ref07_Tree_Owned B ro a0 a1 x6_5 Q Y3 x5_11 σ

def l3_ref07_Tree_Owned (B : World) (ro : AH) (a0 : Option Addr) (a1 : Sl) (Q : Sl → AH → Prop) : (Sl × Int) → AH → ((Sl × Int) → AH → Prop) → Prop := fun ⟨x5_4, x6_5⟩ σ Y3 =>
 ∃ p11_6 : Addr, a0 = some p11_6 ∧
 ∃ (x13_7 : Sl), acell ro σ p11_6 = some (Sl.v x13_7) ∧
 if x6_5 < (x13_7.len : Int) then
  lfpD (l10_ref07_Tree_Owned B ro a0 a1 x6_5 Q Y3 ) (x5_4, 0) σ
 else
 j1_ref07_Tree_Owned B ro Q x5_4 σ

def f_ref07_Tree_Owned (B : World) (ro : AH) (a0 : Option Addr) (a1 : Sl) (σ : AH) (Q : Sl → AH → Prop) : Prop :=
 lfpD (l3_ref07_Tree_Owned B ro a0 a1 Q ) ((⟨none, 0, 0⟩ : Sl), 0) σ

set_option maxRecDepth 100000 in
set_option maxHeartbeats 4000000 in
theorem ref07_Tree_Owned_ok {B : World} {ro : AH} {a0 : Option Addr} {a1 : Sl} {σ : AH} {Q : Sl → AH → Prop} (h : Sep ro σ → f_ref07_Tree_Owned B ro a0 a1 σ Q) : c_ref07_Tree_Owned B ro a0 a1 σ Q := by
  refine ACalls.of_sep fun hsep => ?_
  replace h := h hsep
  refine ACalls.of_body (args := [.pointer a0, Sl.v a1]) Tryz.func88 rfl (by rw [Tryz.ntmps88]; simp) ?_
  rw [Tryz.ntmps88]
  unfold f_ref07_Tree_Owned at h
  refine AW.seq ?_
  refine AW.reg ?_
  refine Lp (V_asg rfl rfl) rfl rfl ?_
  refine Lnil ?_
  refine thenN ?_
  refine AW.seq ?_
  refine AW.reg ?_
  refine Lp (V_asg rfl rfl) rfl rfl ?_
  refine Lnil ?_
  refine thenN ?_
  refine AW.seqJ (fun fr σ => ∃ (x5_2 : Sl), FrLe [(5, Sl.v x5_2)] fr ∧ j1_ref07_Tree_Owned B ro Q x5_2 σ) ?_ ?_
  · rintro fr σ ⟨x5_2, hl, h⟩
    refine AW.weaken ?_ hl (HLe.refl _)
    unfold j1_ref07_Tree_Owned at h
    refine AW.seq ?_
    refine AW.reg ?_
    refine Lp (V_move rfl rfl) rfl rfl ?_
    refine Lp (V_asg rfl rfl) rfl rfl ?_
    refine Lnil ?_
    refine thenN ?_
    refine AW.ret ?_
    exact bR1 Tryz.results88 rfl ⟨_, rfl, h⟩
  refine AW.seq ?_
  refine AW.reg ?_
  refine Lp (V_asg rfl rfl) rfl rfl ?_
  refine Lnil ?_
  refine thenN ?_
  refine AW.block ?_
  refine ARound.loop (fr' := [(0, .pointer a0), (1, Sl.v a1), (5, Sl.v (⟨none, 0, 0⟩ : Sl)), (6, .int .i64 0)]) ?_ (FrLe.cons rfl (FrLe.cons rfl (FrLe.cons rfl (FrLe.cons rfl (FrLe.nil _)))))
  refine h (fun ⟨x5_4, x6_5⟩ σ => ARound _ _ _ _ _ _ [(0, .pointer a0), (1, Sl.v a1), (5, Sl.v x5_4), (6, .int .i64 x6_5)] σ) ?_
  rintro ⟨x5_4, x6_5⟩ σ Y3 hY3 h
  show AW _ _ _ _ _ _ _ _
  unfold l3_ref07_Tree_Owned at h
  dsimp only at h
  refine AW.seq ?_
  refine AW.seq ?_
  refine AW.reg ?_
  refine Lp (V_move rfl rfl) rfl rfl ?_
  refine Lp (V_move rfl rfl) rfl rfl ?_
  obtain ⟨p11_6, hc, h⟩ := h
  refine Lp (V_nil rfl (by rw [← hc]; rfl)) rfl rfl ?_
  refine Lp (V_fld rfl Tryz.underlying157 rfl ty155 (by decide) rfl) rfl rfl ?_
  obtain ⟨x13_7, hc, h⟩ := h
  refine Ls rfl rfl (X_ld rfl Tryz.underlying155 rfl rfl hc ?_)
  refine Lp (V_lenL rfl rfl Tryz.underlying155 rfl rfl) rfl rfl ?_
  refine Lp (V_lss rfl rfl rfl) rfl rfl ?_
  refine Lnil ?_
  refine thenN ?_
  refine AW.iff rfl decide_eq_true_iff h (fun h => ?_) (fun h => ?_)
  rotate_left
  · refine AW.exit ?_
    refine thenE ?_
    refine thenE ?_
    refine blockE ?_
    refine thenN ?_
    exact ⟨_, (FrLe.cons rfl (FrLe.nil _)), h⟩
  refine AW.skip ?_
  refine thenN ?_
  refine AW.seqJ (fun fr σ => ∃ (x5_9 : Sl), FrLe [(0, .pointer a0), (1, Sl.v a1), (6, .int .i64 x6_5), (5, Sl.v x5_9)] fr ∧ j8_ref07_Tree_Owned B ro a0 a1 x6_5 Q Y3 x5_9 σ) ?_ ?_
  · rintro fr σ ⟨x5_9, hl, h⟩
    refine AW.weaken ?_ hl (HLe.refl _)
    unfold j8_ref07_Tree_Owned at h
    refine AW.reg ?_
    refine Lp (V_move rfl rfl) rfl rfl ?_
    refine Lp (V_add rfl rfl rfl) rfl rfl ?_
    refine Lp (V_asg rfl rfl) rfl rfl ?_
    refine Lnil ?_
    refine thenN ?_
    refine ARound.head (fr' := [(0, .pointer a0), (1, Sl.v a1), (5, Sl.v x5_9), (6, .int .i64 (IntKind.i64.wrap (x6_5 + 1)))]) ?_ (FrLe.cons rfl (FrLe.cons rfl (FrLe.cons rfl (FrLe.cons rfl (FrLe.nil _)))))
    exact hY3 _ _ h
  refine AW.block ?_
  refine AW.seq ?_
  refine AW.reg ?_
  refine Lp (V_asg rfl rfl) rfl rfl ?_
  refine Lnil ?_
  refine thenN ?_
  refine AW.block ?_
  refine ARound.loop (fr' := [(0, .pointer a0), (1, Sl.v a1), (6, .int .i64 x6_5), (5, Sl.v x5_4), (7, .int .i64 0)]) ?_ (FrLe.cons rfl (FrLe.cons rfl (FrLe.cons rfl (FrLe.cons rfl (FrLe.cons rfl (FrLe.nil _))))))
  refine h (fun ⟨x5_11, x7_12⟩ σ => ARound _ _ _ _ _ _ [(0, .pointer a0), (1, Sl.v a1), (6, .int .i64 x6_5), (5, Sl.v x5_11), (7, .int .i64 x7_12)] σ) ?_
  rintro ⟨x5_11, x7_12⟩ σ Y10 hY10 h
  show AW _ _ _ _ _ _ _ _
  unfold l10_ref07_Tree_Owned at h
  dsimp only at h
  refine AW.seq ?_
  refine AW.seq ?_
  refine AW.reg ?_
  refine Lp (V_move rfl rfl) rfl rfl ?_
  refine Lp (V_move rfl rfl) rfl rfl ?_
  refine Lp (V_lenL rfl rfl Tryz.underlying58 rfl rfl) rfl rfl ?_
  refine Lp (V_lss rfl rfl rfl) rfl rfl ?_
  refine Lnil ?_
  refine thenN ?_
  refine AW.iff rfl decide_eq_true_iff h (fun h => ?_) (fun h => ?_)
  rotate_left
  · refine AW.exit ?_
    refine thenE ?_
    refine thenE ?_
    refine blockE ?_
    refine blockN ?_
    refine thenN ?_
    exact ⟨_, (FrLe.cons rfl (FrLe.cons rfl (FrLe.cons rfl (FrLe.cons rfl (FrLe.nil _))))), h⟩
  refine AW.skip ?_
  refine thenN ?_
  refine AW.seq ?_
  refine AW.block ?_
  refine AW.seq ?_
  refine AW.reg ?_
  refine Lp (V_move rfl rfl) rfl rfl ?_
  obtain ⟨p25_13, hc, h⟩ := h
  refine Lp (V_nil rfl (by rw [← hc]; rfl)) rfl rfl ?_
  refine Lp (V_fld rfl Tryz.underlying157 rfl ty155 (by decide) rfl) rfl rfl ?_
  obtain ⟨x27_14, hc, h⟩ := h
  refine Ls rfl rfl (X_ld rfl Tryz.underlying155 rfl rfl hc ?_)
  refine Lp (V_move rfl rfl) rfl rfl ?_
  obtain ⟨p29_15, ha, h0, h1, h⟩ := h
  refine Lp (V_ixA rfl Tryz.underlying155 ty159 (ixL rfl ha) rfl h0 h1) rfl rfl ?_
  refine Lp (V_fld rfl Tryz.underlying159 rfl ty3 (by decide) rfl) rfl rfl ?_
  obtain ⟨x31_16, hc, h⟩ := h
  refine Ls rfl rfl (X_ld rfl Tryz.underlying3 rfl rfl hc ?_)
  refine Lp (V_asg rfl rfl) rfl rfl ?_
  refine Lnil ?_
  refine thenN ?_
  refine AW.seq ?_
  refine AW.reg ?_
  refine Lp (V_move rfl rfl) rfl rfl ?_
  refine Lp (V_neq rfl rfl rfl) rfl rfl ?_
  refine Lp (V_move rfl rfl) rfl rfl ?_
  refine LsplitJ 7 (!(decide (x31_16 = 0))) (bnot_iff decide_eq_true_iff) h (fun fr σ => ∃ (x41_18 : Bool), FrLe [(0, .pointer a0), (1, Sl.v a1), (5, Sl.v x5_11), (6, .int .i64 x6_5), (7, .int .i64 x7_12), (41, .bool x41_18)] fr ∧ j17_ref07_Tree_Owned B ro a0 a1 x5_11 x6_5 x7_12 Q Y3 Y10 x41_18 σ) ?_ ?_ ?_
  · intro h e2 hk2
    refine Lypb (V_move rfl rfl) rfl rfl rfl rfl e2 ?_
    refine Lypb (V_move rfl rfl) rfl rfl rfl rfl e2 ?_
    refine Lypb (V_move rfl rfl) rfl rfl rfl rfl e2 ?_
    obtain ⟨p38_25, ha, h0, h1, h⟩ := h
    refine Lypb (V_ixA rfl Tryz.underlying58 ty3 (ixL rfl ha) rfl h0 h1) rfl rfl rfl rfl e2 ?_
    obtain ⟨x39_26, hc, h⟩ := h
    refine Lyb rfl rfl rfl rfl e2 (X_ld rfl Tryz.underlying3 rfl rfl hc ?_)
    refine Lypb (V_eql rfl rfl rfl) rfl rfl rfl rfl e2 ?_
    refine Lp (V_pickT rfl (evb e2) rfl) rfl rfl ?_
    exact hk2 _ _ ⟨_, (FrLe.cons rfl (FrLe.cons rfl (FrLe.cons rfl (FrLe.cons rfl (FrLe.cons rfl (FrLe.cons rfl (FrLe.nil _))))))), h⟩
  · intro h e2 hk2
    refine Ln rfl rfl rfl rfl (.inl (by rw [e2]; rfl)) ?_
    refine Ln rfl rfl rfl rfl (.inl (by rw [e2]; rfl)) ?_
    refine Ln rfl rfl rfl rfl (.inl (by rw [e2]; rfl)) ?_
    refine Ln rfl rfl rfl rfl (.inl (by rw [e2]; rfl)) ?_
    refine Ln rfl rfl rfl rfl (.inl (by rw [e2]; rfl)) ?_
    refine Ln rfl rfl rfl rfl (.inl (by rw [e2]; rfl)) ?_
    refine Lp (V_pickF rfl (evb e2) rfl) rfl rfl ?_
    exact hk2 _ _ ⟨_, (FrLe.cons rfl (FrLe.cons rfl (FrLe.cons rfl (FrLe.cons rfl (FrLe.cons rfl (FrLe.cons rfl (FrLe.nil _))))))), h⟩
  rintro fr σ ⟨x41_18, hl, h⟩
  unfold j17_ref07_Tree_Owned at h
  refine Lfr hl ?_
  refine Lnil ?_
  refine thenN ?_
  refine AW.iff rfl Iff.rfl h (fun h => ?_) (fun h => ?_)
  rotate_left
  · refine AW.skip ?_
    refine blockN ?_
    refine thenN ?_
    refine AW.reg ?_
    refine Lp (V_move rfl rfl) rfl rfl ?_
    refine Lp (V_add rfl rfl rfl) rfl rfl ?_
    refine Lp (V_asg rfl rfl) rfl rfl ?_
    refine Lnil ?_
    refine thenN ?_
    refine ARound.head (fr' := [(0, .pointer a0), (1, Sl.v a1), (6, .int .i64 x6_5), (5, Sl.v x5_11), (7, .int .i64 (IntKind.i64.wrap (x7_12 + 1)))]) ?_ (FrLe.cons rfl (FrLe.cons rfl (FrLe.cons rfl (FrLe.cons rfl (FrLe.cons rfl (FrLe.nil _))))))
    exact hY10 _ _ h
  refine AW.seq ?_
  refine AW.reg ?_
  refine Lp (V_move rfl rfl) rfl rfl ?_
  refine Lp (V_move rfl rfl) rfl rfl ?_
  obtain ⟨p44_19, hc, h⟩ := h
  refine Lp (V_nil rfl (by rw [← hc]; rfl)) rfl rfl ?_
  refine Lp (V_fld rfl Tryz.underlying157 rfl ty155 (by decide) rfl) rfl rfl ?_
  obtain ⟨x46_20, hc, h⟩ := h
  refine Ls rfl rfl (X_ld rfl Tryz.underlying155 rfl rfl hc ?_)
  refine Lp (V_move rfl rfl) rfl rfl ?_
  obtain ⟨p48_21, ha, h0, h1, h⟩ := h
  refine Lp (V_ixA rfl Tryz.underlying155 ty159 (ixL rfl ha) rfl h0 h1) rfl rfl ?_
  refine Lp (V_fld rfl Tryz.underlying159 rfl ty9 (by decide) rfl) rfl rfl ?_
  obtain ⟨x50_22, hc, h⟩ := h
  refine Ls rfl rfl (X_ld rfl Tryz.underlying9 rfl rfl hc ?_)
  refine Ls rfl rfl (X_new (A_bsl (vs := [(0, .string x50_22)]) (cs := #[.string x50_22]) rfl Tryz.underlying25 ty9 (by decide) rfl rfl) fun x51_23 g1 g2 => ?_)
  replace h := h x51_23 g1 g2
  refine Ls rfl rfl (X_bi (s := Builtin.append_ #[25, 25] 25 #[Sl.v x5_11, Sl.v (⟨some ⟨x51_23, 0, none⟩, 1, 1⟩ : Sl)]) rfl rfl (fun _ => rfl) (awp_mono _ h ?_))
  rintro v σ ⟨x52_24, rfl, h⟩
  refine Lp (V_asg rfl rfl) rfl rfl ?_
  refine Lnil ?_
  refine thenN ?_
  refine AW.exit ?_
  refine blockO rfl ?_
  refine thenE ?_
  refine thenE ?_
  refine blockE ?_
  refine blockN ?_
  refine thenN ?_
  exact ⟨_, (FrLe.cons rfl (FrLe.cons rfl (FrLe.cons rfl (FrLe.cons rfl (FrLe.nil _))))), h⟩

def f_ref07_Tree_Get (B : World) (ro : AH) (a0 : Option Addr) (a1 : ByteArray) (σ : AH) (Q : ByteArray → Sl → Int → Int → Int → Int → Int → AH → Prop) : Prop :=
 nw ro σ (.cells #[.string ByteArray.empty, Sl.v (⟨none, 0, 0⟩ : Sl), .int .i64 0, .int .i64 0, .int .i64 0] 159) fun x4_1 σ =>
 c_ref02_Parts B ro a1 σ fun x12_2 x12_3 σ =>
 if ¬ (x12_3 = true) then
  stN ⟨x4_1, 0, none⟩ (fun σ =>
   ∃ (x4_4a : ByteArray) (x4_4b : Sl) (x4_4c : Int) (x4_4d : Int) (x4_4e : Int), cellsAt ro σ ⟨x4_1, 0, none⟩ 0 [.string x4_4a, Sl.v x4_4b, .int .i64 x4_4c, .int .i64 x4_4d, .int .i64 x4_4e] ∧
   Q x4_4a x4_4b x4_4c x4_4d x4_4e 0 20 σ) [.string ByteArray.empty, Sl.v (⟨none, 0, 0⟩ : Sl), .int .i64 0, .int .i64 0, .int .i64 0] 0 σ
 else
 c_ref07_Tree_Find B ro a0 a1 σ fun x20_5 σ =>
 if x20_5 < 0 then
  stN ⟨x4_1, 0, none⟩ (fun σ =>
   ∃ (x4_6a : ByteArray) (x4_6b : Sl) (x4_6c : Int) (x4_6d : Int) (x4_6e : Int), cellsAt ro σ ⟨x4_1, 0, none⟩ 0 [.string x4_6a, Sl.v x4_6b, .int .i64 x4_6c, .int .i64 x4_6d, .int .i64 x4_6e] ∧
   Q x4_6a x4_6b x4_6c x4_6d x4_6e 0 70 σ) [.string ByteArray.empty, Sl.v (⟨none, 0, 0⟩ : Sl), .int .i64 0, .int .i64 0, .int .i64 0] 0 σ
 else
 lent σ fun ψ σ =>
  ∃ p25_7 : Addr, a0 = some p25_7 ∧
  ∃ (x27_8 : Sl), acell (join ro ψ) (fun _ => none) p25_7 = some (Sl.v x27_8) ∧
  ∃ p29_9 : Addr, x27_8.a = some p29_9 ∧ (0 : Int) ≤ x20_5 ∧ x20_5 < (x27_8.len : Int) ∧
  ∃ (x30_10a : ByteArray) (x30_10b : Sl) (x30_10c : Int) (x30_10d : Int) (x30_10e : Int), cellsAt (join ro ψ) (fun _ => none) (p29_9.add (Int.toNat x20_5 * 5)) 0 [.string x30_10a, Sl.v x30_10b, .int .i64 x30_10c, .int .i64 x30_10d, .int .i64 x30_10e] ∧
  c_ref07_Tree_below B (join ro ψ) a0 a1 σ fun x33_11 σ =>
  stN ⟨x4_1, 0, none⟩ (fun σ =>
   (Disj ψ σ → (fun σ => 
    ∃ (x4_12a : ByteArray) (x4_12b : Sl) (x4_12c : Int) (x4_12d : Int) (x4_12e : Int), cellsAt ro σ ⟨x4_1, 0, none⟩ 0 [.string x4_12a, Sl.v x4_12b, .int .i64 x4_12c, .int .i64 x4_12d, .int .i64 x4_12e] ∧
    Q x4_12a x4_12b x4_12c x4_12d x4_12e x33_11 0 σ) (join ψ σ))) [.string x30_10a, Sl.v x30_10b, .int .i64 x30_10c, .int .i64 x30_10d, .int .i64 x30_10e] 0 σ

set_option maxRecDepth 100000 in
set_option maxHeartbeats 4000000 in
theorem ref07_Tree_Get_ok {B : World} {ro : AH} {a0 : Option Addr} {a1 : ByteArray} {σ : AH} {Q : ByteArray → Sl → Int → Int → Int → Int → Int → AH → Prop} (h : Sep ro σ → f_ref07_Tree_Get B ro a0 a1 σ Q) : c_ref07_Tree_Get B ro a0 a1 σ Q := by
  refine ACalls.of_sep fun hsep => ?_
  replace h := h hsep
  refine ACalls.of_body (args := [.pointer a0, .string a1]) Tryz.func89 rfl (by rw [Tryz.ntmps89]; simp) ?_
  rw [Tryz.ntmps89]
  unfold f_ref07_Tree_Get at h
  refine AW.seq ?_
  refine AW.reg ?_
  refine Ls rfl rfl (X_new (A_alloc rfl ty159) fun x4_1 g1 g2 => ?_)
  replace h := h x4_1 g1 g2
  refine Lp (V_asg rfl rfl) rfl rfl ?_
  refine Lp (V_asg rfl rfl) rfl rfl ?_
  refine Lnil ?_
  refine thenN ?_
  refine AW.seq ?_
  refine AW.seq ?_
  refine AW.reg ?_
  refine Lp (V_move rfl rfl) rfl rfl ?_
  refine Ls rfl rfl (X_call rfl Tryz.func64 rfl rfl rfl (ACalls.mono h ?_))
  rintro v σ ⟨x12_2, x12_3, rfl, h⟩
  refine Lp (V_move rfl rfl) rfl rfl ?_
  refine Lp (V_ext rfl rfl rfl) rfl rfl ?_
  refine Lp (V_ext rfl rfl rfl) rfl rfl ?_
  refine Lp (V_asg rfl rfl) rfl rfl ?_
  refine Lp (V_asg rfl rfl) rfl rfl ?_
  refine Lnil ?_
  refine thenN ?_
  refine AW.seq ?_
  refine AW.reg ?_
  refine Lp (V_move rfl rfl) rfl rfl ?_
  refine Lp (V_not rfl rfl) rfl rfl ?_
  refine Lnil ?_
  refine thenN ?_
  refine AW.iff rfl (bnot_iff Iff.rfl) h (fun h => ?_) (fun h => ?_)
  · refine AW.seq ?_
    refine AW.reg ?_
    refine Lp (V_bld (vs := []) (cs := #[.string ByteArray.empty, Sl.v (⟨none, 0, 0⟩ : Sl), .int .i64 0, .int .i64 0, .int .i64 0]) rfl Tryz.underlying159 ty159 pl159 rfl rfl) rfl rfl ?_
    refine Ls rfl rfl (X_st rfl ty159 rfl rfl rfl rfl (stN_mono h fun σ h => ?_))
    refine Lp (V_asg rfl rfl) rfl rfl ?_
    refine Lp (V_asg rfl rfl) rfl rfl ?_
    refine Lnil ?_
    refine thenN ?_
    refine AW.ret ?_
    refine thenR ?_
    obtain ⟨x4_4a, x4_4b, x4_4c, x4_4d, x4_4e, hc0, h⟩ := h
    exact bRM Tryz.results89 (rCons (rAgg rfl Tryz.underlying159 rfl ty159 hc0) (rCons (rTmp rfl) (rCons (rTmp rfl) rNil))) ⟨_, _, _, _, _, _, _, rfl, h⟩
  refine AW.skip ?_
  refine thenN ?_
  refine AW.seq ?_
  refine AW.reg ?_
  refine Lp (V_move rfl rfl) rfl rfl ?_
  refine Lp (V_move rfl rfl) rfl rfl ?_
  refine Ls rfl rfl (X_call rfl Tryz.func84 rfl rfl rfl (ACalls.mono h ?_))
  rintro v σ ⟨x20_5, rfl, h⟩
  refine Lp (V_asg rfl rfl) rfl rfl ?_
  refine Lnil ?_
  refine thenN ?_
  refine AW.seq ?_
  refine AW.seq ?_
  refine AW.reg ?_
  refine Lp (V_move rfl rfl) rfl rfl ?_
  refine Lp (V_lss rfl rfl rfl) rfl rfl ?_
  refine Lnil ?_
  refine thenN ?_
  refine AW.iff rfl decide_eq_true_iff h (fun h => ?_) (fun h => ?_)
  · refine AW.seq ?_
    refine AW.reg ?_
    refine Lp (V_bld (vs := []) (cs := #[.string ByteArray.empty, Sl.v (⟨none, 0, 0⟩ : Sl), .int .i64 0, .int .i64 0, .int .i64 0]) rfl Tryz.underlying159 ty159 pl159 rfl rfl) rfl rfl ?_
    refine Ls rfl rfl (X_st rfl ty159 rfl rfl rfl rfl (stN_mono h fun σ h => ?_))
    refine Lp (V_asg rfl rfl) rfl rfl ?_
    refine Lp (V_asg rfl rfl) rfl rfl ?_
    refine Lnil ?_
    refine thenN ?_
    refine AW.ret ?_
    refine thenR ?_
    obtain ⟨x4_6a, x4_6b, x4_6c, x4_6d, x4_6e, hc0, h⟩ := h
    exact bRM Tryz.results89 (rCons (rAgg rfl Tryz.underlying159 rfl ty159 hc0) (rCons (rTmp rfl) (rCons (rTmp rfl) rNil))) ⟨_, _, _, _, _, _, _, rfl, h⟩
  refine AW.skip ?_
  refine thenN ?_
  refine AW.seq ?_
  refine AW.drawnL (fun i => ([0, 0, 0, 0, 0, 0, 0, 0, 0, 2, 2, 0, 0] : List Nat).getD i 2) [] [0, 1, 2, 3, 4, 5, 6, 7, 8, 9, 10, 11, 12] Tryz.mixed h (by decide +kernel) ?_
  clear h
  intro ψ σ h
  refine Dp rfl rfl rfl rfl (V_move rfl rfl) ?_
  obtain ⟨p25_7, hc, h⟩ := h
  refine Dp rfl rfl rfl rfl (V_nil rfl (by rw [← hc]; rfl)) ?_
  refine Dp rfl rfl rfl rfl (V_fld rfl Tryz.underlying157 rfl ty155 (by decide) rfl) ?_
  obtain ⟨x27_8, hc, h⟩ := h
  refine Dp rfl rfl rfl rfl (V_ld rfl Tryz.underlying155 rfl rfl hc) ?_
  refine Dp rfl rfl rfl rfl (V_move rfl rfl) ?_
  obtain ⟨p29_9, ha, h0, h1, h⟩ := h
  refine Dp rfl rfl rfl rfl (V_ixA rfl Tryz.underlying155 ty159 (ixL rfl ha) rfl h0 h1) ?_
  obtain ⟨x30_10a, x30_10b, x30_10c, x30_10d, x30_10e, hc, h⟩ := h
  refine Dp rfl rfl rfl rfl (V_lda rfl Tryz.underlying159 rfl ty159 rfl hc) ?_
  refine Dp rfl rfl rfl rfl (V_move rfl rfl) ?_
  refine Dp rfl rfl rfl rfl (V_move rfl rfl) ?_
  refine Dg rfl rfl rfl rfl (X_call rfl Tryz.func85 rfl rfl rfl (ACalls.mono h ?_))
  rintro v σ ⟨x33_11, rfl, h⟩
  refine Dg rfl rfl rfl rfl (X_st rfl ty159 rfl rfl rfl rfl (stN_mono h fun σ h => ?_))
  refine Dp rfl rfl rfl rfl (V_asg rfl rfl) ?_
  refine Dp rfl rfl rfl rfl (V_asg rfl rfl) ?_
  refine ⟨_, FrEq.refl _, fun hdj => ?_⟩
  replace h := h hdj
  refine thenN ?_
  refine AW.ret ?_
  obtain ⟨x4_12a, x4_12b, x4_12c, x4_12d, x4_12e, hc0, h⟩ := h
  exact bRM Tryz.results89 (rCons (rAgg rfl Tryz.underlying159 rfl ty159 hc0) (rCons (rTmp rfl) (rCons (rTmp rfl) rNil))) ⟨_, _, _, _, _, _, _, rfl, h⟩

def j5_ref07_Tree_Children (B : World) (ro : AH) (Q : Sl → Int → AH → Prop) (x9_6 : Sl) (σ : AH) : Prop :=
 Q x9_6 0 σ

def j12_ref07_Tree_Children (B : World) (ro : AH) (a0 : Option Addr) (a1 : ByteArray) (x10_9 : Int) (Q : Sl → Int → AH → Prop) (Y7 : (Sl × Int) → AH → Prop) (x9_13 : Sl) (σ : AH) : Prop :=
 Y7 (x9_13, IntKind.i64.wrap (x10_9 + 1)) σ

def l7_ref07_Tree_Children (B : World) (ro : AH) (a0 : Option Addr) (a1 : ByteArray) (Q : Sl → Int → AH → Prop) : (Sl × Int) → AH → ((Sl × Int) → AH → Prop) → Prop := fun ⟨x9_8, x10_9⟩ σ Y7 =>
 ∃ p27_10 : Addr, a0 = some p27_10 ∧
 ∃ (x29_11 : Sl), acell ro σ p27_10 = some (Sl.v x29_11) ∧
 if x10_9 < (x29_11.len : Int) then
  ∃ p36_14 : Addr, a0 = some p36_14 ∧
  ∃ (x38_15 : Sl), acell ro σ p36_14 = some (Sl.v x38_15) ∧
  ∃ p40_16 : Addr, x38_15.a = some p40_16 ∧ (0 : Int) ≤ x10_9 ∧ x10_9 < (x38_15.len : Int) ∧
  ∃ (x42_17 : ByteArray), acell ro σ (p40_16.add (Int.toNat x10_9 * 5)) = some (.string x42_17) ∧
  c_ref02_Parent B ro x42_17 σ fun x43_18 x43_19 σ =>
  if (x43_19 = true) ∧ (x43_18 = a1) then
   ∃ p54_20 : Addr, a0 = some p54_20 ∧
   ∃ (x56_21 : Sl), acell ro σ p54_20 = some (Sl.v x56_21) ∧
   ∃ p58_22 : Addr, x56_21.a = some p58_22 ∧ (0 : Int) ≤ x10_9 ∧ x10_9 < (x56_21.len : Int) ∧
   ∃ (x60_23 : ByteArray), acell ro σ (p58_22.add (Int.toNat x10_9 * 5)) = some (.string x60_23) ∧
   c_ref02_Base B ro x60_23 σ fun x61_24 x61_25 σ =>
   nw ro σ (.cells #[.string x61_24] 9) fun x66_26 σ =>
   awp Tryz.prog ro (Builtin.append_ #[25, 25] 25 #[Sl.v x9_8, Sl.v (⟨some ⟨x66_26, 0, none⟩, 1, 1⟩ : Sl)]) (fun v σ => ∃ (x67_27 : Sl), v = Sl.v x67_27 ∧
    j12_ref07_Tree_Children B ro a0 a1 x10_9 Q Y7 x67_27 σ) σ
  else
  j12_ref07_Tree_Children B ro a0 a1 x10_9 Q Y7 x9_8 σ
 else
 j5_ref07_Tree_Children B ro Q x9_8 σ

def f_ref07_Tree_Children (B : World) (ro : AH) (a0 : Option Addr) (a1 : ByteArray) (σ : AH) (Q : Sl → Int → AH → Prop) : Prop :=
 c_ref07_Tree_Get B ro a0 a1 σ fun x18_1a x18_1b x18_1c x18_1d x18_1e x18_2 x18_3 σ =>
 nw ro σ (.cells #[.string ByteArray.empty, Sl.v (⟨none, 0, 0⟩ : Sl), .int .i64 0, .int .i64 0, .int .i64 0] 159) fun x6_4 σ =>
 stN ⟨x6_4, 0, none⟩ (fun σ =>
  if ¬ (x18_3 = 0) then
   Q (⟨none, 0, 0⟩ : Sl) x18_3 σ
  else
  lfpD (l7_ref07_Tree_Children B ro a0 a1 Q ) ((⟨none, 0, 0⟩ : Sl), 0) σ) [.string x18_1a, Sl.v x18_1b, .int .i64 x18_1c, .int .i64 x18_1d, .int .i64 x18_1e] 0 σ

set_option maxRecDepth 100000 in
set_option maxHeartbeats 4000000 in
theorem ref07_Tree_Children_ok {B : World} {ro : AH} {a0 : Option Addr} {a1 : ByteArray} {σ : AH} {Q : Sl → Int → AH → Prop} (h : Sep ro σ → f_ref07_Tree_Children B ro a0 a1 σ Q) : c_ref07_Tree_Children B ro a0 a1 σ Q := by
  refine ACalls.of_sep fun hsep => ?_
  replace h := h hsep
  refine ACalls.of_body (args := [.pointer a0, .string a1]) Tryz.func90 rfl (by rw [Tryz.ntmps90]; simp) ?_
  rw [Tryz.ntmps90]
  unfold f_ref07_Tree_Children at h
  refine AW.seq ?_
  refine AW.reg ?_
  refine Lp (V_asg rfl rfl) rfl rfl ?_
  refine Lp (V_asg rfl rfl) rfl rfl ?_
  refine Lnil ?_
  refine thenN ?_
  refine AW.seq ?_
  refine AW.seq ?_
  refine AW.reg ?_
  refine Lp (V_move rfl rfl) rfl rfl ?_
  refine Lp (V_move rfl rfl) rfl rfl ?_
  refine Ls rfl rfl (X_call rfl Tryz.func89 rfl rfl rfl (ACalls.mono h ?_))
  rintro v σ ⟨x18_1a, x18_1b, x18_1c, x18_1d, x18_1e, x18_2, x18_3, rfl, h⟩
  refine Lp (V_move rfl rfl) rfl rfl ?_
  refine Lp (V_ext rfl rfl rfl) rfl rfl ?_
  refine Lp (V_ext rfl rfl rfl) rfl rfl ?_
  refine Lp (V_ext rfl rfl rfl) rfl rfl ?_
  refine Ls rfl rfl (X_new (A_alloc rfl ty159) fun x6_4 g1 g2 => ?_)
  replace h := h x6_4 g1 g2
  refine Ls rfl rfl (X_st rfl ty159 rfl rfl rfl rfl (stN_mono h fun σ h => ?_))
  refine Lp (V_asg rfl rfl) rfl rfl ?_
  refine Lp (V_asg rfl rfl) rfl rfl ?_
  refine Lnil ?_
  refine thenN ?_
  refine AW.seq ?_
  refine AW.reg ?_
  refine Lp (V_move rfl rfl) rfl rfl ?_
  refine Lp (V_neq rfl rfl rfl) rfl rfl ?_
  refine Lnil ?_
  refine thenN ?_
  refine AW.iff rfl (bnot_iff decide_eq_true_iff) h (fun h => ?_) (fun h => ?_)
  · refine AW.seq ?_
    refine AW.reg ?_
    refine Lp (V_move rfl rfl) rfl rfl ?_
    refine Lp (V_asg rfl rfl) rfl rfl ?_
    refine Lp (V_asg rfl rfl) rfl rfl ?_
    refine Lnil ?_
    refine thenN ?_
    refine AW.ret ?_
    refine thenR ?_
    exact bR2 Tryz.results90 rfl rfl ⟨_, _, rfl, h⟩
  refine AW.skip ?_
  refine thenN ?_
  refine AW.seq ?_
  refine AW.reg ?_
  refine Lp (V_asg rfl rfl) rfl rfl ?_
  refine Lnil ?_
  refine thenN ?_
  refine AW.seqJ (fun fr σ => ∃ (x9_6 : Sl), FrLe [(9, Sl.v x9_6)] fr ∧ j5_ref07_Tree_Children B ro Q x9_6 σ) ?_ ?_
  · rintro fr σ ⟨x9_6, hl, h⟩
    refine AW.weaken ?_ hl (HLe.refl _)
    unfold j5_ref07_Tree_Children at h
    refine AW.seq ?_
    refine AW.reg ?_
    refine Lp (V_move rfl rfl) rfl rfl ?_
    refine Lp (V_asg rfl rfl) rfl rfl ?_
    refine Lp (V_asg rfl rfl) rfl rfl ?_
    refine Lnil ?_
    refine thenN ?_
    refine AW.ret ?_
    exact bR2 Tryz.results90 rfl rfl ⟨_, _, rfl, h⟩
  refine AW.seq ?_
  refine AW.reg ?_
  refine Lp (V_asg rfl rfl) rfl rfl ?_
  refine Lnil ?_
  refine thenN ?_
  refine AW.block ?_
  refine ARound.loop (fr' := [(0, .pointer a0), (1, .string a1), (9, Sl.v (⟨none, 0, 0⟩ : Sl)), (10, .int .i64 0)]) ?_ (FrLe.cons rfl (FrLe.cons rfl (FrLe.cons rfl (FrLe.cons rfl (FrLe.nil _)))))
  refine h (fun ⟨x9_8, x10_9⟩ σ => ARound _ _ _ _ _ _ [(0, .pointer a0), (1, .string a1), (9, Sl.v x9_8), (10, .int .i64 x10_9)] σ) ?_
  rintro ⟨x9_8, x10_9⟩ σ Y7 hY7 h
  show AW _ _ _ _ _ _ _ _
  unfold l7_ref07_Tree_Children at h
  dsimp only at h
  refine AW.seq ?_
  refine AW.seq ?_
  refine AW.reg ?_
  refine Lp (V_move rfl rfl) rfl rfl ?_
  refine Lp (V_move rfl rfl) rfl rfl ?_
  obtain ⟨p27_10, hc, h⟩ := h
  refine Lp (V_nil rfl (by rw [← hc]; rfl)) rfl rfl ?_
  refine Lp (V_fld rfl Tryz.underlying157 rfl ty155 (by decide) rfl) rfl rfl ?_
  obtain ⟨x29_11, hc, h⟩ := h
  refine Ls rfl rfl (X_ld rfl Tryz.underlying155 rfl rfl hc ?_)
  refine Lp (V_lenL rfl rfl Tryz.underlying155 rfl rfl) rfl rfl ?_
  refine Lp (V_lss rfl rfl rfl) rfl rfl ?_
  refine Lnil ?_
  refine thenN ?_
  refine AW.iff rfl decide_eq_true_iff h (fun h => ?_) (fun h => ?_)
  rotate_left
  · refine AW.exit ?_
    refine thenE ?_
    refine thenE ?_
    refine blockE ?_
    refine thenN ?_
    exact ⟨_, (FrLe.cons rfl (FrLe.nil _)), h⟩
  refine AW.skip ?_
  refine thenN ?_
  refine AW.seqJ (fun fr σ => ∃ (x9_13 : Sl), FrLe [(0, .pointer a0), (1, .string a1), (10, .int .i64 x10_9), (9, Sl.v x9_13)] fr ∧ j12_ref07_Tree_Children B ro a0 a1 x10_9 Q Y7 x9_13 σ) ?_ ?_
  · rintro fr σ ⟨x9_13, hl, h⟩
    refine AW.weaken ?_ hl (HLe.refl _)
    unfold j12_ref07_Tree_Children at h
    refine AW.reg ?_
    refine Lp (V_move rfl rfl) rfl rfl ?_
    refine Lp (V_add rfl rfl rfl) rfl rfl ?_
    refine Lp (V_asg rfl rfl) rfl rfl ?_
    refine Lnil ?_
    refine thenN ?_
    refine ARound.head (fr' := [(0, .pointer a0), (1, .string a1), (9, Sl.v x9_13), (10, .int .i64 (IntKind.i64.wrap (x10_9 + 1)))]) ?_ (FrLe.cons rfl (FrLe.cons rfl (FrLe.cons rfl (FrLe.cons rfl (FrLe.nil _)))))
    exact hY7 _ _ h
  refine AW.block ?_
  refine AW.seq ?_
  refine AW.reg ?_
  refine Lp (V_move rfl rfl) rfl rfl ?_
  obtain ⟨p36_14, hc, h⟩ := h
  refine Lp (V_nil rfl (by rw [← hc]; rfl)) rfl rfl ?_
  refine Lp (V_fld rfl Tryz.underlying157 rfl ty155 (by decide) rfl) rfl rfl ?_
  obtain ⟨x38_15, hc, h⟩ := h
  refine Ls rfl rfl (X_ld rfl Tryz.underlying155 rfl rfl hc ?_)
  refine Lp (V_move rfl rfl) rfl rfl ?_
  obtain ⟨p40_16, ha, h0, h1, h⟩ := h
  refine Lp (V_ixA rfl Tryz.underlying155 ty159 (ixL rfl ha) rfl h0 h1) rfl rfl ?_
  refine Lp (V_fld rfl Tryz.underlying159 rfl ty9 (by decide) rfl) rfl rfl ?_
  obtain ⟨x42_17, hc, h⟩ := h
  refine Ls rfl rfl (X_ld rfl Tryz.underlying9 rfl rfl hc ?_)
  refine Ls rfl rfl (X_call rfl Tryz.func19 rfl rfl rfl (ACalls.mono h ?_))
  rintro v σ ⟨x43_18, x43_19, rfl, h⟩
  refine Lp (V_move rfl rfl) rfl rfl ?_
  refine Lp (V_ext rfl rfl rfl) rfl rfl ?_
  refine Lp (V_ext rfl rfl rfl) rfl rfl ?_
  refine Lp (V_asg rfl rfl) rfl rfl ?_
  refine Lp (V_asg rfl rfl) rfl rfl ?_
  refine Lnil ?_
  refine thenN ?_
  refine AW.seq ?_
  refine AW.reg ?_
  refine Lp (V_move rfl rfl) rfl rfl ?_
  refine Lp (V_move rfl rfl) rfl rfl ?_
  refine Lsplit 4 x43_19 [(0, .pointer a0), (1, .string a1), (9, Sl.v x9_8), (10, .int .i64 x10_9), (51, .bool (x43_19 && (decide (x43_18 = a1))))] ?_ ?_ ?_
  · intro e1 hk1
    refine Lypb (V_move rfl rfl) rfl rfl rfl rfl e1 ?_
    refine Lypb (V_move rfl rfl) rfl rfl rfl rfl e1 ?_
    refine Lypb (V_eqlS rfl rfl rfl) rfl rfl rfl rfl e1 ?_
    refine Lp (V_pickT rfl (evb e1) rfl) rfl rfl ?_
    exact hk1 _ (FrLe.cons rfl (FrLe.cons rfl (FrLe.cons rfl (FrLe.cons rfl (FrLe.cons (by rw [e1]; rfl) (FrLe.nil _))))))
  · intro e1 hk1
    refine Ln rfl rfl rfl rfl (.inl (by rw [e1]; rfl)) ?_
    refine Ln rfl rfl rfl rfl (.inl (by rw [e1]; rfl)) ?_
    refine Ln rfl rfl rfl rfl (.inl (by rw [e1]; rfl)) ?_
    refine Lp (V_pickF rfl (evb e1) rfl) rfl rfl ?_
    exact hk1 _ (FrLe.cons rfl (FrLe.cons rfl (FrLe.cons rfl (FrLe.cons rfl (FrLe.cons (by rw [e1]; rfl) (FrLe.nil _))))))
  intro fr hl
  refine Lfr hl ?_
  refine Lnil ?_
  refine thenN ?_
  refine AW.iff rfl (band_iff Iff.rfl decide_eq_true_iff) h (fun h => ?_) (fun h => ?_)
  rotate_left
  · refine AW.skip ?_
    refine blockN ?_
    refine thenN ?_
    exact ⟨_, (FrLe.cons rfl (FrLe.cons rfl (FrLe.cons rfl (FrLe.cons rfl (FrLe.nil _))))), h⟩
  refine AW.seq ?_
  refine AW.reg ?_
  refine Lp (V_move rfl rfl) rfl rfl ?_
  obtain ⟨p54_20, hc, h⟩ := h
  refine Lp (V_nil rfl (by rw [← hc]; rfl)) rfl rfl ?_
  refine Lp (V_fld rfl Tryz.underlying157 rfl ty155 (by decide) rfl) rfl rfl ?_
  obtain ⟨x56_21, hc, h⟩ := h
  refine Ls rfl rfl (X_ld rfl Tryz.underlying155 rfl rfl hc ?_)
  refine Lp (V_move rfl rfl) rfl rfl ?_
  obtain ⟨p58_22, ha, h0, h1, h⟩ := h
  refine Lp (V_ixA rfl Tryz.underlying155 ty159 (ixL rfl ha) rfl h0 h1) rfl rfl ?_
  refine Lp (V_fld rfl Tryz.underlying159 rfl ty9 (by decide) rfl) rfl rfl ?_
  obtain ⟨x60_23, hc, h⟩ := h
  refine Ls rfl rfl (X_ld rfl Tryz.underlying9 rfl rfl hc ?_)
  refine Ls rfl rfl (X_call rfl Tryz.func122 rfl rfl rfl (ACalls.mono h ?_))
  rintro v σ ⟨x61_24, x61_25, rfl, h⟩
  refine Lp (V_move rfl rfl) rfl rfl ?_
  refine Lp (V_ext rfl rfl rfl) rfl rfl ?_
  refine Lp (V_ext rfl rfl rfl) rfl rfl ?_
  refine Lp (V_asg rfl rfl) rfl rfl ?_
  refine Lp (V_asg rfl rfl) rfl rfl ?_
  refine Lnil ?_
  refine thenN ?_
  refine AW.reg ?_
  refine Lp (V_move rfl rfl) rfl rfl ?_
  refine Lp (V_move rfl rfl) rfl rfl ?_
  refine Ls rfl rfl (X_new (A_bsl (vs := [(0, .string x61_24)]) (cs := #[.string x61_24]) rfl Tryz.underlying25 ty9 (by decide) rfl rfl) fun x66_26 g1 g2 => ?_)
  replace h := h x66_26 g1 g2
  refine Ls rfl rfl (X_bi (s := Builtin.append_ #[25, 25] 25 #[Sl.v x9_8, Sl.v (⟨some ⟨x66_26, 0, none⟩, 1, 1⟩ : Sl)]) rfl rfl (fun _ => rfl) (awp_mono _ h ?_))
  rintro v σ ⟨x67_27, rfl, h⟩
  refine Lp (V_asg rfl rfl) rfl rfl ?_
  refine Lnil ?_
  refine blockN ?_
  refine thenN ?_
  exact ⟨_, (FrLe.cons rfl (FrLe.cons rfl (FrLe.cons rfl (FrLe.cons rfl (FrLe.nil _))))), h⟩

def j3_ref07_Tree_Paths (B : World) (ro : AH) (Q : Sl → Int → AH → Prop) (x8_4 : Sl) (σ : AH) : Prop :=
 Q x8_4 0 σ

def j10_ref07_Tree_Paths (B : World) (ro : AH) (a0 : Option Addr) (a1 : ByteArray) (x9_7 : Int) (Q : Sl → Int → AH → Prop) (Y5 : (Sl × Int) → AH → Prop) (x8_11 : Sl) (σ : AH) : Prop :=
 Y5 (x8_11, IntKind.i64.wrap (x9_7 + 1)) σ

def l5_ref07_Tree_Paths (B : World) (ro : AH) (a0 : Option Addr) (a1 : ByteArray) (Q : Sl → Int → AH → Prop) : (Sl × Int) → AH → ((Sl × Int) → AH → Prop) → Prop := fun ⟨x8_6, x9_7⟩ σ Y5 =>
 ∃ p21_8 : Addr, a0 = some p21_8 ∧
 ∃ (x23_9 : Sl), acell ro σ p21_8 = some (Sl.v x23_9) ∧
 if x9_7 < (x23_9.len : Int) then
  ∃ p31_12 : Addr, a0 = some p31_12 ∧
  ∃ (x33_13 : Sl), acell ro σ p31_12 = some (Sl.v x33_13) ∧
  ∃ p35_14 : Addr, x33_13.a = some p35_14 ∧ (0 : Int) ≤ x9_7 ∧ x9_7 < (x33_13.len : Int) ∧
  ∃ (x37_15 : ByteArray), acell ro σ (p35_14.add (Int.toNat x9_7 * 5)) = some (.string x37_15) ∧
  c_ref02_Under B ro a1 x37_15 σ fun x38_16 x38_17 σ =>
  if x38_16 = true then
   ∃ p44_18 : Addr, a0 = some p44_18 ∧
   ∃ (x46_19 : Sl), acell ro σ p44_18 = some (Sl.v x46_19) ∧
   ∃ p48_20 : Addr, x46_19.a = some p48_20 ∧ (0 : Int) ≤ x9_7 ∧ x9_7 < (x46_19.len : Int) ∧
   ∃ (x50_21 : ByteArray), acell ro σ (p48_20.add (Int.toNat x9_7 * 5)) = some (.string x50_21) ∧
   nw ro σ (.cells #[.string x50_21] 9) fun x51_22 σ =>
   awp Tryz.prog ro (Builtin.append_ #[25, 25] 25 #[Sl.v x8_6, Sl.v (⟨some ⟨x51_22, 0, none⟩, 1, 1⟩ : Sl)]) (fun v σ => ∃ (x52_23 : Sl), v = Sl.v x52_23 ∧
    j10_ref07_Tree_Paths B ro a0 a1 x9_7 Q Y5 x52_23 σ) σ
  else
  j10_ref07_Tree_Paths B ro a0 a1 x9_7 Q Y5 x8_6 σ
 else
 j3_ref07_Tree_Paths B ro Q x8_6 σ

def f_ref07_Tree_Paths (B : World) (ro : AH) (a0 : Option Addr) (a1 : ByteArray) (σ : AH) (Q : Sl → Int → AH → Prop) : Prop :=
 c_ref02_Parts B ro a1 σ fun x14_1 x14_2 σ =>
 if ¬ (x14_2 = true) then
  Q (⟨none, 0, 0⟩ : Sl) 20 σ
 else
 lfpD (l5_ref07_Tree_Paths B ro a0 a1 Q ) ((⟨none, 0, 0⟩ : Sl), 0) σ

set_option maxRecDepth 100000 in
set_option maxHeartbeats 4000000 in
theorem ref07_Tree_Paths_ok {B : World} {ro : AH} {a0 : Option Addr} {a1 : ByteArray} {σ : AH} {Q : Sl → Int → AH → Prop} (h : Sep ro σ → f_ref07_Tree_Paths B ro a0 a1 σ Q) : c_ref07_Tree_Paths B ro a0 a1 σ Q := by
  refine ACalls.of_sep fun hsep => ?_
  replace h := h hsep
  refine ACalls.of_body (args := [.pointer a0, .string a1]) Tryz.func91 rfl (by rw [Tryz.ntmps91]; simp) ?_
  rw [Tryz.ntmps91]
  unfold f_ref07_Tree_Paths at h
  refine AW.seq ?_
  refine AW.reg ?_
  refine Lp (V_asg rfl rfl) rfl rfl ?_
  refine Lp (V_asg rfl rfl) rfl rfl ?_
  refine Lnil ?_
  refine thenN ?_
  refine AW.seq ?_
  refine AW.seq ?_
  refine AW.reg ?_
  refine Lp (V_move rfl rfl) rfl rfl ?_
  refine Ls rfl rfl (X_call rfl Tryz.func64 rfl rfl rfl (ACalls.mono h ?_))
  rintro v σ ⟨x14_1, x14_2, rfl, h⟩
  refine Lp (V_move rfl rfl) rfl rfl ?_
  refine Lp (V_ext rfl rfl rfl) rfl rfl ?_
  refine Lp (V_ext rfl rfl rfl) rfl rfl ?_
  refine Lp (V_asg rfl rfl) rfl rfl ?_
  refine Lp (V_asg rfl rfl) rfl rfl ?_
  refine Lnil ?_
  refine thenN ?_
  refine AW.seq ?_
  refine AW.reg ?_
  refine Lp (V_move rfl rfl) rfl rfl ?_
  refine Lp (V_not rfl rfl) rfl rfl ?_
  refine Lnil ?_
  refine thenN ?_
  refine AW.iff rfl (bnot_iff Iff.rfl) h (fun h => ?_) (fun h => ?_)
  · refine AW.seq ?_
    refine AW.reg ?_
    refine Lp (V_asg rfl rfl) rfl rfl ?_
    refine Lp (V_asg rfl rfl) rfl rfl ?_
    refine Lnil ?_
    refine thenN ?_
    refine AW.ret ?_
    refine thenR ?_
    exact bR2 Tryz.results91 rfl rfl ⟨_, _, rfl, h⟩
  refine AW.skip ?_
  refine thenN ?_
  refine AW.seq ?_
  refine AW.reg ?_
  refine Lp (V_asg rfl rfl) rfl rfl ?_
  refine Lnil ?_
  refine thenN ?_
  refine AW.seqJ (fun fr σ => ∃ (x8_4 : Sl), FrLe [(8, Sl.v x8_4)] fr ∧ j3_ref07_Tree_Paths B ro Q x8_4 σ) ?_ ?_
  · rintro fr σ ⟨x8_4, hl, h⟩
    refine AW.weaken ?_ hl (HLe.refl _)
    unfold j3_ref07_Tree_Paths at h
    refine AW.seq ?_
    refine AW.reg ?_
    refine Lp (V_move rfl rfl) rfl rfl ?_
    refine Lp (V_asg rfl rfl) rfl rfl ?_
    refine Lp (V_asg rfl rfl) rfl rfl ?_
    refine Lnil ?_
    refine thenN ?_
    refine AW.ret ?_
    exact bR2 Tryz.results91 rfl rfl ⟨_, _, rfl, h⟩
  refine AW.seq ?_
  refine AW.reg ?_
  refine Lp (V_asg rfl rfl) rfl rfl ?_
  refine Lnil ?_
  refine thenN ?_
  refine AW.block ?_
  refine ARound.loop (fr' := [(0, .pointer a0), (1, .string a1), (8, Sl.v (⟨none, 0, 0⟩ : Sl)), (9, .int .i64 0)]) ?_ (FrLe.cons rfl (FrLe.cons rfl (FrLe.cons rfl (FrLe.cons rfl (FrLe.nil _)))))
  refine h (fun ⟨x8_6, x9_7⟩ σ => ARound _ _ _ _ _ _ [(0, .pointer a0), (1, .string a1), (8, Sl.v x8_6), (9, .int .i64 x9_7)] σ) ?_
  rintro ⟨x8_6, x9_7⟩ σ Y5 hY5 h
  show AW _ _ _ _ _ _ _ _
  unfold l5_ref07_Tree_Paths at h
  dsimp only at h
  refine AW.seq ?_
  refine AW.seq ?_
  refine AW.reg ?_
  refine Lp (V_move rfl rfl) rfl rfl ?_
  refine Lp (V_move rfl rfl) rfl rfl ?_
  obtain ⟨p21_8, hc, h⟩ := h
  refine Lp (V_nil rfl (by rw [← hc]; rfl)) rfl rfl ?_
  refine Lp (V_fld rfl Tryz.underlying157 rfl ty155 (by decide) rfl) rfl rfl ?_
  obtain ⟨x23_9, hc, h⟩ := h
  refine Ls rfl rfl (X_ld rfl Tryz.underlying155 rfl rfl hc ?_)
  refine Lp (V_lenL rfl rfl Tryz.underlying155 rfl rfl) rfl rfl ?_
  refine Lp (V_lss rfl rfl rfl) rfl rfl ?_
  refine Lnil ?_
  refine thenN ?_
  refine AW.iff rfl decide_eq_true_iff h (fun h => ?_) (fun h => ?_)
  rotate_left
  · refine AW.exit ?_
    refine thenE ?_
    refine thenE ?_
    refine blockE ?_
    refine thenN ?_
    exact ⟨_, (FrLe.cons rfl (FrLe.nil _)), h⟩
  refine AW.skip ?_
  refine thenN ?_
  refine AW.seqJ (fun fr σ => ∃ (x8_11 : Sl), FrLe [(0, .pointer a0), (1, .string a1), (9, .int .i64 x9_7), (8, Sl.v x8_11)] fr ∧ j10_ref07_Tree_Paths B ro a0 a1 x9_7 Q Y5 x8_11 σ) ?_ ?_
  · rintro fr σ ⟨x8_11, hl, h⟩
    refine AW.weaken ?_ hl (HLe.refl _)
    unfold j10_ref07_Tree_Paths at h
    refine AW.reg ?_
    refine Lp (V_move rfl rfl) rfl rfl ?_
    refine Lp (V_add rfl rfl rfl) rfl rfl ?_
    refine Lp (V_asg rfl rfl) rfl rfl ?_
    refine Lnil ?_
    refine thenN ?_
    refine ARound.head (fr' := [(0, .pointer a0), (1, .string a1), (8, Sl.v x8_11), (9, .int .i64 (IntKind.i64.wrap (x9_7 + 1)))]) ?_ (FrLe.cons rfl (FrLe.cons rfl (FrLe.cons rfl (FrLe.cons rfl (FrLe.nil _)))))
    exact hY5 _ _ h
  refine AW.block ?_
  refine AW.seq ?_
  refine AW.reg ?_
  refine Lp (V_move rfl rfl) rfl rfl ?_
  refine Lp (V_move rfl rfl) rfl rfl ?_
  obtain ⟨p31_12, hc, h⟩ := h
  refine Lp (V_nil rfl (by rw [← hc]; rfl)) rfl rfl ?_
  refine Lp (V_fld rfl Tryz.underlying157 rfl ty155 (by decide) rfl) rfl rfl ?_
  obtain ⟨x33_13, hc, h⟩ := h
  refine Ls rfl rfl (X_ld rfl Tryz.underlying155 rfl rfl hc ?_)
  refine Lp (V_move rfl rfl) rfl rfl ?_
  obtain ⟨p35_14, ha, h0, h1, h⟩ := h
  refine Lp (V_ixA rfl Tryz.underlying155 ty159 (ixL rfl ha) rfl h0 h1) rfl rfl ?_
  refine Lp (V_fld rfl Tryz.underlying159 rfl ty9 (by decide) rfl) rfl rfl ?_
  obtain ⟨x37_15, hc, h⟩ := h
  refine Ls rfl rfl (X_ld rfl Tryz.underlying9 rfl rfl hc ?_)
  refine Ls rfl rfl (X_call rfl Tryz.func123 rfl rfl rfl (ACalls.mono h ?_))
  rintro v σ ⟨x38_16, x38_17, rfl, h⟩
  refine Lp (V_move rfl rfl) rfl rfl ?_
  refine Lp (V_ext rfl rfl rfl) rfl rfl ?_
  refine Lp (V_ext rfl rfl rfl) rfl rfl ?_
  refine Lp (V_asg rfl rfl) rfl rfl ?_
  refine Lp (V_asg rfl rfl) rfl rfl ?_
  refine Lnil ?_
  refine thenN ?_
  refine AW.seq ?_
  refine AW.reg ?_
  refine Lp (V_move rfl rfl) rfl rfl ?_
  refine Lnil ?_
  refine thenN ?_
  refine AW.iff rfl Iff.rfl h (fun h => ?_) (fun h => ?_)
  rotate_left
  · refine AW.skip ?_
    refine blockN ?_
    refine thenN ?_
    exact ⟨_, (FrLe.cons rfl (FrLe.cons rfl (FrLe.cons rfl (FrLe.cons rfl (FrLe.nil _))))), h⟩
  refine AW.reg ?_
  refine Lp (V_move rfl rfl) rfl rfl ?_
  refine Lp (V_move rfl rfl) rfl rfl ?_
  obtain ⟨p44_18, hc, h⟩ := h
  refine Lp (V_nil rfl (by rw [← hc]; rfl)) rfl rfl ?_
  refine Lp (V_fld rfl Tryz.underlying157 rfl ty155 (by decide) rfl) rfl rfl ?_
  obtain ⟨x46_19, hc, h⟩ := h
  refine Ls rfl rfl (X_ld rfl Tryz.underlying155 rfl rfl hc ?_)
  refine Lp (V_move rfl rfl) rfl rfl ?_
  obtain ⟨p48_20, ha, h0, h1, h⟩ := h
  refine Lp (V_ixA rfl Tryz.underlying155 ty159 (ixL rfl ha) rfl h0 h1) rfl rfl ?_
  refine Lp (V_fld rfl Tryz.underlying159 rfl ty9 (by decide) rfl) rfl rfl ?_
  obtain ⟨x50_21, hc, h⟩ := h
  refine Ls rfl rfl (X_ld rfl Tryz.underlying9 rfl rfl hc ?_)
  refine Ls rfl rfl (X_new (A_bsl (vs := [(0, .string x50_21)]) (cs := #[.string x50_21]) rfl Tryz.underlying25 ty9 (by decide) rfl rfl) fun x51_22 g1 g2 => ?_)
  replace h := h x51_22 g1 g2
  refine Ls rfl rfl (X_bi (s := Builtin.append_ #[25, 25] 25 #[Sl.v x8_6, Sl.v (⟨some ⟨x51_22, 0, none⟩, 1, 1⟩ : Sl)]) rfl rfl (fun _ => rfl) (awp_mono _ h ?_))
  rintro v σ ⟨x52_23, rfl, h⟩
  refine Lp (V_asg rfl rfl) rfl rfl ?_
  refine Lnil ?_
  refine blockN ?_
  refine thenN ?_
  exact ⟨_, (FrLe.cons rfl (FrLe.cons rfl (FrLe.cons rfl (FrLe.cons rfl (FrLe.nil _))))), h⟩

end Go.Proofs.YthfpmipeejjogaaGreatDoor.G
