/- GL7, ZtL, ZtV, ZtS, ZtX -/
import Derived.Test.YthfpmipeejjogaaGreatDoorXJ
/- Functions as predicate transformers, and the proofs that the code does what they tell: printed by wip/tools/gen.py. -/
namespace Go.Proofs.YthfpmipeejjogaaGreatDoor.G
open Go Go.Proofs.YthfpmipeejjogaaGreatDoor.SL
set_option linter.unusedVariables false
set_option linter.unusedSimpArgs false

def j3_law07_ZtreePlays (B : World) (ro : AH) (Q : Bool → AH → Prop) (σ : AH) : Prop :=
 c_law07_awake B ro σ fun x159_4 σ =>
 Q x159_4 σ

def j8_law07_ZtreePlays (B : World) (ro : AH) (a0 : Sl) (a1 : Sl) (a2 : Sl) (x24_2 : Option Addr) (x29_7 : Int) (Q : Bool → AH → Prop) (Y5 : (Option Addr × Int) → AH → Prop) (x7_9 : Option Addr) (σ : AH) : Prop :=
 Y5 (x7_9, IntKind.i64.wrap (x29_7 + 1)) σ

def j17_law07_ZtreePlays (B : World) (ro : AH) (a0 : Sl) (a1 : Sl) (a2 : Sl) (x7_16 : Option Addr) (x10_12 : Nat) (x24_2 : Option Addr) (x29_7 : Int) (Q : Bool → AH → Prop) (Y5 : (Option Addr × Int) → AH → Prop) (σ : AH) : Prop :=
 ∃ (x151_18 : ByteArray), acell ro σ ((⟨x10_12, 0, none⟩ : Addr).add 2) = some (.string x151_18) ∧
 nw ro σ (.cells #[.string (⟨#[47]⟩ : ByteArray), .string x151_18] 9) fun x152_19 σ =>
 awp Tryz.prog ro (Builtin.append_ #[25, 25] 25 #[Sl.v (⟨some ⟨x152_19, 0, none⟩, 2, 2⟩ : Sl), Sl.v a1]) (fun v σ => ∃ (x154_20 : Sl), v = Sl.v x154_20 ∧
  c_law07_alike B ro x7_16 x24_2 x154_20 a2 σ fun x156_21 σ =>
  if ¬ (x156_21 = true) then
   Q false σ
  else
  j8_law07_ZtreePlays B ro a0 a1 a2 x24_2 x29_7 Q Y5 x7_16 σ) σ

def l22_law07_ZtreePlays (B : World) (ro : AH) (a0 : Sl) (a1 : Sl) (a2 : Sl) (x7_16 : Option Addr) (x10_12 : Nat) (x24_2 : Option Addr) (x29_7 : Int) (x35_14 : Sl) (Q : Bool → AH → Prop) (Y5 : (Option Addr × Int) → AH → Prop) : (Int) → AH → ((Int) → AH → Prop) → Prop := fun x136_23 σ Y22 =>
 if x136_23 < (x35_14.len : Int) then
  ∃ p143_24 : Addr, x35_14.a = some p143_24 ∧ (0 : Int) ≤ x136_23 ∧ x136_23 < (x35_14.len : Int) ∧
  ∃ (x144_25 : Int), acell ro σ (p143_24.add (Int.toNat x136_23 * 1)) = some (.int .u8 x144_25) ∧
  ∃ p146_26 : Addr, x35_14.a = some p146_26 ∧ (0 : Int) ≤ x136_23 ∧ x136_23 < (x35_14.len : Int) ∧
  stN (p146_26.add (Int.toNat x136_23 * 1)) (fun σ =>
   Y22 (IntKind.i64.wrap (x136_23 + 1)) σ) [.int .u8 (bitXor .u8 (if IntKind.u8.signed then -1 else IntKind.u8.max) x144_25)] 0 σ
 else
 j17_law07_ZtreePlays B ro a0 a1 a2 x7_16 x10_12 x24_2 x29_7 Q Y5 σ

def j15_law07_ZtreePlays (B : World) (ro : AH) (a0 : Sl) (a1 : Sl) (a2 : Sl) (x10_12 : Nat) (x24_2 : Option Addr) (x29_7 : Int) (x35_14 : Sl) (Q : Bool → AH → Prop) (Y5 : (Option Addr × Int) → AH → Prop) (x7_16 : Option Addr) (σ : AH) : Prop :=
 lfpD (l22_law07_ZtreePlays B ro a0 a1 a2 x7_16 x10_12 x24_2 x29_7 x35_14 Q Y5 ) (0) σ

def l5_law07_ZtreePlays (B : World) (ro : AH) (a0 : Sl) (a1 : Sl) (a2 : Sl) (x24_2 : Option Addr) (Q : Bool → AH → Prop) : (Option Addr × Int) → AH → ((Option Addr × Int) → AH → Prop) → Prop := fun ⟨x7_6, x29_7⟩ σ Y5 =>
 if x29_7 < (a0.len : Int) then
  ∃ p31_10 : Addr, a0.a = some p31_10 ∧ (0 : Int) ≤ x29_7 ∧ x29_7 < (a0.len : Int) ∧
  ∃ (x32_11a : Int) (x32_11b : Int) (x32_11c : ByteArray) (x32_11d : Sl) (x32_11e : Bool), cellsAt ro σ (p31_10.add (Int.toNat x29_7 * 5)) 0 [.int .i64 x32_11a, .int .i64 x32_11b, .string x32_11c, Sl.v x32_11d, .bool x32_11e] ∧
  nw ro σ (.cells #[.int .i64 0, .int .i64 0, .string ByteArray.empty, Sl.v (⟨none, 0, 0⟩ : Sl), .bool false] 40) fun x10_12 σ =>
  stN ⟨x10_12, 0, none⟩ (fun σ =>
   ∃ (x34_13 : Sl), acell ro σ ((⟨x10_12, 0, none⟩ : Addr).add 3) = some (Sl.v x34_13) ∧
   c_ref01_Copy B ro x34_13 σ fun x35_14 σ =>
   ∃ (x37_27 : Int), acell ro σ ⟨x10_12, 0, none⟩ = some (.int .i64 x37_27) ∧
   if x37_27 = 1 then
    ∃ (x43_28 : ByteArray), acell ro σ ((⟨x10_12, 0, none⟩ : Addr).add 2) = some (.string x43_28) ∧
    ∃ (x46_29 : Int), acell ro σ ((⟨x10_12, 0, none⟩ : Addr).add 1) = some (.int .i64 x46_29) ∧
    ∃ (x48_30 : Bool), acell ro σ ((⟨x10_12, 0, none⟩ : Addr).add 4) = some (.bool x48_30) ∧
    c_ztree_Tree_Create B ro x7_6 x43_28 x35_14 x46_29 x48_30 σ fun x49_31 x49_32 σ =>
    ∃ (x55_33 : ByteArray), acell ro σ ((⟨x10_12, 0, none⟩ : Addr).add 2) = some (.string x55_33) ∧
    ∃ (x57_34 : Sl), acell ro σ ((⟨x10_12, 0, none⟩ : Addr).add 3) = some (Sl.v x57_34) ∧
    ∃ (x59_35 : Int), acell ro σ ((⟨x10_12, 0, none⟩ : Addr).add 1) = some (.int .i64 x59_35) ∧
    ∃ (x61_36 : Bool), acell ro σ ((⟨x10_12, 0, none⟩ : Addr).add 4) = some (.bool x61_36) ∧
    c_ref07_Tree_Create B ro x24_2 x55_33 x57_34 x59_35 x61_36 σ fun x62_37 x62_38 σ =>
    if (¬ (x49_31 = x62_37)) ∨ (¬ (x49_32 = x62_38)) then
     Q false σ
    else
    j15_law07_ZtreePlays B ro a0 a1 a2 x10_12 x24_2 x29_7 x35_14 Q Y5 x7_6 σ
   else
   if x37_27 = 2 then
    lent σ fun ψ σ =>
     ∃ (x83_39 : ByteArray), acell (join ro ψ) (fun _ => none) ((⟨x10_12, 0, none⟩ : Addr).add 2) = some (.string x83_39) ∧
     ∃ (x85_40 : Int), acell (join ro ψ) (fun _ => none) ((⟨x10_12, 0, none⟩ : Addr).add 1) = some (.int .i64 x85_40) ∧
     ∃ (x77_41 : ByteArray), acell (join ro ψ) σ ((⟨x10_12, 0, none⟩ : Addr).add 2) = some (.string x77_41) ∧
     ∃ (x79_42 : Int), acell (join ro ψ) σ ((⟨x10_12, 0, none⟩ : Addr).add 1) = some (.int .i64 x79_42) ∧
     c_ztree_Tree_Delete B (join ro ψ) x7_6 x77_41 x79_42 σ fun x80_43 σ =>
     c_ref07_Tree_Delete B (join ro ψ) x24_2 x83_39 x85_40 σ fun x86_44 σ =>
     (Disj ψ σ → (fun σ => 
      if ¬ (x80_43 = x86_44) then
       Q false σ
      else
      j15_law07_ZtreePlays B ro a0 a1 a2 x10_12 x24_2 x29_7 x35_14 Q Y5 x7_6 σ) (join ψ σ))
   else
   if x37_27 = 3 then
    ∃ (x93_45 : ByteArray), acell ro σ ((⟨x10_12, 0, none⟩ : Addr).add 2) = some (.string x93_45) ∧
    ∃ (x96_46 : Int), acell ro σ ((⟨x10_12, 0, none⟩ : Addr).add 1) = some (.int .i64 x96_46) ∧
    c_ztree_Tree_Set B ro x7_6 x93_45 x35_14 x96_46 σ fun x97_47 x97_48 σ =>
    ∃ (x103_49 : ByteArray), acell ro σ ((⟨x10_12, 0, none⟩ : Addr).add 2) = some (.string x103_49) ∧
    ∃ (x105_50 : Sl), acell ro σ ((⟨x10_12, 0, none⟩ : Addr).add 3) = some (Sl.v x105_50) ∧
    ∃ (x107_51 : Int), acell ro σ ((⟨x10_12, 0, none⟩ : Addr).add 1) = some (.int .i64 x107_51) ∧
    c_ref07_Tree_Set B ro x24_2 x103_49 x105_50 x107_51 σ fun x108_52 x108_53 σ =>
    if (¬ (x97_47 = x108_52)) ∨ (¬ (x97_48 = x108_53)) then
     Q false σ
    else
    j15_law07_ZtreePlays B ro a0 a1 a2 x10_12 x24_2 x29_7 x35_14 Q Y5 x7_6 σ
   else
   if x37_27 = 4 then
    c_ztree_Tree_Encode B ro x7_6 σ fun x123_54 σ =>
    c_ztree_Decode B ro x123_54 σ fun x124_55 x124_56 σ =>
    if (x124_55 = none) ∨ (¬ (x124_56 = 0)) then
     Q false σ
    else
    j15_law07_ZtreePlays B ro a0 a1 a2 x10_12 x24_2 x29_7 x35_14 Q Y5 x124_55 σ
   else
   j15_law07_ZtreePlays B ro a0 a1 a2 x10_12 x24_2 x29_7 x35_14 Q Y5 x7_6 σ) [.int .i64 x32_11a, .int .i64 x32_11b, .string x32_11c, Sl.v x32_11d, .bool x32_11e] 0 σ
 else
 j3_law07_ZtreePlays B ro Q σ

def f_law07_ZtreePlays (B : World) (ro : AH) (a0 : Sl) (a1 : Sl) (a2 : Sl) (σ : AH) (Q : Bool → AH → Prop) : Prop :=
 c_ztree_New B ro σ fun x23_1 σ =>
 c_ref07_New B ro σ fun x24_2 σ =>
 if x23_1 = none then
  Q false σ
 else
 lfpD (l5_law07_ZtreePlays B ro a0 a1 a2 x24_2 Q ) (x23_1, 0) σ

set_option maxRecDepth 100000 in
set_option maxHeartbeats 4000000 in
theorem law07_ZtreePlays_ok {B : World} {ro : AH} {a0 : Sl} {a1 : Sl} {a2 : Sl} {σ : AH} {Q : Bool → AH → Prop} (h : Sep ro σ → f_law07_ZtreePlays B ro a0 a1 a2 σ Q) : c_law07_ZtreePlays B ro a0 a1 a2 σ Q := by
  refine ACalls.of_sep fun hsep => ?_
  replace h := h hsep
  refine ACalls.of_body (args := [Sl.v a0, Sl.v a1, Sl.v a2]) Tryz.func7 rfl (by rw [Tryz.ntmps7]; simp) ?_
  rw [Tryz.ntmps7]
  unfold f_law07_ZtreePlays at h
  refine AW.seq ?_
  refine AW.reg ?_
  refine Lp (V_asg rfl rfl) rfl rfl ?_
  refine Lnil ?_
  refine thenN ?_
  refine AW.seq ?_
  refine AW.reg ?_
  refine Ls rfl rfl (X_call rfl Tryz.func30 rfl rfl rfl (ACalls.mono h ?_))
  rintro v σ ⟨x23_1, rfl, h⟩
  refine Lp (V_asg rfl rfl) rfl rfl ?_
  refine Lnil ?_
  refine thenN ?_
  refine AW.seq ?_
  refine AW.reg ?_
  refine Ls rfl rfl (X_call rfl Tryz.func31 rfl rfl rfl (ACalls.mono h ?_))
  rintro v σ ⟨x24_2, rfl, h⟩
  refine Lp (V_asg rfl rfl) rfl rfl ?_
  refine Lnil ?_
  refine thenN ?_
  refine AW.seq ?_
  refine AW.seq ?_
  refine AW.reg ?_
  refine Lp (V_move rfl rfl) rfl rfl ?_
  refine Lp (V_eqP rfl Tryz.underlying23 rfl rfl) rfl rfl ?_
  refine Lnil ?_
  refine thenN ?_
  refine AW.iff rfl isNone_iff h (fun h => ?_) (fun h => ?_)
  · refine AW.seq ?_
    refine AW.reg ?_
    refine Lp (V_asg rfl rfl) rfl rfl ?_
    refine Lnil ?_
    refine thenN ?_
    refine AW.ret ?_
    refine thenR ?_
    exact bR1 Tryz.results7 rfl ⟨_, rfl, h⟩
  refine AW.skip ?_
  refine thenN ?_
  refine AW.seqJ (fun fr σ => FrLe [] fr ∧ j3_law07_ZtreePlays B ro Q σ) ?_ ?_
  · rintro fr σ ⟨hl, h⟩
    refine AW.weaken ?_ hl (HLe.refl _)
    unfold j3_law07_ZtreePlays at h
    refine AW.seq ?_
    refine AW.reg ?_
    refine Ls rfl rfl (X_call rfl Tryz.func20 rfl rfl rfl (ACalls.mono h ?_))
    rintro v σ ⟨x159_4, rfl, h⟩
    refine Lp (V_asg rfl rfl) rfl rfl ?_
    refine Lnil ?_
    refine thenN ?_
    refine AW.ret ?_
    exact bR1 Tryz.results7 rfl ⟨_, rfl, h⟩
  refine AW.seq ?_
  refine AW.reg ?_
  refine Lp (V_move rfl rfl) rfl rfl ?_
  refine Lp (V_lenL rfl rfl Tryz.underlying22 rfl rfl) rfl rfl ?_
  refine Lp (V_move rfl rfl) rfl rfl ?_
  refine Lnil ?_
  refine thenN ?_
  refine AW.block ?_
  refine ARound.loop (fr' := [(1, Sl.v a1), (2, Sl.v a2), (8, .pointer x24_2), (27, Sl.v a0), (28, .int .i64 (a0.len : Int)), (7, .pointer x23_1), (29, .int .i64 0)]) ?_ (FrLe.cons rfl (FrLe.cons rfl (FrLe.cons rfl (FrLe.cons rfl (FrLe.cons rfl (FrLe.cons rfl (FrLe.cons rfl (FrLe.nil _))))))))
  refine h (fun ⟨x7_6, x29_7⟩ σ => ARound _ _ _ _ _ _ [(1, Sl.v a1), (2, Sl.v a2), (8, .pointer x24_2), (27, Sl.v a0), (28, .int .i64 (a0.len : Int)), (7, .pointer x7_6), (29, .int .i64 x29_7)] σ) ?_
  rintro ⟨x7_6, x29_7⟩ σ Y5 hY5 h
  show AW _ _ _ _ _ _ _ _
  unfold l5_law07_ZtreePlays at h
  dsimp only at h
  refine AW.seq ?_
  refine AW.reg ?_
  refine Lp (V_lss rfl rfl rfl) rfl rfl ?_
  refine Lnil ?_
  refine thenN ?_
  refine AW.seq ?_
  refine AW.iff rfl decide_eq_true_iff h (fun h => ?_) (fun h => ?_)
  rotate_left
  · refine AW.exit ?_
    refine thenE ?_
    refine thenE ?_
    refine blockE ?_
    refine thenN ?_
    exact ⟨(FrLe.nil _), h⟩
  refine AW.skip ?_
  refine thenN ?_
  refine AW.seqJ (fun fr σ => ∃ (x7_9 : Option Addr), FrLe [(1, Sl.v a1), (2, Sl.v a2), (8, .pointer x24_2), (27, Sl.v a0), (28, .int .i64 (a0.len : Int)), (29, .int .i64 x29_7), (7, .pointer x7_9)] fr ∧ j8_law07_ZtreePlays B ro a0 a1 a2 x24_2 x29_7 Q Y5 x7_9 σ) ?_ ?_
  · rintro fr σ ⟨x7_9, hl, h⟩
    refine AW.weaken ?_ hl (HLe.refl _)
    unfold j8_law07_ZtreePlays at h
    refine AW.reg ?_
    refine Lp (V_add rfl rfl rfl) rfl rfl ?_
    refine Lp (V_move rfl rfl) rfl rfl ?_
    refine Lnil ?_
    refine thenN ?_
    refine ARound.head (fr' := [(1, Sl.v a1), (2, Sl.v a2), (8, .pointer x24_2), (27, Sl.v a0), (28, .int .i64 (a0.len : Int)), (7, .pointer x7_9), (29, .int .i64 (IntKind.i64.wrap (x29_7 + 1)))]) ?_ (FrLe.cons rfl (FrLe.cons rfl (FrLe.cons rfl (FrLe.cons rfl (FrLe.cons rfl (FrLe.cons rfl (FrLe.cons rfl (FrLe.nil _))))))))
    exact hY5 _ _ h
  refine AW.block ?_
  refine AW.seq ?_
  refine AW.reg ?_
  obtain ⟨p31_10, ha, h0, h1, h⟩ := h
  refine Lp (V_ixA rfl Tryz.underlying22 ty40 (ixL rfl ha) rfl h0 h1) rfl rfl ?_
  obtain ⟨x32_11a, x32_11b, x32_11c, x32_11d, x32_11e, hc, h⟩ := h
  refine Ls rfl rfl (X_lda rfl Tryz.underlying40 rfl ty40 rfl hc ?_)
  refine Ls rfl rfl (X_new (A_alloc rfl ty40) fun x10_12 g1 g2 => ?_)
  replace h := h x10_12 g1 g2
  refine Ls rfl rfl (X_st rfl ty40 rfl rfl rfl rfl (stN_mono h fun σ h => ?_))
  refine Lnil ?_
  refine thenN ?_
  refine AW.seq ?_
  refine AW.reg ?_
  refine Lp (V_fld rfl Tryz.underlying40 rfl ty30 (by decide) rfl) rfl rfl ?_
  obtain ⟨x34_13, hc, h⟩ := h
  refine Ls rfl rfl (X_ld rfl Tryz.underlying30 rfl rfl hc ?_)
  refine Ls rfl rfl (X_call rfl Tryz.func23 rfl rfl rfl (ACalls.mono h ?_))
  rintro v σ ⟨x35_14, rfl, h⟩
  refine Lp (V_asg rfl rfl) rfl rfl ?_
  refine Lnil ?_
  refine thenN ?_
  refine AW.seqJ (fun fr σ => ∃ (x7_16 : Option Addr), FrLe [(1, Sl.v a1), (2, Sl.v a2), (8, .pointer x24_2), (10, .pointer (some ⟨x10_12, 0, none⟩)), (11, Sl.v x35_14), (27, Sl.v a0), (28, .int .i64 (a0.len : Int)), (29, .int .i64 x29_7), (7, .pointer x7_16)] fr ∧ j15_law07_ZtreePlays B ro a0 a1 a2 x10_12 x24_2 x29_7 x35_14 Q Y5 x7_16 σ) ?_ ?_
  · rintro fr σ ⟨x7_16, hl, h⟩
    refine AW.weaken ?_ hl (HLe.refl _)
    unfold j15_law07_ZtreePlays at h
    refine AW.seqJ (fun fr σ => FrLe [(1, Sl.v a1), (2, Sl.v a2), (7, .pointer x7_16), (8, .pointer x24_2), (10, .pointer (some ⟨x10_12, 0, none⟩)), (27, Sl.v a0), (28, .int .i64 (a0.len : Int)), (29, .int .i64 x29_7)] fr ∧ j17_law07_ZtreePlays B ro a0 a1 a2 x7_16 x10_12 x24_2 x29_7 Q Y5 σ) ?_ ?_
    · rintro fr σ ⟨hl, h⟩
      refine AW.weaken ?_ hl (HLe.refl _)
      unfold j17_law07_ZtreePlays at h
      refine AW.seq ?_
      refine AW.reg ?_
      refine Lp (V_move rfl rfl) rfl rfl ?_
      refine Lp (V_move rfl rfl) rfl rfl ?_
      refine Lp (V_fld rfl Tryz.underlying40 rfl ty9 (by decide) rfl) rfl rfl ?_
      obtain ⟨x151_18, hc, h⟩ := h
      refine Ls rfl rfl (X_ld rfl Tryz.underlying9 rfl rfl hc ?_)
      refine Ls rfl rfl (X_new (A_bsl (vs := [(0, .string (⟨#[47]⟩ : ByteArray)), (1, .string x151_18)]) (cs := #[.string (⟨#[47]⟩ : ByteArray), .string x151_18]) rfl Tryz.underlying25 ty9 (by decide) rfl rfl) fun x152_19 g1 g2 => ?_)
      replace h := h x152_19 g1 g2
      refine Lp (V_move rfl rfl) rfl rfl ?_
      refine Ls rfl rfl (X_bi (s := Builtin.append_ #[25, 25] 25 #[Sl.v (⟨some ⟨x152_19, 0, none⟩, 2, 2⟩ : Sl), Sl.v a1]) rfl rfl (fun _ => rfl) (awp_mono _ h ?_))
      rintro v σ ⟨x154_20, rfl, h⟩
      refine Lp (V_move rfl rfl) rfl rfl ?_
      refine Ls rfl rfl (X_call rfl Tryz.func29 rfl rfl rfl (ACalls.mono h ?_))
      rintro v σ ⟨x156_21, rfl, h⟩
      refine Lp (V_not rfl rfl) rfl rfl ?_
      refine Lnil ?_
      refine thenN ?_
      refine AW.iff rfl (bnot_iff Iff.rfl) h (fun h => ?_) (fun h => ?_)
      rotate_left
      · refine AW.skip ?_
        refine blockN ?_
        refine thenN ?_
        exact ⟨_, (FrLe.cons rfl (FrLe.cons rfl (FrLe.cons rfl (FrLe.cons rfl (FrLe.cons rfl (FrLe.cons rfl (FrLe.cons rfl (FrLe.nil _)))))))), h⟩
      refine AW.seq ?_
      refine AW.reg ?_
      refine Lp (V_asg rfl rfl) rfl rfl ?_
      refine Lnil ?_
      refine thenN ?_
      refine AW.ret ?_
      refine blockR ?_
      refine thenR ?_
      refine thenR ?_
      refine blockR ?_
      refine thenR ?_
      exact bR1 Tryz.results7 rfl ⟨_, rfl, h⟩
    refine AW.seq ?_
    refine AW.reg ?_
    refine Lp (V_move rfl rfl) rfl rfl ?_
    refine Lp (V_lenL rfl rfl Tryz.underlying30 rfl rfl) rfl rfl ?_
    refine Lp (V_move rfl rfl) rfl rfl ?_
    refine Lnil ?_
    refine thenN ?_
    refine AW.block ?_
    refine ARound.loop (fr' := [(1, Sl.v a1), (2, Sl.v a2), (7, .pointer x7_16), (8, .pointer x24_2), (10, .pointer (some ⟨x10_12, 0, none⟩)), (11, Sl.v x35_14), (27, Sl.v a0), (28, .int .i64 (a0.len : Int)), (29, .int .i64 x29_7), (135, .int .i64 (x35_14.len : Int)), (136, .int .i64 0)]) ?_ (FrLe.cons rfl (FrLe.cons rfl (FrLe.cons rfl (FrLe.cons rfl (FrLe.cons rfl (FrLe.cons rfl (FrLe.cons rfl (FrLe.cons rfl (FrLe.cons rfl (FrLe.cons rfl (FrLe.cons rfl (FrLe.nil _))))))))))))
    refine h (fun x136_23 σ => ARound _ _ _ _ _ _ [(1, Sl.v a1), (2, Sl.v a2), (7, .pointer x7_16), (8, .pointer x24_2), (10, .pointer (some ⟨x10_12, 0, none⟩)), (11, Sl.v x35_14), (27, Sl.v a0), (28, .int .i64 (a0.len : Int)), (29, .int .i64 x29_7), (135, .int .i64 (x35_14.len : Int)), (136, .int .i64 x136_23)] σ) ?_
    rintro x136_23 σ Y22 hY22 h
    show AW _ _ _ _ _ _ _ _
    unfold l22_law07_ZtreePlays at h
    refine AW.seq ?_
    refine AW.reg ?_
    refine Lp (V_lss rfl rfl rfl) rfl rfl ?_
    refine Lnil ?_
    refine thenN ?_
    refine AW.seq ?_
    refine AW.iff rfl decide_eq_true_iff h (fun h => ?_) (fun h => ?_)
    rotate_left
    · refine AW.exit ?_
      refine thenE ?_
      refine thenE ?_
      refine blockE ?_
      refine thenN ?_
      exact ⟨(FrLe.cons rfl (FrLe.cons rfl (FrLe.cons rfl (FrLe.cons rfl (FrLe.cons rfl (FrLe.cons rfl (FrLe.cons rfl (FrLe.cons rfl (FrLe.nil _))))))))), h⟩
    refine AW.skip ?_
    refine thenN ?_
    refine AW.seq ?_
    refine AW.block ?_
    refine AW.seq ?_
    refine AW.reg ?_
    refine Lp (V_move rfl rfl) rfl rfl ?_
    refine Lp (V_asg rfl rfl) rfl rfl ?_
    refine Lnil ?_
    refine thenN ?_
    refine AW.reg ?_
    refine Lp (V_move rfl rfl) rfl rfl ?_
    refine Lp (V_move rfl rfl) rfl rfl ?_
    refine Lp (V_move rfl rfl) rfl rfl ?_
    refine Lp (V_move rfl rfl) rfl rfl ?_
    obtain ⟨p143_24, ha, h0, h1, h⟩ := h
    refine Lp (V_ixA rfl Tryz.underlying30 ty5 (ixL rfl ha) rfl h0 h1) rfl rfl ?_
    obtain ⟨x144_25, hc, h⟩ := h
    refine Ls rfl rfl (X_ld rfl Tryz.underlying5 rfl rfl hc ?_)
    refine Lp (V_inv rfl rfl) rfl rfl ?_
    obtain ⟨p146_26, ha, h0, h1, h⟩ := h
    refine Lp (V_ixA rfl Tryz.underlying30 ty5 (ixL rfl ha) rfl h0 h1) rfl rfl ?_
    refine Ls rfl rfl (X_st rfl ty5 rfl rfl rfl rfl (stN_mono h fun σ h => ?_))
    refine Lnil ?_
    refine blockN ?_
    refine thenN ?_
    refine AW.reg ?_
    refine Lp (V_add rfl rfl rfl) rfl rfl ?_
    refine Lp (V_move rfl rfl) rfl rfl ?_
    refine Lnil ?_
    refine thenN ?_
    refine ARound.head (fr' := [(1, Sl.v a1), (2, Sl.v a2), (7, .pointer x7_16), (8, .pointer x24_2), (10, .pointer (some ⟨x10_12, 0, none⟩)), (11, Sl.v x35_14), (27, Sl.v a0), (28, .int .i64 (a0.len : Int)), (29, .int .i64 x29_7), (135, .int .i64 (x35_14.len : Int)), (136, .int .i64 (IntKind.i64.wrap (x136_23 + 1)))]) ?_ (FrLe.cons rfl (FrLe.cons rfl (FrLe.cons rfl (FrLe.cons rfl (FrLe.cons rfl (FrLe.cons rfl (FrLe.cons rfl (FrLe.cons rfl (FrLe.cons rfl (FrLe.cons rfl (FrLe.cons rfl (FrLe.nil _))))))))))))
    exact hY22 _ _ h
  refine AW.seq ?_
  refine AW.reg ?_
  refine Lp (V_fld rfl Tryz.underlying40 rfl ty3 (by decide) rfl) rfl rfl ?_
  obtain ⟨x37_27, hc, h⟩ := h
  refine Ls rfl rfl (X_ld rfl Tryz.underlying3 rfl rfl hc ?_)
  refine Lnil ?_
  refine thenN ?_
  refine AW.block ?_
  refine AW.seq ?_
  refine AW.reg ?_
  refine Lp (V_eql rfl rfl rfl) rfl rfl ?_
  refine Lp (V_asg rfl rfl) rfl rfl ?_
  refine Lnil ?_
  refine thenN ?_
  refine AW.iff rfl decide_eq_true_iff h (fun h => ?_) (fun h => ?_)
  · refine AW.seq ?_
    refine AW.reg ?_
    refine Lp (V_move rfl rfl) rfl rfl ?_
    refine Lp (V_fld rfl Tryz.underlying40 rfl ty9 (by decide) rfl) rfl rfl ?_
    obtain ⟨x43_28, hc, h⟩ := h
    refine Ls rfl rfl (X_ld rfl Tryz.underlying9 rfl rfl hc ?_)
    refine Lp (V_move rfl rfl) rfl rfl ?_
    refine Lp (V_fld rfl Tryz.underlying40 rfl ty3 (by decide) rfl) rfl rfl ?_
    obtain ⟨x46_29, hc, h⟩ := h
    refine Ls rfl rfl (X_ld rfl Tryz.underlying3 rfl rfl hc ?_)
    refine Lp (V_fld rfl Tryz.underlying40 rfl ty4 (by decide) rfl) rfl rfl ?_
    obtain ⟨x48_30, hc, h⟩ := h
    refine Ls rfl rfl (X_ld rfl Tryz.underlying4 rfl rfl hc ?_)
    refine Ls rfl rfl (X_call rfl Tryz.func22 rfl rfl rfl (ACalls.mono h ?_))
    rintro v σ ⟨x49_31, x49_32, rfl, h⟩
    refine Lp (V_move rfl rfl) rfl rfl ?_
    refine Lp (V_ext rfl rfl rfl) rfl rfl ?_
    refine Lp (V_ext rfl rfl rfl) rfl rfl ?_
    refine Lp (V_asg rfl rfl) rfl rfl ?_
    refine Lp (V_asg rfl rfl) rfl rfl ?_
    refine Lnil ?_
    refine thenN ?_
    refine AW.seq ?_
    refine AW.reg ?_
    refine Lp (V_move rfl rfl) rfl rfl ?_
    refine Lp (V_fld rfl Tryz.underlying40 rfl ty9 (by decide) rfl) rfl rfl ?_
    obtain ⟨x55_33, hc, h⟩ := h
    refine Ls rfl rfl (X_ld rfl Tryz.underlying9 rfl rfl hc ?_)
    refine Lp (V_fld rfl Tryz.underlying40 rfl ty30 (by decide) rfl) rfl rfl ?_
    obtain ⟨x57_34, hc, h⟩ := h
    refine Ls rfl rfl (X_ld rfl Tryz.underlying30 rfl rfl hc ?_)
    refine Lp (V_fld rfl Tryz.underlying40 rfl ty3 (by decide) rfl) rfl rfl ?_
    obtain ⟨x59_35, hc, h⟩ := h
    refine Ls rfl rfl (X_ld rfl Tryz.underlying3 rfl rfl hc ?_)
    refine Lp (V_fld rfl Tryz.underlying40 rfl ty4 (by decide) rfl) rfl rfl ?_
    obtain ⟨x61_36, hc, h⟩ := h
    refine Ls rfl rfl (X_ld rfl Tryz.underlying4 rfl rfl hc ?_)
    refine Ls rfl rfl (X_call rfl Tryz.func32 rfl rfl rfl (ACalls.mono h ?_))
    rintro v σ ⟨x62_37, x62_38, rfl, h⟩
    refine Lp (V_move rfl rfl) rfl rfl ?_
    refine Lp (V_ext rfl rfl rfl) rfl rfl ?_
    refine Lp (V_ext rfl rfl rfl) rfl rfl ?_
    refine Lp (V_asg rfl rfl) rfl rfl ?_
    refine Lp (V_asg rfl rfl) rfl rfl ?_
    refine Lnil ?_
    refine thenN ?_
    refine AW.seq ?_
    refine AW.reg ?_
    refine Lp (V_move rfl rfl) rfl rfl ?_
    refine Lp (V_move rfl rfl) rfl rfl ?_
    refine Lp (V_neqS rfl rfl rfl) rfl rfl ?_
    refine Lp (V_move rfl rfl) rfl rfl ?_
    refine Lsplit 4 (!(decide (x49_31 = x62_37))) [(1, Sl.v a1), (2, Sl.v a2), (7, .pointer x7_6), (8, .pointer x24_2), (10, .pointer (some ⟨x10_12, 0, none⟩)), (11, Sl.v x35_14), (27, Sl.v a0), (28, .int .i64 (a0.len : Int)), (29, .int .i64 x29_7), (72, .bool ((!(decide (x49_31 = x62_37))) || (!(decide (x49_32 = x62_38)))))] ?_ ?_ ?_
    · intro e3 hk3
      refine Ln rfl rfl rfl rfl (.inl (by rw [e3]; rfl)) ?_
      refine Ln rfl rfl rfl rfl (.inl (by rw [e3]; rfl)) ?_
      refine Ln rfl rfl rfl rfl (.inl (by rw [e3]; rfl)) ?_
      refine Lp (V_pickT rfl (evb e3) rfl) rfl rfl ?_
      exact hk3 _ (FrLe.cons rfl (FrLe.cons rfl (FrLe.cons rfl (FrLe.cons rfl (FrLe.cons rfl (FrLe.cons rfl (FrLe.cons rfl (FrLe.cons rfl (FrLe.cons rfl (FrLe.cons (by rw [e3]; rfl) (FrLe.nil _)))))))))))
    · intro e3 hk3
      refine Lypb (V_move rfl rfl) rfl rfl rfl rfl e3 ?_
      refine Lypb (V_move rfl rfl) rfl rfl rfl rfl e3 ?_
      refine Lypb (V_neq rfl rfl rfl) rfl rfl rfl rfl e3 ?_
      refine Lp (V_pickF rfl (evb e3) rfl) rfl rfl ?_
      exact hk3 _ (FrLe.cons rfl (FrLe.cons rfl (FrLe.cons rfl (FrLe.cons rfl (FrLe.cons rfl (FrLe.cons rfl (FrLe.cons rfl (FrLe.cons rfl (FrLe.cons rfl (FrLe.cons (by rw [e3]; rfl) (FrLe.nil _)))))))))))
    intro fr hl
    refine Lfr hl ?_
    refine Lnil ?_
    refine thenN ?_
    refine AW.iff rfl (bor_iff (bnot_iff decide_eq_true_iff) (bnot_iff decide_eq_true_iff)) h (fun h => ?_) (fun h => ?_)
    rotate_left
    · refine AW.skip ?_
      refine blockN ?_
      refine thenN ?_
      exact ⟨_, (FrLe.cons rfl (FrLe.cons rfl (FrLe.cons rfl (FrLe.cons rfl (FrLe.cons rfl (FrLe.cons rfl (FrLe.cons rfl (FrLe.cons rfl (FrLe.cons rfl (FrLe.nil _)))))))))), h⟩
    refine AW.seq ?_
    refine AW.reg ?_
    refine Lp (V_asg rfl rfl) rfl rfl ?_
    refine Lnil ?_
    refine thenN ?_
    refine AW.ret ?_
    refine blockR ?_
    refine thenR ?_
    refine blockR ?_
    refine thenR ?_
    refine thenR ?_
    refine blockR ?_
    refine thenR ?_
    exact bR1 Tryz.results7 rfl ⟨_, rfl, h⟩
  refine AW.seq ?_
  refine AW.reg ?_
  refine Lp (V_eql rfl rfl rfl) rfl rfl ?_
  refine Lp (V_asg rfl rfl) rfl rfl ?_
  refine Lnil ?_
  refine thenN ?_
  refine AW.iff rfl decide_eq_true_iff h (fun h => ?_) (fun h => ?_)
  · refine AW.seq ?_
    refine AW.drawnL (fun i => ([0, 0, 3, 0, 3, 2, 0, 0, 0, 0, 0, 2, 0] : List Nat).getD i 2) [(2, 5), (2, 11), (4, 5), (4, 11)] [0, 1, 3, 6, 7, 8, 9, 10, 2, 4, 5, 11, 12] Tryz.mixed h (by decide +kernel) ?_
    clear h
    intro ψ σ h
    refine Dp rfl rfl rfl rfl (V_move rfl rfl) ?_
    refine Dp rfl rfl rfl rfl (V_fld rfl Tryz.underlying40 rfl ty9 (by decide) rfl) ?_
    refine Dp rfl rfl rfl rfl (V_fld rfl Tryz.underlying40 rfl ty3 (by decide) rfl) ?_
    refine Dp rfl rfl rfl rfl (V_move rfl rfl) ?_
    refine Dp rfl rfl rfl rfl (V_fld rfl Tryz.underlying40 rfl ty9 (by decide) rfl) ?_
    obtain ⟨x83_39, hc, h⟩ := h
    refine Dp rfl rfl rfl rfl (V_ld rfl Tryz.underlying9 rfl rfl hc) ?_
    refine Dp rfl rfl rfl rfl (V_fld rfl Tryz.underlying40 rfl ty3 (by decide) rfl) ?_
    obtain ⟨x85_40, hc, h⟩ := h
    refine Dp rfl rfl rfl rfl (V_ld rfl Tryz.underlying3 rfl rfl hc) ?_
    obtain ⟨x77_41, hc, h⟩ := h
    refine Dr rfl rfl rfl rfl (R_ld rfl Tryz.underlying9 rfl rfl hc) ?_
    obtain ⟨x79_42, hc, h⟩ := h
    refine Dr rfl rfl rfl rfl (R_ld rfl Tryz.underlying3 rfl rfl hc) ?_
    refine Dg rfl rfl rfl rfl (X_call rfl Tryz.func24 rfl rfl rfl (ACalls.mono h ?_))
    rintro v σ ⟨x80_43, rfl, h⟩
    refine Dg rfl rfl rfl rfl (X_call rfl Tryz.func33 rfl rfl rfl (ACalls.mono h ?_))
    rintro v σ ⟨x86_44, rfl, h⟩
    refine Dp rfl rfl rfl rfl (V_neq rfl rfl rfl) ?_
    refine ⟨_, FrEq.refl _, fun hdj => ?_⟩
    replace h := h hdj
    refine thenN ?_
    refine AW.iff rfl (bnot_iff decide_eq_true_iff) h (fun h => ?_) (fun h => ?_)
    rotate_left
    · refine AW.skip ?_
      refine blockN ?_
      refine thenN ?_
      exact ⟨_, (FrLe.cons rfl (FrLe.cons rfl (FrLe.cons rfl (FrLe.cons rfl (FrLe.cons rfl (FrLe.cons rfl (FrLe.cons rfl (FrLe.cons rfl (FrLe.cons rfl (FrLe.nil _)))))))))), h⟩
    refine AW.seq ?_
    refine AW.reg ?_
    refine Lp (V_asg rfl rfl) rfl rfl ?_
    refine Lnil ?_
    refine thenN ?_
    refine AW.ret ?_
    refine blockR ?_
    refine thenR ?_
    refine blockR ?_
    refine thenR ?_
    refine thenR ?_
    refine blockR ?_
    refine thenR ?_
    exact bR1 Tryz.results7 rfl ⟨_, rfl, h⟩
  refine AW.seq ?_
  refine AW.reg ?_
  refine Lp (V_eql rfl rfl rfl) rfl rfl ?_
  refine Lp (V_asg rfl rfl) rfl rfl ?_
  refine Lnil ?_
  refine thenN ?_
  refine AW.iff rfl decide_eq_true_iff h (fun h => ?_) (fun h => ?_)
  rotate_left
  · refine AW.seq ?_
    refine AW.reg ?_
    refine Lp (V_eql rfl rfl rfl) rfl rfl ?_
    refine Lp (V_asg rfl rfl) rfl rfl ?_
    refine Lnil ?_
    refine thenN ?_
    refine AW.iff rfl decide_eq_true_iff h (fun h => ?_) (fun h => ?_)
    rotate_left
    · refine AW.skip ?_
      refine blockN ?_
      refine thenN ?_
      exact ⟨_, (FrLe.cons rfl (FrLe.cons rfl (FrLe.cons rfl (FrLe.cons rfl (FrLe.cons rfl (FrLe.cons rfl (FrLe.cons rfl (FrLe.cons rfl (FrLe.cons rfl (FrLe.nil _)))))))))), h⟩
    refine AW.seq ?_
    refine AW.reg ?_
    refine Lp (V_move rfl rfl) rfl rfl ?_
    refine Ls rfl rfl (X_call rfl Tryz.func21 rfl rfl rfl (ACalls.mono h ?_))
    rintro v σ ⟨x123_54, rfl, h⟩
    refine Ls rfl rfl (X_call rfl Tryz.func27 rfl rfl rfl (ACalls.mono h ?_))
    rintro v σ ⟨x124_55, x124_56, rfl, h⟩
    refine Lp (V_move rfl rfl) rfl rfl ?_
    refine Lp (V_ext rfl rfl rfl) rfl rfl ?_
    refine Lp (V_ext rfl rfl rfl) rfl rfl ?_
    refine Lp (V_asg rfl rfl) rfl rfl ?_
    refine Lp (V_asg rfl rfl) rfl rfl ?_
    refine Lnil ?_
    refine thenN ?_
    refine AW.seq ?_
    refine AW.seq ?_
    refine AW.reg ?_
    refine Lp (V_move rfl rfl) rfl rfl ?_
    refine Lp (V_eqP rfl Tryz.underlying23 rfl rfl) rfl rfl ?_
    refine Lp (V_move rfl rfl) rfl rfl ?_
    refine Lsplit 3 x124_55.isNone [(1, Sl.v a1), (2, Sl.v a2), (8, .pointer x24_2), (10, .pointer (some ⟨x10_12, 0, none⟩)), (11, Sl.v x35_14), (20, .pointer x124_55), (27, Sl.v a0), (28, .int .i64 (a0.len : Int)), (29, .int .i64 x29_7), (132, .bool (x124_55.isNone || (!(decide (x124_56 = 0)))))] ?_ ?_ ?_
    · intro e2 hk2
      refine Ln rfl rfl rfl rfl (.inl (by rw [e2]; rfl)) ?_
      refine Ln rfl rfl rfl rfl (.inl (by rw [e2]; rfl)) ?_
      refine Lp (V_pickT rfl (evb e2) rfl) rfl rfl ?_
      exact hk2 _ (FrLe.cons rfl (FrLe.cons rfl (FrLe.cons rfl (FrLe.cons rfl (FrLe.cons rfl (FrLe.cons rfl (FrLe.cons rfl (FrLe.cons rfl (FrLe.cons rfl (FrLe.cons (by rw [e2]; rfl) (FrLe.nil _)))))))))))
    · intro e2 hk2
      refine Lypb (V_move rfl rfl) rfl rfl rfl rfl e2 ?_
      refine Lypb (V_neq rfl rfl rfl) rfl rfl rfl rfl e2 ?_
      refine Lp (V_pickF rfl (evb e2) rfl) rfl rfl ?_
      exact hk2 _ (FrLe.cons rfl (FrLe.cons rfl (FrLe.cons rfl (FrLe.cons rfl (FrLe.cons rfl (FrLe.cons rfl (FrLe.cons rfl (FrLe.cons rfl (FrLe.cons rfl (FrLe.cons (by rw [e2]; rfl) (FrLe.nil _)))))))))))
    intro fr hl
    refine Lfr hl ?_
    refine Lnil ?_
    refine thenN ?_
    refine AW.iff rfl (bor_iff isNone_iff (bnot_iff decide_eq_true_iff)) h (fun h => ?_) (fun h => ?_)
    · refine AW.seq ?_
      refine AW.reg ?_
      refine Lp (V_asg rfl rfl) rfl rfl ?_
      refine Lnil ?_
      refine thenN ?_
      refine AW.ret ?_
      refine thenR ?_
      refine blockR ?_
      refine thenR ?_
      refine blockR ?_
      refine thenR ?_
      refine thenR ?_
      refine blockR ?_
      refine thenR ?_
      exact bR1 Tryz.results7 rfl ⟨_, rfl, h⟩
    refine AW.skip ?_
    refine thenN ?_
    refine AW.reg ?_
    refine Lp (V_move rfl rfl) rfl rfl ?_
    refine Lp (V_asg rfl rfl) rfl rfl ?_
    refine Lnil ?_
    refine blockN ?_
    refine thenN ?_
    exact ⟨_, (FrLe.cons rfl (FrLe.cons rfl (FrLe.cons rfl (FrLe.cons rfl (FrLe.cons rfl (FrLe.cons rfl (FrLe.cons rfl (FrLe.cons rfl (FrLe.cons rfl (FrLe.nil _)))))))))), h⟩
  refine AW.seq ?_
  refine AW.reg ?_
  refine Lp (V_move rfl rfl) rfl rfl ?_
  refine Lp (V_fld rfl Tryz.underlying40 rfl ty9 (by decide) rfl) rfl rfl ?_
  obtain ⟨x93_45, hc, h⟩ := h
  refine Ls rfl rfl (X_ld rfl Tryz.underlying9 rfl rfl hc ?_)
  refine Lp (V_move rfl rfl) rfl rfl ?_
  refine Lp (V_fld rfl Tryz.underlying40 rfl ty3 (by decide) rfl) rfl rfl ?_
  obtain ⟨x96_46, hc, h⟩ := h
  refine Ls rfl rfl (X_ld rfl Tryz.underlying3 rfl rfl hc ?_)
  refine Ls rfl rfl (X_call rfl Tryz.func25 rfl rfl rfl (ACalls.mono h ?_))
  rintro v σ ⟨x97_47, x97_48, rfl, h⟩
  refine Lp (V_move rfl rfl) rfl rfl ?_
  refine Lp (V_ext rfl rfl rfl) rfl rfl ?_
  refine Lp (V_ext rfl rfl rfl) rfl rfl ?_
  refine Lp (V_asg rfl rfl) rfl rfl ?_
  refine Lp (V_asg rfl rfl) rfl rfl ?_
  refine Lnil ?_
  refine thenN ?_
  refine AW.seq ?_
  refine AW.reg ?_
  refine Lp (V_move rfl rfl) rfl rfl ?_
  refine Lp (V_fld rfl Tryz.underlying40 rfl ty9 (by decide) rfl) rfl rfl ?_
  obtain ⟨x103_49, hc, h⟩ := h
  refine Ls rfl rfl (X_ld rfl Tryz.underlying9 rfl rfl hc ?_)
  refine Lp (V_fld rfl Tryz.underlying40 rfl ty30 (by decide) rfl) rfl rfl ?_
  obtain ⟨x105_50, hc, h⟩ := h
  refine Ls rfl rfl (X_ld rfl Tryz.underlying30 rfl rfl hc ?_)
  refine Lp (V_fld rfl Tryz.underlying40 rfl ty3 (by decide) rfl) rfl rfl ?_
  obtain ⟨x107_51, hc, h⟩ := h
  refine Ls rfl rfl (X_ld rfl Tryz.underlying3 rfl rfl hc ?_)
  refine Ls rfl rfl (X_call rfl Tryz.func34 rfl rfl rfl (ACalls.mono h ?_))
  rintro v σ ⟨x108_52, x108_53, rfl, h⟩
  refine Lp (V_move rfl rfl) rfl rfl ?_
  refine Lp (V_ext rfl rfl rfl) rfl rfl ?_
  refine Lp (V_ext rfl rfl rfl) rfl rfl ?_
  refine Lp (V_asg rfl rfl) rfl rfl ?_
  refine Lp (V_asg rfl rfl) rfl rfl ?_
  refine Lnil ?_
  refine thenN ?_
  refine AW.seq ?_
  refine AW.reg ?_
  refine Lp (V_move rfl rfl) rfl rfl ?_
  refine Lp (V_move rfl rfl) rfl rfl ?_
  refine Lp (V_neq rfl rfl rfl) rfl rfl ?_
  refine Lp (V_move rfl rfl) rfl rfl ?_
  refine Lsplit 4 (!(decide (x97_47 = x108_52))) [(1, Sl.v a1), (2, Sl.v a2), (7, .pointer x7_6), (8, .pointer x24_2), (10, .pointer (some ⟨x10_12, 0, none⟩)), (11, Sl.v x35_14), (27, Sl.v a0), (28, .int .i64 (a0.len : Int)), (29, .int .i64 x29_7), (118, .bool ((!(decide (x97_47 = x108_52))) || (!(decide (x97_48 = x108_53)))))] ?_ ?_ ?_
  · intro e3 hk3
    refine Ln rfl rfl rfl rfl (.inl (by rw [e3]; rfl)) ?_
    refine Ln rfl rfl rfl rfl (.inl (by rw [e3]; rfl)) ?_
    refine Ln rfl rfl rfl rfl (.inl (by rw [e3]; rfl)) ?_
    refine Lp (V_pickT rfl (evb e3) rfl) rfl rfl ?_
    exact hk3 _ (FrLe.cons rfl (FrLe.cons rfl (FrLe.cons rfl (FrLe.cons rfl (FrLe.cons rfl (FrLe.cons rfl (FrLe.cons rfl (FrLe.cons rfl (FrLe.cons rfl (FrLe.cons (by rw [e3]; rfl) (FrLe.nil _)))))))))))
  · intro e3 hk3
    refine Lypb (V_move rfl rfl) rfl rfl rfl rfl e3 ?_
    refine Lypb (V_move rfl rfl) rfl rfl rfl rfl e3 ?_
    refine Lypb (V_neq rfl rfl rfl) rfl rfl rfl rfl e3 ?_
    refine Lp (V_pickF rfl (evb e3) rfl) rfl rfl ?_
    exact hk3 _ (FrLe.cons rfl (FrLe.cons rfl (FrLe.cons rfl (FrLe.cons rfl (FrLe.cons rfl (FrLe.cons rfl (FrLe.cons rfl (FrLe.cons rfl (FrLe.cons rfl (FrLe.cons (by rw [e3]; rfl) (FrLe.nil _)))))))))))
  intro fr hl
  refine Lfr hl ?_
  refine Lnil ?_
  refine thenN ?_
  refine AW.iff rfl (bor_iff (bnot_iff decide_eq_true_iff) (bnot_iff decide_eq_true_iff)) h (fun h => ?_) (fun h => ?_)
  rotate_left
  · refine AW.skip ?_
    refine blockN ?_
    refine thenN ?_
    exact ⟨_, (FrLe.cons rfl (FrLe.cons rfl (FrLe.cons rfl (FrLe.cons rfl (FrLe.cons rfl (FrLe.cons rfl (FrLe.cons rfl (FrLe.cons rfl (FrLe.cons rfl (FrLe.nil _)))))))))), h⟩
  refine AW.seq ?_
  refine AW.reg ?_
  refine Lp (V_asg rfl rfl) rfl rfl ?_
  refine Lnil ?_
  refine thenN ?_
  refine AW.ret ?_
  refine blockR ?_
  refine thenR ?_
  refine blockR ?_
  refine thenR ?_
  refine thenR ?_
  refine blockR ?_
  refine thenR ?_
  exact bR1 Tryz.results7 rfl ⟨_, rfl, h⟩

def j8_law07_awake (B : World) (ro : AH) (Q : Bool → AH → Prop) (x39_9 : Bool) (σ : AH) : Prop :=
 Q x39_9 σ

def f_law07_awake (B : World) (ro : AH) (σ : AH) (Q : Bool → AH → Prop) : Prop :=
 c_ztree_New B ro σ fun x6_1 σ =>
 if x6_1 = none then
  Q false σ
 else
 nw ro σ (.cells #[.int .u8 120] 5) fun x11_2 σ =>
 awp Tryz.prog ro (convert 30 30 (Sl.v (⟨some ⟨x11_2, 0, none⟩, 1, 1⟩ : Sl))) (fun v σ =>
  (∃ (x12_3 : Sl), v = Sl.v x12_3 ∧
   c_ztree_Tree_Create B ro x6_1 (⟨#[47, 97]⟩ : ByteArray) x12_3 0 false σ fun x13_4 x13_5 σ =>
   c_ztree_Tree_Create B ro x6_1 (⟨#[47, 97, 47, 115]⟩ : ByteArray) (⟨none, 0, 0⟩ : Sl) 0 true σ fun x18_6 x18_7 σ =>
   if (((x13_5 = 0) ∧ (x18_7 = 0)) ∧ (x13_4 = (⟨#[47, 97]⟩ : ByteArray))) ∧ (x18_6 = (⟨#[47, 97, 47, 115, 48, 48, 48, 48, 48, 48, 48, 48, 48, 48]⟩ : ByteArray)) then
    c_ztree_Tree_Size B ro x6_1 σ fun x37_10 σ =>
    j8_law07_awake B ro Q (decide (x37_10 = 3)) σ
   else
   j8_law07_awake B ro Q false σ)) σ

set_option maxRecDepth 100000 in
set_option maxHeartbeats 4000000 in
theorem law07_awake_ok {B : World} {ro : AH} {σ : AH} {Q : Bool → AH → Prop} (h : Sep ro σ → f_law07_awake B ro σ Q) : c_law07_awake B ro σ Q := by
  refine ACalls.of_sep fun hsep => ?_
  replace h := h hsep
  refine ACalls.of_body (args := []) Tryz.func20 rfl (by rw [Tryz.ntmps20]; simp) ?_
  rw [Tryz.ntmps20]
  unfold f_law07_awake at h
  refine AW.seq ?_
  refine AW.reg ?_
  refine Lp (V_asg rfl rfl) rfl rfl ?_
  refine Lnil ?_
  refine thenN ?_
  refine AW.seq ?_
  refine AW.reg ?_
  refine Ls rfl rfl (X_call rfl Tryz.func30 rfl rfl rfl (ACalls.mono h ?_))
  rintro v σ ⟨x6_1, rfl, h⟩
  refine Lp (V_asg rfl rfl) rfl rfl ?_
  refine Lnil ?_
  refine thenN ?_
  refine AW.seq ?_
  refine AW.seq ?_
  refine AW.reg ?_
  refine Lp (V_move rfl rfl) rfl rfl ?_
  refine Lp (V_eqP rfl Tryz.underlying23 rfl rfl) rfl rfl ?_
  refine Lnil ?_
  refine thenN ?_
  refine AW.iff rfl isNone_iff h (fun h => ?_) (fun h => ?_)
  · refine AW.seq ?_
    refine AW.reg ?_
    refine Lp (V_asg rfl rfl) rfl rfl ?_
    refine Lnil ?_
    refine thenN ?_
    refine AW.ret ?_
    refine thenR ?_
    exact bR1 Tryz.results20 rfl ⟨_, rfl, h⟩
  refine AW.skip ?_
  refine thenN ?_
  refine AW.seq ?_
  refine AW.reg ?_
  refine Lp (V_move rfl rfl) rfl rfl ?_
  refine Ls rfl rfl (X_new (A_bsl (vs := [(0, .int .u8 120)]) (cs := #[.int .u8 120]) rfl Tryz.underlying30 ty5 (by decide) rfl rfl) fun x11_2 g1 g2 => ?_)
  replace h := h x11_2 g1 g2
  refine Ls rfl rfl (X_cvt rfl rfl (awp_mono _ h ?_))
  rintro v σ ⟨x12_3, rfl, h⟩
  refine Ls rfl rfl (X_call rfl Tryz.func22 rfl rfl rfl (ACalls.mono h ?_))
  rintro v σ ⟨x13_4, x13_5, rfl, h⟩
  refine Lp (V_move rfl rfl) rfl rfl ?_
  refine Lp (V_ext rfl rfl rfl) rfl rfl ?_
  refine Lp (V_ext rfl rfl rfl) rfl rfl ?_
  refine Lp (V_asg rfl rfl) rfl rfl ?_
  refine Lp (V_asg rfl rfl) rfl rfl ?_
  refine Lnil ?_
  refine thenN ?_
  refine AW.seq ?_
  refine AW.reg ?_
  refine Lp (V_move rfl rfl) rfl rfl ?_
  refine Ls rfl rfl (X_call rfl Tryz.func22 rfl rfl rfl (ACalls.mono h ?_))
  rintro v σ ⟨x18_6, x18_7, rfl, h⟩
  refine Lp (V_move rfl rfl) rfl rfl ?_
  refine Lp (V_ext rfl rfl rfl) rfl rfl ?_
  refine Lp (V_ext rfl rfl rfl) rfl rfl ?_
  refine Lp (V_asg rfl rfl) rfl rfl ?_
  refine Lp (V_asg rfl rfl) rfl rfl ?_
  refine Lnil ?_
  refine thenN ?_
  refine AW.seq ?_
  refine AW.reg ?_
  refine Lp (V_move rfl rfl) rfl rfl ?_
  refine Lp (V_eql rfl rfl rfl) rfl rfl ?_
  refine Lp (V_move rfl rfl) rfl rfl ?_
  refine Lsplit 3 (decide (x13_5 = 0)) [(1, .pointer x6_1), (2, .string x13_4), (4, .string x18_6), (26, .bool ((decide (x13_5 = 0)) && (decide (x18_7 = 0))))] ?_ ?_ ?_
  · intro e2 hk2
    refine Lypb (V_move rfl rfl) rfl rfl rfl rfl e2 ?_
    refine Lypb (V_eql rfl rfl rfl) rfl rfl rfl rfl e2 ?_
    refine Lp (V_pickT rfl (evb e2) rfl) rfl rfl ?_
    exact hk2 _ (FrLe.cons rfl (FrLe.cons rfl (FrLe.cons rfl (FrLe.cons (by rw [e2]; rfl) (FrLe.nil _)))))
  · intro e2 hk2
    refine Ln rfl rfl rfl rfl (.inl (by rw [e2]; rfl)) ?_
    refine Ln rfl rfl rfl rfl (.inl (by rw [e2]; rfl)) ?_
    refine Lp (V_pickF rfl (evb e2) rfl) rfl rfl ?_
    exact hk2 _ (FrLe.cons rfl (FrLe.cons rfl (FrLe.cons rfl (FrLe.cons (by rw [e2]; rfl) (FrLe.nil _)))))
  intro fr hl
  refine Lfr hl ?_
  refine Lp (V_move rfl rfl) rfl rfl ?_
  refine Lsplit 3 ((decide (x13_5 = 0)) && (decide (x18_7 = 0))) [(1, .pointer x6_1), (4, .string x18_6), (30, .bool (((decide (x13_5 = 0)) && (decide (x18_7 = 0))) && (decide (x13_4 = (⟨#[47, 97]⟩ : ByteArray)))))] ?_ ?_ ?_
  · intro e6 hk6
    refine Lypb (V_move rfl rfl) rfl rfl rfl rfl e6 ?_
    refine Lypb (V_eqlS rfl rfl rfl) rfl rfl rfl rfl e6 ?_
    refine Lp (V_pickT rfl (evb e6) rfl) rfl rfl ?_
    exact hk6 _ (FrLe.cons rfl (FrLe.cons rfl (FrLe.cons (by rw [e6]; rfl) (FrLe.nil _))))
  · intro e6 hk6
    refine Ln rfl rfl rfl rfl (.inl (by rw [e6]; rfl)) ?_
    refine Ln rfl rfl rfl rfl (.inl (by rw [e6]; rfl)) ?_
    refine Lp (V_pickF rfl (evb e6) rfl) rfl rfl ?_
    exact hk6 _ (FrLe.cons rfl (FrLe.cons rfl (FrLe.cons (by rw [e6]; rfl) (FrLe.nil _))))
  intro fr hl
  refine Lfr hl ?_
  refine Lp (V_move rfl rfl) rfl rfl ?_
  refine Lsplit 3 (((decide (x13_5 = 0)) && (decide (x18_7 = 0))) && (decide (x13_4 = (⟨#[47, 97]⟩ : ByteArray)))) [(1, .pointer x6_1), (34, .bool ((((decide (x13_5 = 0)) && (decide (x18_7 = 0))) && (decide (x13_4 = (⟨#[47, 97]⟩ : ByteArray)))) && (decide (x18_6 = (⟨#[47, 97, 47, 115, 48, 48, 48, 48, 48, 48, 48, 48, 48, 48]⟩ : ByteArray)))))] ?_ ?_ ?_
  · intro e10 hk10
    refine Lypb (V_move rfl rfl) rfl rfl rfl rfl e10 ?_
    refine Lypb (V_eqlS rfl rfl rfl) rfl rfl rfl rfl e10 ?_
    refine Lp (V_pickT rfl (evb e10) rfl) rfl rfl ?_
    exact hk10 _ (FrLe.cons rfl (FrLe.cons (by rw [e10]; rfl) (FrLe.nil _)))
  · intro e10 hk10
    refine Ln rfl rfl rfl rfl (.inl (by rw [e10]; rfl)) ?_
    refine Ln rfl rfl rfl rfl (.inl (by rw [e10]; rfl)) ?_
    refine Lp (V_pickF rfl (evb e10) rfl) rfl rfl ?_
    exact hk10 _ (FrLe.cons rfl (FrLe.cons (by rw [e10]; rfl) (FrLe.nil _)))
  intro fr hl
  refine Lfr hl ?_
  refine Lp (V_move rfl rfl) rfl rfl ?_
  refine LsplitJ 4 ((((decide (x13_5 = 0)) && (decide (x18_7 = 0))) && (decide (x13_4 = (⟨#[47, 97]⟩ : ByteArray)))) && (decide (x18_6 = (⟨#[47, 97, 47, 115, 48, 48, 48, 48, 48, 48, 48, 48, 48, 48]⟩ : ByteArray)))) (band_iff (band_iff (band_iff decide_eq_true_iff decide_eq_true_iff) decide_eq_true_iff) decide_eq_true_iff) h (fun fr σ => ∃ (x39_9 : Bool), FrLe [(39, .bool x39_9)] fr ∧ j8_law07_awake B ro Q x39_9 σ) ?_ ?_ ?_
  · intro h e14 hk14
    refine Lypb (V_move rfl rfl) rfl rfl rfl rfl e14 ?_
    refine Lyb rfl rfl rfl rfl e14 (X_call rfl Tryz.func16 rfl rfl rfl (ACalls.mono h ?_))
    rintro v σ ⟨x37_10, rfl, h⟩
    refine Lypb (V_eql rfl rfl rfl) rfl rfl rfl rfl e14 ?_
    refine Lp (V_pickT rfl (evb e14) rfl) rfl rfl ?_
    exact hk14 _ _ ⟨_, (FrLe.cons rfl (FrLe.nil _)), h⟩
  · intro h e14 hk14
    refine Ln rfl rfl rfl rfl (.inl (by rw [e14]; rfl)) ?_
    refine Ln rfl rfl rfl rfl (.inl (by rw [e14]; rfl)) ?_
    refine Ln rfl rfl rfl rfl (.inl (by rw [e14]; rfl)) ?_
    refine Lp (V_pickF rfl (evb e14) rfl) rfl rfl ?_
    exact hk14 _ _ ⟨_, (FrLe.cons rfl (FrLe.nil _)), h⟩
  rintro fr σ ⟨x39_9, hl, h⟩
  unfold j8_law07_awake at h
  refine Lfr hl ?_
  refine Lp (V_asg rfl rfl) rfl rfl ?_
  refine Lnil ?_
  refine thenN ?_
  refine AW.ret ?_
  exact bR1 Tryz.results20 rfl ⟨_, rfl, h⟩

def j3_law07_alike (B : World) (ro : AH) (Q : Bool → AH → Prop) (σ : AH) : Prop :=
 Q true σ

def j6_law07_alike (B : World) (ro : AH) (a0 : Option Addr) (a1 : Option Addr) (a2 : Sl) (x54_5 : Int) (Q : Bool → AH → Prop) (Y4 : (Int) → AH → Prop) (σ : AH) : Prop :=
 Y4 (IntKind.i64.wrap (x54_5 + 1)) σ

def l33_law07_alike (B : World) (ro : AH) (a0 : Option Addr) (a1 : Option Addr) (a2 : Sl) (x54_5 : Int) (x61_9 : Sl) (Q : Bool → AH → Prop) (Y4 : (Int) → AH → Prop) : (Int) → AH → ((Int) → AH → Prop) → Prop := fun x142_34 σ Y33 =>
 if x142_34 < (x61_9.len : Int) then
  ∃ p149_35 : Addr, x61_9.a = some p149_35 ∧ (0 : Int) ≤ x142_34 ∧ x142_34 < (x61_9.len : Int) ∧
  ∃ (x150_36 : Int), acell ro σ (p149_35.add (Int.toNat x142_34 * 1)) = some (.int .u8 x150_36) ∧
  ∃ p152_37 : Addr, x61_9.a = some p152_37 ∧ (0 : Int) ≤ x142_34 ∧ x142_34 < (x61_9.len : Int) ∧
  stN (p152_37.add (Int.toNat x142_34 * 1)) (fun σ =>
   Y33 (IntKind.i64.wrap (x142_34 + 1)) σ) [.int .u8 (bitXor .u8 (if IntKind.u8.signed then -1 else IntKind.u8.max) x150_36)] 0 σ
 else
 j6_law07_alike B ro a0 a1 a2 x54_5 Q Y4 σ

def j31_law07_alike (B : World) (ro : AH) (a0 : Option Addr) (a1 : Option Addr) (a2 : Sl) (x54_5 : Int) (x61_9 : Sl) (Q : Bool → AH → Prop) (Y4 : (Int) → AH → Prop) (x139_32 : Bool) (σ : AH) : Prop :=
 if x139_32 = true then
  Q false σ
 else
 lfpD (l33_law07_alike B ro a0 a1 a2 x54_5 x61_9 Q Y4 ) (0) σ

def j29_law07_alike (B : World) (ro : AH) (a0 : Option Addr) (a1 : Option Addr) (a2 : Sl) (x54_5 : Int) (x61_9 : Sl) (x87_21 : Sl) (x87_22 : Int) (x93_23 : Sl) (x93_24 : Int) (Q : Bool → AH → Prop) (Y4 : (Int) → AH → Prop) (x128_30 : Bool) (σ : AH) : Prop :=
 if (x128_30 = true) ∨ (¬ (x87_22 = x93_24)) then
  j31_law07_alike B ro a0 a1 a2 x54_5 x61_9 Q Y4 true σ
 else
 c_ref02_SameTexts B ro x87_21 x93_23 σ fun x137_38 σ =>
 j31_law07_alike B ro a0 a1 a2 x54_5 x61_9 Q Y4 (!x137_38) σ

def j27_law07_alike (B : World) (ro : AH) (a0 : Option Addr) (a1 : Option Addr) (a2 : Sl) (x54_5 : Int) (x61_9 : Sl) (x75_17 : Sl) (x75_18 : Int) (x81_19 : Sl) (x81_20 : Int) (x87_21 : Sl) (x87_22 : Int) (x93_23 : Sl) (x93_24 : Int) (Q : Bool → AH → Prop) (Y4 : (Int) → AH → Prop) (x117_28 : Bool) (σ : AH) : Prop :=
 if (x117_28 = true) ∨ (¬ (x75_18 = x81_20)) then
  j29_law07_alike B ro a0 a1 a2 x54_5 x61_9 x87_21 x87_22 x93_23 x93_24 Q Y4 true σ
 else
 c_ref02_SameTexts B ro x75_17 x81_19 σ fun x126_39 σ =>
 j29_law07_alike B ro a0 a1 a2 x54_5 x61_9 x87_21 x87_22 x93_23 x93_24 Q Y4 (!x126_39) σ

def j25_law07_alike (B : World) (ro : AH) (a0 : Option Addr) (a1 : Option Addr) (a2 : Sl) (x12_12 : Nat) (x14_16 : Nat) (x54_5 : Int) (x61_9 : Sl) (x68_14 : Int) (x75_17 : Sl) (x75_18 : Int) (x81_19 : Sl) (x81_20 : Int) (x87_21 : Sl) (x87_22 : Int) (x93_23 : Sl) (x93_24 : Int) (Q : Bool → AH → Prop) (Y4 : (Int) → AH → Prop) (x105_26 : Bool) (σ : AH) : Prop :=
 if x105_26 = true then
  j27_law07_alike B ro a0 a1 a2 x54_5 x61_9 x75_17 x75_18 x81_19 x81_20 x87_21 x87_22 x93_23 x93_24 Q Y4 true σ
 else
 ∃ (x107_40a : Int) (x107_40b : Int) (x107_40c : Int) (x107_40d : Int), cellsAt ro σ ⟨x12_12, 0, none⟩ 0 [.int .i64 x107_40a, .int .i64 x107_40b, .int .i64 x107_40c, .int .i64 x107_40d] ∧
 ∃ (x109_41 : Int), acell ro σ ((⟨x14_16, 0, none⟩ : Addr).add 2) = some (.int .i64 x109_41) ∧
 ∃ (x111_42 : Int), acell ro σ ((⟨x14_16, 0, none⟩ : Addr).add 3) = some (.int .i64 x111_42) ∧
 ∃ (x113_43 : Int), acell ro σ ((⟨x14_16, 0, none⟩ : Addr).add 4) = some (.int .i64 x113_43) ∧
 awp Tryz.prog ro (do eqGuard .neq 32 (.tmp 107) (.tmp 115) (.agg #[.int .i64 x107_40a, .int .i64 x107_40b, .int .i64 x107_40c, .int .i64 x107_40d]) (.agg #[.int .i64 x109_41, .int .i64 x111_42, .int .i64 x113_43, .int .i64 x68_14]); Go.binOp .neq 32 (.agg #[.int .i64 x107_40a, .int .i64 x107_40b, .int .i64 x107_40c, .int .i64 x107_40d]) (.agg #[.int .i64 x109_41, .int .i64 x111_42, .int .i64 x113_43, .int .i64 x68_14])) (fun v σ => ∃ x116_44 : Bool, v = .bool x116_44 ∧
  j27_law07_alike B ro a0 a1 a2 x54_5 x61_9 x75_17 x75_18 x81_19 x81_20 x87_21 x87_22 x93_23 x93_24 Q Y4 x116_44 σ) σ

def l4_law07_alike (B : World) (ro : AH) (a0 : Option Addr) (a1 : Option Addr) (a2 : Sl) (Q : Bool → AH → Prop) : (Int) → AH → ((Int) → AH → Prop) → Prop := fun x54_5 σ Y4 =>
 if x54_5 < (a2.len : Int) then
  ∃ p56_7 : Addr, a2.a = some p56_7 ∧ (0 : Int) ≤ x54_5 ∧ x54_5 < (a2.len : Int) ∧
  ∃ (x57_8 : ByteArray), acell ro σ (p56_7.add (Int.toNat x54_5 * 1)) = some (.string x57_8) ∧
  c_ztree_Tree_Get B ro a0 x57_8 σ fun x61_9 x61_10a x61_10b x61_10c x61_10d x61_11 σ =>
  nw ro σ (.cells #[.int .i64 0, .int .i64 0, .int .i64 0, .int .i64 0] 32) fun x12_12 σ =>
  stN ⟨x12_12, 0, none⟩ (fun σ =>
   c_ref07_Tree_Get B ro a1 x57_8 σ fun x68_13a x68_13b x68_13c x68_13d x68_13e x68_14 x68_15 σ =>
   nw ro σ (.cells #[.string ByteArray.empty, Sl.v (⟨none, 0, 0⟩ : Sl), .int .i64 0, .int .i64 0, .int .i64 0] 159) fun x14_16 σ =>
   stN ⟨x14_16, 0, none⟩ (fun σ =>
    c_ztree_Tree_Children B ro a0 x57_8 σ fun x75_17 x75_18 σ =>
    c_ref07_Tree_Children B ro a1 x57_8 σ fun x81_19 x81_20 σ =>
    c_ztree_Tree_Paths B ro a0 x57_8 σ fun x87_21 x87_22 σ =>
    c_ref07_Tree_Paths B ro a1 x57_8 σ fun x93_23 x93_24 σ =>
    if ¬ (x61_11 = x68_15) then
     j25_law07_alike B ro a0 a1 a2 x12_12 x14_16 x54_5 x61_9 x68_14 x75_17 x75_18 x81_19 x81_20 x87_21 x87_22 x93_23 x93_24 Q Y4 true σ
    else
    ∃ (x102_45 : Sl), acell ro σ ((⟨x14_16, 0, none⟩ : Addr).add 1) = some (Sl.v x102_45) ∧
    c_ref01_Same B ro x61_9 x102_45 σ fun x103_46 σ =>
    j25_law07_alike B ro a0 a1 a2 x12_12 x14_16 x54_5 x61_9 x68_14 x75_17 x75_18 x81_19 x81_20 x87_21 x87_22 x93_23 x93_24 Q Y4 (!x103_46) σ) [.string x68_13a, Sl.v x68_13b, .int .i64 x68_13c, .int .i64 x68_13d, .int .i64 x68_13e] 0 σ) [.int .i64 x61_10a, .int .i64 x61_10b, .int .i64 x61_10c, .int .i64 x61_10d] 0 σ
 else
 j3_law07_alike B ro Q σ

def j1_law07_alike (B : World) (ro : AH) (a0 : Option Addr) (a1 : Option Addr) (a2 : Sl) (Q : Bool → AH → Prop) (x51_2 : Bool) (σ : AH) : Prop :=
 if x51_2 = true then
  Q false σ
 else
 lfpD (l4_law07_alike B ro a0 a1 a2 Q ) (0) σ

def f_law07_alike (B : World) (ro : AH) (a0 : Option Addr) (a1 : Option Addr) (a2 : Sl) (a3 : Sl) (σ : AH) (Q : Bool → AH → Prop) : Prop :=
 lent σ fun ψ σ =>
  ∃ p29_47 : Addr, a1 = some p29_47 ∧
  ∃ (x31_48 : Sl), acell (join ro ψ) (fun _ => none) p29_47 = some (Sl.v x31_48) ∧
  c_ztree_Tree_Size B (join ro ψ) a0 σ fun x27_49 σ =>
  if ¬ (x27_49 = (x31_48.len : Int)) then
   if True then
    (Disj ψ σ → (fun σ => 
     j1_law07_alike B ro a0 a1 a2 Q true σ) (join ψ σ))
   else
   c_ztree_Tree_Encode B (join ro ψ) a0 σ fun x46_50 σ =>
   c_ref07_Tree_Encode B (join ro ψ) a1 σ fun x48_51 σ =>
   c_ref01_Same B (join ro ψ) x46_50 x48_51 σ fun x49_52 σ =>
   (Disj ψ σ → (fun σ => 
    j1_law07_alike B ro a0 a1 a2 Q (!x49_52) σ) (join ψ σ))
  else
  c_ztree_Tree_Owned B (join ro ψ) a0 a3 σ fun x37_53 σ =>
  c_ref07_Tree_Owned B (join ro ψ) a1 a3 σ fun x40_54 σ =>
  c_ref02_SameTexts B (join ro ψ) x37_53 x40_54 σ fun x41_55 σ =>
  if ¬ (x41_55 = true) then
   (Disj ψ σ → (fun σ => 
    j1_law07_alike B ro a0 a1 a2 Q true σ) (join ψ σ))
  else
  c_ztree_Tree_Encode B (join ro ψ) a0 σ fun x46_56 σ =>
  c_ref07_Tree_Encode B (join ro ψ) a1 σ fun x48_57 σ =>
  c_ref01_Same B (join ro ψ) x46_56 x48_57 σ fun x49_58 σ =>
  (Disj ψ σ → (fun σ => 
   j1_law07_alike B ro a0 a1 a2 Q (!x49_58) σ) (join ψ σ))

set_option maxRecDepth 100000 in
set_option maxHeartbeats 4000000 in
theorem law07_alike_ok {B : World} {ro : AH} {a0 : Option Addr} {a1 : Option Addr} {a2 : Sl} {a3 : Sl} {σ : AH} {Q : Bool → AH → Prop} (h : Sep ro σ → f_law07_alike B ro a0 a1 a2 a3 σ Q) : c_law07_alike B ro a0 a1 a2 a3 σ Q := by
  refine ACalls.of_sep fun hsep => ?_
  replace h := h hsep
  refine ACalls.of_body (args := [.pointer a0, .pointer a1, Sl.v a2, Sl.v a3]) Tryz.func29 rfl (by rw [Tryz.ntmps29]; simp) ?_
  rw [Tryz.ntmps29]
  unfold f_law07_alike at h
  refine AW.seq ?_
  refine AW.reg ?_
  refine Lp (V_asg rfl rfl) rfl rfl ?_
  refine Lnil ?_
  refine thenN ?_
  refine AW.seq ?_
  refine AW.seqJ (fun fr σ => ∃ (x51_2 : Bool), FrLe [(0, .pointer a0), (1, .pointer a1), (2, Sl.v a2), (51, .bool x51_2)] fr ∧ j1_law07_alike B ro a0 a1 a2 Q x51_2 σ) ?_ ?_
  rotate_left
  · refine AW.drawnL (fun i => ([0, 2, 0, 0, 0, 0, 0, 0, 0, 0, 0, 2, 0, 0, 2, 2, 0, 0, 0, 0, 2, 0, 2, 2, 0, 0] : List Nat).getD i 2) [(1, 8), (1, 9), (1, 11), (1, 12), (1, 14), (1, 15), (1, 17), (1, 18), (1, 19), (1, 20), (1, 21), (1, 22), (1, 23), (11, 15), (11, 16), (11, 17), (11, 18), (11, 19), (11, 20), (11, 21), (11, 22), (11, 23), (14, 15), (14, 16), (14, 17), (14, 18), (14, 19), (14, 20), (14, 21), (14, 22), (14, 23), (15, 18), (15, 19), (15, 20), (15, 21), (15, 22), (15, 23)] [0, 2, 3, 4, 5, 6, 1, 7, 8, 9, 10, 12, 13, 11, 14, 15, 16, 17, 18, 19, 21, 20, 22, 23, 24, 25] Tryz.mixed h (by decide +kernel) ?_
    clear h
    intro ψ σ h
    refine Dp rfl rfl rfl rfl (V_move rfl rfl) ?_
    refine Dp rfl rfl rfl rfl (V_move rfl rfl) ?_
    obtain ⟨p29_47, hc, h⟩ := h
    refine Dp rfl rfl rfl rfl (V_nil rfl (by rw [← hc]; rfl)) ?_
    refine Dp rfl rfl rfl rfl (V_fld rfl Tryz.underlying157 rfl ty155 (by decide) rfl) ?_
    obtain ⟨x31_48, hc, h⟩ := h
    refine Dp rfl rfl rfl rfl (V_ld rfl Tryz.underlying155 rfl rfl hc) ?_
    refine Dp rfl rfl rfl rfl (V_lenL rfl rfl Tryz.underlying155 rfl rfl) ?_
    refine Dg rfl rfl rfl rfl (X_call rfl Tryz.func16 rfl rfl rfl (ACalls.mono h ?_))
    rintro v σ ⟨x27_49, rfl, h⟩
    refine Dp rfl rfl rfl rfl (V_neq rfl rfl rfl) ?_
    refine Dp rfl rfl rfl rfl (V_move rfl rfl) ?_
    refine splitP (!(decide (x27_49 = (x31_48.len : Int)))) (bnot_iff decide_eq_true_iff) h ?_ ?_
    · intro h e8
      refine Dpn rfl rfl rfl rfl rfl (.inl (by rw [e8]; rfl)) rfl ?_
      refine Dpn rfl rfl rfl rfl rfl (.inl (by rw [e8]; rfl)) rfl ?_
      refine Dpn rfl rfl rfl rfl rfl (.inl (by rw [e8]; rfl)) rfl ?_
      refine Dpn rfl rfl rfl rfl rfl (.inl (by rw [e8]; rfl)) rfl ?_
      refine Dgn rfl rfl rfl rfl rfl (.inl (by rw [e8]; rfl)) rfl ?_
      refine Dgn rfl rfl rfl rfl rfl (.inl (by rw [e8]; rfl)) rfl ?_
      refine Dgn rfl rfl rfl rfl rfl (.inl (by rw [e8]; rfl)) rfl ?_
      refine Dpn rfl rfl rfl rfl rfl (.inl (by rw [e8]; rfl)) rfl ?_
      refine Dp rfl rfl rfl rfl (V_pickT rfl (evb e8) rfl) ?_
      refine Dp rfl rfl rfl rfl (V_move rfl rfl) ?_
      refine splitP true (by simp) h ?_ ?_
      · intro h e18
        refine Dpn rfl rfl rfl rfl rfl (.inl (by rw [e18]; rfl)) rfl ?_
        refine Dpn rfl rfl rfl rfl rfl (.inl (by rw [e18]; rfl)) rfl ?_
        refine Dgn rfl rfl rfl rfl rfl (.inl (by rw [e18]; rfl)) rfl ?_
        refine Dgn rfl rfl rfl rfl rfl (.inl (by rw [e18]; rfl)) rfl ?_
        refine Dgn rfl rfl rfl rfl rfl (.inl (by rw [e18]; rfl)) rfl ?_
        refine Dpn rfl rfl rfl rfl rfl (.inl (by rw [e18]; rfl)) rfl ?_
        refine Dp rfl rfl rfl rfl (V_pickT rfl (evb e18) rfl) ?_
        refine ⟨_, FrEq.refl _, fun hdj => ?_⟩
        replace h := h hdj
        refine thenN ?_
        exact ⟨_, (FrLe.cons rfl (FrLe.cons rfl (FrLe.cons rfl (FrLe.cons rfl (FrLe.nil _))))), h⟩
      intro h e18
      refine Dpy rfl rfl rfl rfl rfl e18 rfl (V_move rfl rfl) ?_
      refine Dpy rfl rfl rfl rfl rfl e18 rfl (V_move rfl rfl) ?_
      refine Dgy rfl rfl rfl rfl rfl e18 rfl (X_call rfl Tryz.func21 rfl rfl rfl (ACalls.mono h ?_))
      rintro v σ ⟨x46_50, rfl, h⟩
      refine Dgy rfl rfl rfl rfl rfl e18 rfl (X_call rfl Tryz.func48 rfl rfl rfl (ACalls.mono h ?_))
      rintro v σ ⟨x48_51, rfl, h⟩
      refine Dgy rfl rfl rfl rfl rfl e18 rfl (X_call rfl Tryz.func26 rfl rfl rfl (ACalls.mono h ?_))
      rintro v σ ⟨x49_52, rfl, h⟩
      refine Dpy rfl rfl rfl rfl rfl e18 rfl (V_not rfl rfl) ?_
      refine Dp rfl rfl rfl rfl (V_pickF rfl (evb e18) rfl) ?_
      refine ⟨_, FrEq.refl _, fun hdj => ?_⟩
      replace h := h hdj
      refine thenN ?_
      exact ⟨_, (FrLe.cons rfl (FrLe.cons rfl (FrLe.cons rfl (FrLe.cons rfl (FrLe.nil _))))), h⟩
    intro h e8
    refine Dpy rfl rfl rfl rfl rfl e8 rfl (V_move rfl rfl) ?_
    refine Dpy rfl rfl rfl rfl rfl e8 rfl (V_move rfl rfl) ?_
    refine Dpy rfl rfl rfl rfl rfl e8 rfl (V_move rfl rfl) ?_
    refine Dpy rfl rfl rfl rfl rfl e8 rfl (V_move rfl rfl) ?_
    refine Dgy rfl rfl rfl rfl rfl e8 rfl (X_call rfl Tryz.func87 rfl rfl rfl (ACalls.mono h ?_))
    rintro v σ ⟨x37_53, rfl, h⟩
    refine Dgy rfl rfl rfl rfl rfl e8 rfl (X_call rfl Tryz.func88 rfl rfl rfl (ACalls.mono h ?_))
    rintro v σ ⟨x40_54, rfl, h⟩
    refine Dgy rfl rfl rfl rfl rfl e8 rfl (X_call rfl Tryz.func86 rfl rfl rfl (ACalls.mono h ?_))
    rintro v σ ⟨x41_55, rfl, h⟩
    refine Dpy rfl rfl rfl rfl rfl e8 rfl (V_not rfl rfl) ?_
    refine Dp rfl rfl rfl rfl (V_pickF rfl (evb e8) rfl) ?_
    refine Dp rfl rfl rfl rfl (V_move rfl rfl) ?_
    refine splitP (!x41_55) (bnot_iff Iff.rfl) h ?_ ?_
    · intro h e18
      refine Dpn rfl rfl rfl rfl rfl (.inl (by rw [e18]; rfl)) rfl ?_
      refine Dpn rfl rfl rfl rfl rfl (.inl (by rw [e18]; rfl)) rfl ?_
      refine Dgn rfl rfl rfl rfl rfl (.inl (by rw [e18]; rfl)) rfl ?_
      refine Dgn rfl rfl rfl rfl rfl (.inl (by rw [e18]; rfl)) rfl ?_
      refine Dgn rfl rfl rfl rfl rfl (.inl (by rw [e18]; rfl)) rfl ?_
      refine Dpn rfl rfl rfl rfl rfl (.inl (by rw [e18]; rfl)) rfl ?_
      refine Dp rfl rfl rfl rfl (V_pickT rfl (evb e18) rfl) ?_
      refine ⟨_, FrEq.refl _, fun hdj => ?_⟩
      replace h := h hdj
      refine thenN ?_
      exact ⟨_, (FrLe.cons rfl (FrLe.cons rfl (FrLe.cons rfl (FrLe.cons rfl (FrLe.nil _))))), h⟩
    intro h e18
    refine Dpy rfl rfl rfl rfl rfl e18 rfl (V_move rfl rfl) ?_
    refine Dpy rfl rfl rfl rfl rfl e18 rfl (V_move rfl rfl) ?_
    refine Dgy rfl rfl rfl rfl rfl e18 rfl (X_call rfl Tryz.func21 rfl rfl rfl (ACalls.mono h ?_))
    rintro v σ ⟨x46_56, rfl, h⟩
    refine Dgy rfl rfl rfl rfl rfl e18 rfl (X_call rfl Tryz.func48 rfl rfl rfl (ACalls.mono h ?_))
    rintro v σ ⟨x48_57, rfl, h⟩
    refine Dgy rfl rfl rfl rfl rfl e18 rfl (X_call rfl Tryz.func26 rfl rfl rfl (ACalls.mono h ?_))
    rintro v σ ⟨x49_58, rfl, h⟩
    refine Dpy rfl rfl rfl rfl rfl e18 rfl (V_not rfl rfl) ?_
    refine Dp rfl rfl rfl rfl (V_pickF rfl (evb e18) rfl) ?_
    refine ⟨_, FrEq.refl _, fun hdj => ?_⟩
    replace h := h hdj
    refine thenN ?_
    exact ⟨_, (FrLe.cons rfl (FrLe.cons rfl (FrLe.cons rfl (FrLe.cons rfl (FrLe.nil _))))), h⟩
  rintro fr σ ⟨x51_2, hl, h⟩
  refine AW.weaken ?_ hl (HLe.refl _)
  unfold j1_law07_alike at h
  refine AW.iff rfl Iff.rfl h (fun h => ?_) (fun h => ?_)
  · refine AW.seq ?_
    refine AW.reg ?_
    refine Lp (V_asg rfl rfl) rfl rfl ?_
    refine Lnil ?_
    refine thenN ?_
    refine AW.ret ?_
    refine thenR ?_
    exact bR1 Tryz.results29 rfl ⟨_, rfl, h⟩
  refine AW.skip ?_
  refine thenN ?_
  refine AW.seqJ (fun fr σ => FrLe [] fr ∧ j3_law07_alike B ro Q σ) ?_ ?_
  · rintro fr σ ⟨hl, h⟩
    refine AW.weaken ?_ hl (HLe.refl _)
    unfold j3_law07_alike at h
    refine AW.seq ?_
    refine AW.reg ?_
    refine Lp (V_asg rfl rfl) rfl rfl ?_
    refine Lnil ?_
    refine thenN ?_
    refine AW.ret ?_
    exact bR1 Tryz.results29 rfl ⟨_, rfl, h⟩
  refine AW.seq ?_
  refine AW.reg ?_
  refine Lp (V_move rfl rfl) rfl rfl ?_
  refine Lp (V_lenL rfl rfl Tryz.underlying25 rfl rfl) rfl rfl ?_
  refine Lp (V_move rfl rfl) rfl rfl ?_
  refine Lnil ?_
  refine thenN ?_
  refine AW.block ?_
  refine ARound.loop (fr' := [(0, .pointer a0), (1, .pointer a1), (52, Sl.v a2), (53, .int .i64 (a2.len : Int)), (54, .int .i64 0)]) ?_ (FrLe.cons rfl (FrLe.cons rfl (FrLe.cons rfl (FrLe.cons rfl (FrLe.cons rfl (FrLe.nil _))))))
  refine h (fun x54_5 σ => ARound _ _ _ _ _ _ [(0, .pointer a0), (1, .pointer a1), (52, Sl.v a2), (53, .int .i64 (a2.len : Int)), (54, .int .i64 x54_5)] σ) ?_
  rintro x54_5 σ Y4 hY4 h
  show AW _ _ _ _ _ _ _ _
  unfold l4_law07_alike at h
  refine AW.seq ?_
  refine AW.reg ?_
  refine Lp (V_lss rfl rfl rfl) rfl rfl ?_
  refine Lnil ?_
  refine thenN ?_
  refine AW.seq ?_
  refine AW.iff rfl decide_eq_true_iff h (fun h => ?_) (fun h => ?_)
  rotate_left
  · refine AW.exit ?_
    refine thenE ?_
    refine thenE ?_
    refine blockE ?_
    refine thenN ?_
    exact ⟨(FrLe.nil _), h⟩
  refine AW.skip ?_
  refine thenN ?_
  refine AW.seqJ (fun fr σ => FrLe [(0, .pointer a0), (1, .pointer a1), (52, Sl.v a2), (53, .int .i64 (a2.len : Int)), (54, .int .i64 x54_5)] fr ∧ j6_law07_alike B ro a0 a1 a2 x54_5 Q Y4 σ) ?_ ?_
  · rintro fr σ ⟨hl, h⟩
    refine AW.weaken ?_ hl (HLe.refl _)
    unfold j6_law07_alike at h
    refine AW.reg ?_
    refine Lp (V_add rfl rfl rfl) rfl rfl ?_
    refine Lp (V_move rfl rfl) rfl rfl ?_
    refine Lnil ?_
    refine thenN ?_
    refine ARound.head (fr' := [(0, .pointer a0), (1, .pointer a1), (52, Sl.v a2), (53, .int .i64 (a2.len : Int)), (54, .int .i64 (IntKind.i64.wrap (x54_5 + 1)))]) ?_ (FrLe.cons rfl (FrLe.cons rfl (FrLe.cons rfl (FrLe.cons rfl (FrLe.cons rfl (FrLe.nil _))))))
    exact hY4 _ _ h
  refine AW.block ?_
  refine AW.seq ?_
  refine AW.reg ?_
  obtain ⟨p56_7, ha, h0, h1, h⟩ := h
  refine Lp (V_ixA rfl Tryz.underlying25 ty9 (ixL rfl ha) rfl h0 h1) rfl rfl ?_
  obtain ⟨x57_8, hc, h⟩ := h
  refine Ls rfl rfl (X_ld rfl Tryz.underlying9 rfl rfl hc ?_)
  refine Lp (V_asg rfl rfl) rfl rfl ?_
  refine Lnil ?_
  refine thenN ?_
  refine AW.seq ?_
  refine AW.reg ?_
  refine Lp (V_move rfl rfl) rfl rfl ?_
  refine Lp (V_move rfl rfl) rfl rfl ?_
  refine Ls rfl rfl (X_call rfl Tryz.func17 rfl rfl rfl (ACalls.mono h ?_))
  rintro v σ ⟨x61_9, x61_10a, x61_10b, x61_10c, x61_10d, x61_11, rfl, h⟩
  refine Lp (V_move rfl rfl) rfl rfl ?_
  refine Lp (V_ext rfl rfl rfl) rfl rfl ?_
  refine Lp (V_ext rfl rfl rfl) rfl rfl ?_
  refine Lp (V_ext rfl rfl rfl) rfl rfl ?_
  refine Ls rfl rfl (X_new (A_alloc rfl ty32) fun x12_12 g1 g2 => ?_)
  replace h := h x12_12 g1 g2
  refine Lp (V_asg rfl rfl) rfl rfl ?_
  refine Ls rfl rfl (X_st rfl ty32 rfl rfl rfl rfl (stN_mono h fun σ h => ?_))
  refine Lp (V_asg rfl rfl) rfl rfl ?_
  refine Lnil ?_
  refine thenN ?_
  refine AW.seq ?_
  refine AW.reg ?_
  refine Lp (V_move rfl rfl) rfl rfl ?_
  refine Lp (V_move rfl rfl) rfl rfl ?_
  refine Ls rfl rfl (X_call rfl Tryz.func89 rfl rfl rfl (ACalls.mono h ?_))
  rintro v σ ⟨x68_13a, x68_13b, x68_13c, x68_13d, x68_13e, x68_14, x68_15, rfl, h⟩
  refine Lp (V_move rfl rfl) rfl rfl ?_
  refine Lp (V_ext rfl rfl rfl) rfl rfl ?_
  refine Lp (V_ext rfl rfl rfl) rfl rfl ?_
  refine Lp (V_ext rfl rfl rfl) rfl rfl ?_
  refine Ls rfl rfl (X_new (A_alloc rfl ty159) fun x14_16 g1 g2 => ?_)
  replace h := h x14_16 g1 g2
  refine Ls rfl rfl (X_st rfl ty159 rfl rfl rfl rfl (stN_mono h fun σ h => ?_))
  refine Lp (V_asg rfl rfl) rfl rfl ?_
  refine Lp (V_asg rfl rfl) rfl rfl ?_
  refine Lnil ?_
  refine thenN ?_
  refine AW.seq ?_
  refine AW.reg ?_
  refine Lp (V_move rfl rfl) rfl rfl ?_
  refine Lp (V_move rfl rfl) rfl rfl ?_
  refine Ls rfl rfl (X_call rfl Tryz.func18 rfl rfl rfl (ACalls.mono h ?_))
  rintro v σ ⟨x75_17, x75_18, rfl, h⟩
  refine Lp (V_move rfl rfl) rfl rfl ?_
  refine Lp (V_ext rfl rfl rfl) rfl rfl ?_
  refine Lp (V_ext rfl rfl rfl) rfl rfl ?_
  refine Lp (V_asg rfl rfl) rfl rfl ?_
  refine Lp (V_asg rfl rfl) rfl rfl ?_
  refine Lnil ?_
  refine thenN ?_
  refine AW.seq ?_
  refine AW.reg ?_
  refine Lp (V_move rfl rfl) rfl rfl ?_
  refine Lp (V_move rfl rfl) rfl rfl ?_
  refine Ls rfl rfl (X_call rfl Tryz.func90 rfl rfl rfl (ACalls.mono h ?_))
  rintro v σ ⟨x81_19, x81_20, rfl, h⟩
  refine Lp (V_move rfl rfl) rfl rfl ?_
  refine Lp (V_ext rfl rfl rfl) rfl rfl ?_
  refine Lp (V_ext rfl rfl rfl) rfl rfl ?_
  refine Lp (V_asg rfl rfl) rfl rfl ?_
  refine Lp (V_asg rfl rfl) rfl rfl ?_
  refine Lnil ?_
  refine thenN ?_
  refine AW.seq ?_
  refine AW.reg ?_
  refine Lp (V_move rfl rfl) rfl rfl ?_
  refine Lp (V_move rfl rfl) rfl rfl ?_
  refine Ls rfl rfl (X_call rfl Tryz.func15 rfl rfl rfl (ACalls.mono h ?_))
  rintro v σ ⟨x87_21, x87_22, rfl, h⟩
  refine Lp (V_move rfl rfl) rfl rfl ?_
  refine Lp (V_ext rfl rfl rfl) rfl rfl ?_
  refine Lp (V_ext rfl rfl rfl) rfl rfl ?_
  refine Lp (V_asg rfl rfl) rfl rfl ?_
  refine Lp (V_asg rfl rfl) rfl rfl ?_
  refine Lnil ?_
  refine thenN ?_
  refine AW.seq ?_
  refine AW.reg ?_
  refine Lp (V_move rfl rfl) rfl rfl ?_
  refine Lp (V_move rfl rfl) rfl rfl ?_
  refine Ls rfl rfl (X_call rfl Tryz.func91 rfl rfl rfl (ACalls.mono h ?_))
  rintro v σ ⟨x93_23, x93_24, rfl, h⟩
  refine Lp (V_move rfl rfl) rfl rfl ?_
  refine Lp (V_ext rfl rfl rfl) rfl rfl ?_
  refine Lp (V_ext rfl rfl rfl) rfl rfl ?_
  refine Lp (V_asg rfl rfl) rfl rfl ?_
  refine Lp (V_asg rfl rfl) rfl rfl ?_
  refine Lnil ?_
  refine thenN ?_
  refine AW.seq ?_
  refine AW.seq ?_
  refine AW.reg ?_
  refine Lp (V_move rfl rfl) rfl rfl ?_
  refine Lp (V_move rfl rfl) rfl rfl ?_
  refine Lp (V_neq rfl rfl rfl) rfl rfl ?_
  refine Lp (V_move rfl rfl) rfl rfl ?_
  refine LsplitJ 6 (!(decide (x61_11 = x68_15))) (bnot_iff decide_eq_true_iff) h (fun fr σ => ∃ (x105_26 : Bool), FrLe [(0, .pointer a0), (1, .pointer a1), (11, Sl.v x61_9), (12, .pointer (some ⟨x12_12, 0, none⟩)), (14, .pointer (some ⟨x14_16, 0, none⟩)), (15, .int .i64 x68_14), (17, Sl.v x75_17), (18, .int .i64 x75_18), (19, Sl.v x81_19), (20, .int .i64 x81_20), (21, Sl.v x87_21), (22, .int .i64 x87_22), (23, Sl.v x93_23), (24, .int .i64 x93_24), (52, Sl.v a2), (53, .int .i64 (a2.len : Int)), (54, .int .i64 x54_5), (105, .bool x105_26)] fr ∧ j25_law07_alike B ro a0 a1 a2 x12_12 x14_16 x54_5 x61_9 x68_14 x75_17 x75_18 x81_19 x81_20 x87_21 x87_22 x93_23 x93_24 Q Y4 x105_26 σ) ?_ ?_ ?_
  · intro h e3 hk3
    refine Ln rfl rfl rfl rfl (.inl (by rw [e3]; rfl)) ?_
    refine Ln rfl rfl rfl rfl (.inl (by rw [e3]; rfl)) ?_
    refine Ln rfl rfl rfl rfl (.inl (by rw [e3]; rfl)) ?_
    refine Ln rfl rfl rfl rfl (.inl (by rw [e3]; rfl)) ?_
    refine Ln rfl rfl rfl rfl (.inl (by rw [e3]; rfl)) ?_
    refine Lp (V_pickT rfl (evb e3) rfl) rfl rfl ?_
    exact hk3 _ _ ⟨_, (FrLe.cons rfl (FrLe.cons rfl (FrLe.cons rfl (FrLe.cons rfl (FrLe.cons rfl (FrLe.cons rfl (FrLe.cons rfl (FrLe.cons rfl (FrLe.cons rfl (FrLe.cons rfl (FrLe.cons rfl (FrLe.cons rfl (FrLe.cons rfl (FrLe.cons rfl (FrLe.cons rfl (FrLe.cons rfl (FrLe.cons rfl (FrLe.cons rfl (FrLe.nil _))))))))))))))))))), h⟩
  · intro h e3 hk3
    refine Lypb (V_move rfl rfl) rfl rfl rfl rfl e3 ?_
    refine Lypb (V_fld rfl Tryz.underlying159 rfl ty30 (by decide) rfl) rfl rfl rfl rfl e3 ?_
    obtain ⟨x102_45, hc, h⟩ := h
    refine Lyb rfl rfl rfl rfl e3 (X_ld rfl Tryz.underlying30 rfl rfl hc ?_)
    refine Lyb rfl rfl rfl rfl e3 (X_call rfl Tryz.func26 rfl rfl rfl (ACalls.mono h ?_))
    rintro v σ ⟨x103_46, rfl, h⟩
    refine Lypb (V_not rfl rfl) rfl rfl rfl rfl e3 ?_
    refine Lp (V_pickF rfl (evb e3) rfl) rfl rfl ?_
    exact hk3 _ _ ⟨_, (FrLe.cons rfl (FrLe.cons rfl (FrLe.cons rfl (FrLe.cons rfl (FrLe.cons rfl (FrLe.cons rfl (FrLe.cons rfl (FrLe.cons rfl (FrLe.cons rfl (FrLe.cons rfl (FrLe.cons rfl (FrLe.cons rfl (FrLe.cons rfl (FrLe.cons rfl (FrLe.cons rfl (FrLe.cons rfl (FrLe.cons rfl (FrLe.cons rfl (FrLe.nil _))))))))))))))))))), h⟩
  rintro fr σ ⟨x105_26, hl, h⟩
  unfold j25_law07_alike at h
  refine Lfr hl ?_
  refine Lp (V_move rfl rfl) rfl rfl ?_
  refine LsplitJ 11 x105_26 Iff.rfl h (fun fr σ => ∃ (x117_28 : Bool), FrLe [(0, .pointer a0), (1, .pointer a1), (11, Sl.v x61_9), (17, Sl.v x75_17), (18, .int .i64 x75_18), (19, Sl.v x81_19), (20, .int .i64 x81_20), (21, Sl.v x87_21), (22, .int .i64 x87_22), (23, Sl.v x93_23), (24, .int .i64 x93_24), (52, Sl.v a2), (53, .int .i64 (a2.len : Int)), (54, .int .i64 x54_5), (117, .bool x117_28)] fr ∧ j27_law07_alike B ro a0 a1 a2 x54_5 x61_9 x75_17 x75_18 x81_19 x81_20 x87_21 x87_22 x93_23 x93_24 Q Y4 x117_28 σ) ?_ ?_ ?_
  · intro h e10 hk10
    refine Ln rfl rfl rfl rfl (.inl (by rw [e10]; rfl)) ?_
    refine Ln rfl rfl rfl rfl (.inl (by rw [e10]; rfl)) ?_
    refine Ln rfl rfl rfl rfl (.inl (by rw [e10]; rfl)) ?_
    refine Ln rfl rfl rfl rfl (.inl (by rw [e10]; rfl)) ?_
    refine Ln rfl rfl rfl rfl (.inl (by rw [e10]; rfl)) ?_
    refine Ln rfl rfl rfl rfl (.inl (by rw [e10]; rfl)) ?_
    refine Ln rfl rfl rfl rfl (.inl (by rw [e10]; rfl)) ?_
    refine Ln rfl rfl rfl rfl (.inl (by rw [e10]; rfl)) ?_
    refine Ln rfl rfl rfl rfl (.inl (by rw [e10]; rfl)) ?_
    refine Ln rfl rfl rfl rfl (.inl (by rw [e10]; rfl)) ?_
    refine Lp (V_pickT rfl (evb e10) rfl) rfl rfl ?_
    exact hk10 _ _ ⟨_, (FrLe.cons rfl (FrLe.cons rfl (FrLe.cons rfl (FrLe.cons rfl (FrLe.cons rfl (FrLe.cons rfl (FrLe.cons rfl (FrLe.cons rfl (FrLe.cons rfl (FrLe.cons rfl (FrLe.cons rfl (FrLe.cons rfl (FrLe.cons rfl (FrLe.cons rfl (FrLe.cons rfl (FrLe.nil _)))))))))))))))), h⟩
  · intro h e10 hk10
    obtain ⟨x107_40a, x107_40b, x107_40c, x107_40d, hc, h⟩ := h
    refine Lyb rfl rfl rfl rfl e10 (X_lda rfl Tryz.underlying32 rfl ty32 rfl hc ?_)
    refine Lypb (V_fld rfl Tryz.underlying159 rfl ty3 (by decide) rfl) rfl rfl rfl rfl e10 ?_
    obtain ⟨x109_41, hc, h⟩ := h
    refine Lyb rfl rfl rfl rfl e10 (X_ld rfl Tryz.underlying3 rfl rfl hc ?_)
    refine Lypb (V_fld rfl Tryz.underlying159 rfl ty3 (by decide) rfl) rfl rfl rfl rfl e10 ?_
    obtain ⟨x111_42, hc, h⟩ := h
    refine Lyb rfl rfl rfl rfl e10 (X_ld rfl Tryz.underlying3 rfl rfl hc ?_)
    refine Lypb (V_fld rfl Tryz.underlying159 rfl ty3 (by decide) rfl) rfl rfl rfl rfl e10 ?_
    obtain ⟨x113_43, hc, h⟩ := h
    refine Lyb rfl rfl rfl rfl e10 (X_ld rfl Tryz.underlying3 rfl rfl hc ?_)
    refine Lypb (V_move rfl rfl) rfl rfl rfl rfl e10 ?_
    refine Lypb (V_bld (vs := [(0, .int .i64 x109_41), (1, .int .i64 x111_42), (2, .int .i64 x113_43), (3, .int .i64 x68_14)]) (cs := #[.int .i64 x109_41, .int .i64 x111_42, .int .i64 x113_43, .int .i64 x68_14]) rfl Tryz.underlying32 ty32 pl32 rfl rfl) rfl rfl rfl rfl e10 ?_
    refine Lyb rfl rfl rfl rfl e10 (X_eq rfl rfl rfl (awp_mono _ h ?_))
    rintro v σ ⟨x116_44, rfl, h⟩
    refine Lp (V_pickF rfl (evb e10) rfl) rfl rfl ?_
    exact hk10 _ _ ⟨_, (FrLe.cons rfl (FrLe.cons rfl (FrLe.cons rfl (FrLe.cons rfl (FrLe.cons rfl (FrLe.cons rfl (FrLe.cons rfl (FrLe.cons rfl (FrLe.cons rfl (FrLe.cons rfl (FrLe.cons rfl (FrLe.cons rfl (FrLe.cons rfl (FrLe.cons rfl (FrLe.cons rfl (FrLe.nil _)))))))))))))))), h⟩
  rintro fr σ ⟨x117_28, hl, h⟩
  unfold j27_law07_alike at h
  refine Lfr hl ?_
  refine Lp (V_move rfl rfl) rfl rfl ?_
  refine Lsplit 4 x117_28 [(0, .pointer a0), (1, .pointer a1), (11, Sl.v x61_9), (17, Sl.v x75_17), (19, Sl.v x81_19), (21, Sl.v x87_21), (22, .int .i64 x87_22), (23, Sl.v x93_23), (24, .int .i64 x93_24), (52, Sl.v a2), (53, .int .i64 (a2.len : Int)), (54, .int .i64 x54_5), (122, .bool (x117_28 || (!(decide (x75_18 = x81_20)))))] ?_ ?_ ?_
  · intro e22 hk22
    refine Ln rfl rfl rfl rfl (.inl (by rw [e22]; rfl)) ?_
    refine Ln rfl rfl rfl rfl (.inl (by rw [e22]; rfl)) ?_
    refine Ln rfl rfl rfl rfl (.inl (by rw [e22]; rfl)) ?_
    refine Lp (V_pickT rfl (evb e22) rfl) rfl rfl ?_
    exact hk22 _ (FrLe.cons rfl (FrLe.cons rfl (FrLe.cons rfl (FrLe.cons rfl (FrLe.cons rfl (FrLe.cons rfl (FrLe.cons rfl (FrLe.cons rfl (FrLe.cons rfl (FrLe.cons rfl (FrLe.cons rfl (FrLe.cons rfl (FrLe.cons (by rw [e22]; rfl) (FrLe.nil _))))))))))))))
  · intro e22 hk22
    refine Lypb (V_move rfl rfl) rfl rfl rfl rfl e22 ?_
    refine Lypb (V_move rfl rfl) rfl rfl rfl rfl e22 ?_
    refine Lypb (V_neq rfl rfl rfl) rfl rfl rfl rfl e22 ?_
    refine Lp (V_pickF rfl (evb e22) rfl) rfl rfl ?_
    exact hk22 _ (FrLe.cons rfl (FrLe.cons rfl (FrLe.cons rfl (FrLe.cons rfl (FrLe.cons rfl (FrLe.cons rfl (FrLe.cons rfl (FrLe.cons rfl (FrLe.cons rfl (FrLe.cons rfl (FrLe.cons rfl (FrLe.cons rfl (FrLe.cons (by rw [e22]; rfl) (FrLe.nil _))))))))))))))
  intro fr hl
  refine Lfr hl ?_
  refine Lp (V_move rfl rfl) rfl rfl ?_
  refine LsplitJ 5 (x117_28 || (!(decide (x75_18 = x81_20)))) (bor_iff Iff.rfl (bnot_iff decide_eq_true_iff)) h (fun fr σ => ∃ (x128_30 : Bool), FrLe [(0, .pointer a0), (1, .pointer a1), (11, Sl.v x61_9), (21, Sl.v x87_21), (22, .int .i64 x87_22), (23, Sl.v x93_23), (24, .int .i64 x93_24), (52, Sl.v a2), (53, .int .i64 (a2.len : Int)), (54, .int .i64 x54_5), (128, .bool x128_30)] fr ∧ j29_law07_alike B ro a0 a1 a2 x54_5 x61_9 x87_21 x87_22 x93_23 x93_24 Q Y4 x128_30 σ) ?_ ?_ ?_
  · intro h e27 hk27
    refine Ln rfl rfl rfl rfl (.inl (by rw [e27]; rfl)) ?_
    refine Ln rfl rfl rfl rfl (.inl (by rw [e27]; rfl)) ?_
    refine Ln rfl rfl rfl rfl (.inl (by rw [e27]; rfl)) ?_
    refine Ln rfl rfl rfl rfl (.inl (by rw [e27]; rfl)) ?_
    refine Lp (V_pickT rfl (evb e27) rfl) rfl rfl ?_
    exact hk27 _ _ ⟨_, (FrLe.cons rfl (FrLe.cons rfl (FrLe.cons rfl (FrLe.cons rfl (FrLe.cons rfl (FrLe.cons rfl (FrLe.cons rfl (FrLe.cons rfl (FrLe.cons rfl (FrLe.cons rfl (FrLe.cons rfl (FrLe.nil _)))))))))))), h⟩
  · intro h e27 hk27
    refine Lypb (V_move rfl rfl) rfl rfl rfl rfl e27 ?_
    refine Lypb (V_move rfl rfl) rfl rfl rfl rfl e27 ?_
    refine Lyb rfl rfl rfl rfl e27 (X_call rfl Tryz.func86 rfl rfl rfl (ACalls.mono h ?_))
    rintro v σ ⟨x126_39, rfl, h⟩
    refine Lypb (V_not rfl rfl) rfl rfl rfl rfl e27 ?_
    refine Lp (V_pickF rfl (evb e27) rfl) rfl rfl ?_
    exact hk27 _ _ ⟨_, (FrLe.cons rfl (FrLe.cons rfl (FrLe.cons rfl (FrLe.cons rfl (FrLe.cons rfl (FrLe.cons rfl (FrLe.cons rfl (FrLe.cons rfl (FrLe.cons rfl (FrLe.cons rfl (FrLe.cons rfl (FrLe.nil _)))))))))))), h⟩
  rintro fr σ ⟨x128_30, hl, h⟩
  unfold j29_law07_alike at h
  refine Lfr hl ?_
  refine Lp (V_move rfl rfl) rfl rfl ?_
  refine Lsplit 4 x128_30 [(0, .pointer a0), (1, .pointer a1), (11, Sl.v x61_9), (21, Sl.v x87_21), (23, Sl.v x93_23), (52, Sl.v a2), (53, .int .i64 (a2.len : Int)), (54, .int .i64 x54_5), (133, .bool (x128_30 || (!(decide (x87_22 = x93_24)))))] ?_ ?_ ?_
  · intro e33 hk33
    refine Ln rfl rfl rfl rfl (.inl (by rw [e33]; rfl)) ?_
    refine Ln rfl rfl rfl rfl (.inl (by rw [e33]; rfl)) ?_
    refine Ln rfl rfl rfl rfl (.inl (by rw [e33]; rfl)) ?_
    refine Lp (V_pickT rfl (evb e33) rfl) rfl rfl ?_
    exact hk33 _ (FrLe.cons rfl (FrLe.cons rfl (FrLe.cons rfl (FrLe.cons rfl (FrLe.cons rfl (FrLe.cons rfl (FrLe.cons rfl (FrLe.cons rfl (FrLe.cons (by rw [e33]; rfl) (FrLe.nil _))))))))))
  · intro e33 hk33
    refine Lypb (V_move rfl rfl) rfl rfl rfl rfl e33 ?_
    refine Lypb (V_move rfl rfl) rfl rfl rfl rfl e33 ?_
    refine Lypb (V_neq rfl rfl rfl) rfl rfl rfl rfl e33 ?_
    refine Lp (V_pickF rfl (evb e33) rfl) rfl rfl ?_
    exact hk33 _ (FrLe.cons rfl (FrLe.cons rfl (FrLe.cons rfl (FrLe.cons rfl (FrLe.cons rfl (FrLe.cons rfl (FrLe.cons rfl (FrLe.cons rfl (FrLe.cons (by rw [e33]; rfl) (FrLe.nil _))))))))))
  intro fr hl
  refine Lfr hl ?_
  refine Lp (V_move rfl rfl) rfl rfl ?_
  refine LsplitJ 5 (x128_30 || (!(decide (x87_22 = x93_24)))) (bor_iff Iff.rfl (bnot_iff decide_eq_true_iff)) h (fun fr σ => ∃ (x139_32 : Bool), FrLe [(0, .pointer a0), (1, .pointer a1), (11, Sl.v x61_9), (52, Sl.v a2), (53, .int .i64 (a2.len : Int)), (54, .int .i64 x54_5), (139, .bool x139_32)] fr ∧ j31_law07_alike B ro a0 a1 a2 x54_5 x61_9 Q Y4 x139_32 σ) ?_ ?_ ?_
  · intro h e38 hk38
    refine Ln rfl rfl rfl rfl (.inl (by rw [e38]; rfl)) ?_
    refine Ln rfl rfl rfl rfl (.inl (by rw [e38]; rfl)) ?_
    refine Ln rfl rfl rfl rfl (.inl (by rw [e38]; rfl)) ?_
    refine Ln rfl rfl rfl rfl (.inl (by rw [e38]; rfl)) ?_
    refine Lp (V_pickT rfl (evb e38) rfl) rfl rfl ?_
    exact hk38 _ _ ⟨_, (FrLe.cons rfl (FrLe.cons rfl (FrLe.cons rfl (FrLe.cons rfl (FrLe.cons rfl (FrLe.cons rfl (FrLe.cons rfl (FrLe.nil _)))))))), h⟩
  · intro h e38 hk38
    refine Lypb (V_move rfl rfl) rfl rfl rfl rfl e38 ?_
    refine Lypb (V_move rfl rfl) rfl rfl rfl rfl e38 ?_
    refine Lyb rfl rfl rfl rfl e38 (X_call rfl Tryz.func86 rfl rfl rfl (ACalls.mono h ?_))
    rintro v σ ⟨x137_38, rfl, h⟩
    refine Lypb (V_not rfl rfl) rfl rfl rfl rfl e38 ?_
    refine Lp (V_pickF rfl (evb e38) rfl) rfl rfl ?_
    exact hk38 _ _ ⟨_, (FrLe.cons rfl (FrLe.cons rfl (FrLe.cons rfl (FrLe.cons rfl (FrLe.cons rfl (FrLe.cons rfl (FrLe.cons rfl (FrLe.nil _)))))))), h⟩
  rintro fr σ ⟨x139_32, hl, h⟩
  unfold j31_law07_alike at h
  refine Lfr hl ?_
  refine Lnil ?_
  refine thenN ?_
  refine AW.iff rfl Iff.rfl h (fun h => ?_) (fun h => ?_)
  · refine AW.seq ?_
    refine AW.reg ?_
    refine Lp (V_asg rfl rfl) rfl rfl ?_
    refine Lnil ?_
    refine thenN ?_
    refine AW.ret ?_
    refine thenR ?_
    refine blockR ?_
    refine thenR ?_
    refine thenR ?_
    refine blockR ?_
    refine thenR ?_
    exact bR1 Tryz.results29 rfl ⟨_, rfl, h⟩
  refine AW.skip ?_
  refine thenN ?_
  refine AW.seq ?_
  refine AW.reg ?_
  refine Lp (V_move rfl rfl) rfl rfl ?_
  refine Lp (V_lenL rfl rfl Tryz.underlying30 rfl rfl) rfl rfl ?_
  refine Lp (V_move rfl rfl) rfl rfl ?_
  refine Lnil ?_
  refine thenN ?_
  refine AW.block ?_
  refine ARound.loop (fr' := [(0, .pointer a0), (1, .pointer a1), (11, Sl.v x61_9), (52, Sl.v a2), (53, .int .i64 (a2.len : Int)), (54, .int .i64 x54_5), (141, .int .i64 (x61_9.len : Int)), (142, .int .i64 0)]) ?_ (FrLe.cons rfl (FrLe.cons rfl (FrLe.cons rfl (FrLe.cons rfl (FrLe.cons rfl (FrLe.cons rfl (FrLe.cons rfl (FrLe.cons rfl (FrLe.nil _)))))))))
  refine h (fun x142_34 σ => ARound _ _ _ _ _ _ [(0, .pointer a0), (1, .pointer a1), (11, Sl.v x61_9), (52, Sl.v a2), (53, .int .i64 (a2.len : Int)), (54, .int .i64 x54_5), (141, .int .i64 (x61_9.len : Int)), (142, .int .i64 x142_34)] σ) ?_
  rintro x142_34 σ Y33 hY33 h
  show AW _ _ _ _ _ _ _ _
  unfold l33_law07_alike at h
  refine AW.seq ?_
  refine AW.reg ?_
  refine Lp (V_lss rfl rfl rfl) rfl rfl ?_
  refine Lnil ?_
  refine thenN ?_
  refine AW.seq ?_
  refine AW.iff rfl decide_eq_true_iff h (fun h => ?_) (fun h => ?_)
  rotate_left
  · refine AW.exit ?_
    refine thenE ?_
    refine thenE ?_
    refine blockE ?_
    refine blockN ?_
    refine thenN ?_
    exact ⟨(FrLe.cons rfl (FrLe.cons rfl (FrLe.cons rfl (FrLe.cons rfl (FrLe.cons rfl (FrLe.nil _)))))), h⟩
  refine AW.skip ?_
  refine thenN ?_
  refine AW.seq ?_
  refine AW.block ?_
  refine AW.seq ?_
  refine AW.reg ?_
  refine Lp (V_move rfl rfl) rfl rfl ?_
  refine Lp (V_asg rfl rfl) rfl rfl ?_
  refine Lnil ?_
  refine thenN ?_
  refine AW.reg ?_
  refine Lp (V_move rfl rfl) rfl rfl ?_
  refine Lp (V_move rfl rfl) rfl rfl ?_
  refine Lp (V_move rfl rfl) rfl rfl ?_
  refine Lp (V_move rfl rfl) rfl rfl ?_
  obtain ⟨p149_35, ha, h0, h1, h⟩ := h
  refine Lp (V_ixA rfl Tryz.underlying30 ty5 (ixL rfl ha) rfl h0 h1) rfl rfl ?_
  obtain ⟨x150_36, hc, h⟩ := h
  refine Ls rfl rfl (X_ld rfl Tryz.underlying5 rfl rfl hc ?_)
  refine Lp (V_inv rfl rfl) rfl rfl ?_
  obtain ⟨p152_37, ha, h0, h1, h⟩ := h
  refine Lp (V_ixA rfl Tryz.underlying30 ty5 (ixL rfl ha) rfl h0 h1) rfl rfl ?_
  refine Ls rfl rfl (X_st rfl ty5 rfl rfl rfl rfl (stN_mono h fun σ h => ?_))
  refine Lnil ?_
  refine blockN ?_
  refine thenN ?_
  refine AW.reg ?_
  refine Lp (V_add rfl rfl rfl) rfl rfl ?_
  refine Lp (V_move rfl rfl) rfl rfl ?_
  refine Lnil ?_
  refine thenN ?_
  refine ARound.head (fr' := [(0, .pointer a0), (1, .pointer a1), (11, Sl.v x61_9), (52, Sl.v a2), (53, .int .i64 (a2.len : Int)), (54, .int .i64 x54_5), (141, .int .i64 (x61_9.len : Int)), (142, .int .i64 (IntKind.i64.wrap (x142_34 + 1)))]) ?_ (FrLe.cons rfl (FrLe.cons rfl (FrLe.cons rfl (FrLe.cons rfl (FrLe.cons rfl (FrLe.cons rfl (FrLe.cons rfl (FrLe.cons rfl (FrLe.nil _)))))))))
  exact hY33 _ _ h

end Go.Proofs.YthfpmipeejjogaaGreatDoor.G

/- The laws of the tree, the walk: a tree behind a script. -/
namespace Go.Proofs.YthfpmipeejjogaaGreatDoor.Zt
open Go Go.Proofs.YthfpmipeejjogaaGreatDoor.SL Go.Proofs.YthfpmipeejjogaaGreatDoor.G Go.Proofs.YthfpmipeejjogaaGreatDoor.Pa
set_option linter.unusedSimpArgs false
set_option linter.unusedVariables false
variable {B : World} {ro σ σ' : AH} {tag tag' : Nat → Nat}

theorem glob_lent {ψ : AH} (g : Glob ro) : Glob (join ro ψ) := by
  obtain ⟨m, o, h1, h2⟩ := g.maxlen
  exact ⟨⟨m, o, join_left h1, h2⟩, fun w hw => g.tab w fun b o hb => hw b o (join_left hb)⟩
theorem TreeIs.del {r T b : Nat} {st : St} (h : TreeIs tag σ r T st) (hr : r < 64) (hr0 : r ≠ 0) (hb : tag b = 0) : TreeIs tag (SL.del σ b) r T st := by
  obtain ⟨M, bs, h⟩ := h
  refine ⟨M, bs, h.keys, h.len, h.nd, h.cell.del hb hr0, h.map.del (by rw [hb]; omega), fun i c p hc hp => ?_⟩
  obtain ⟨s, h1, h2⟩ := h.nodes i c p hc hp
  exact ⟨s, h1.del hb (by omega), h2.del hb (by omega)⟩
theorem TreeIs.back {r T b r' : Nat} {st : St} {τ : AH} (h : TreeIs tag' τ r T st) (hd : Disj (SL.one σ b) τ) (hb : ∃ o, σ b = some o) : TreeIs (setTag tag' b r') (join (SL.one σ b) τ) r T st := by
  obtain ⟨M, bs, h⟩ := h
  refine ⟨M, bs, h.keys, h.len, h.nd, h.cell.back hd hb, h.map.back hd hb, fun i c p hc hp => ?_⟩
  obtain ⟨s, h1, h2⟩ := h.nodes i c p hc hp
  exact ⟨s, h1.back hd hb, h2.back hd hb⟩

set_option maxRecDepth 100000 in
theorem copy_ok {s : Sl} {l : List Value} {Q : Sl → AH → Prop} (h : SL.Read ro σ s l) (hs : SL.Sep ro σ) (hl : l.length ≤ 140737488355328) (hv : ∀ v ∈ l, storable v = true) (hQ : ∀ s' tag' σ', (∀ R, Step R ro tag σ tag' σ') → Row tag' σ' 6 5 s' l → Q s' σ') : c_ref01_Copy B ro s σ Q := by
  refine ref01_Copy_ok fun _ => ?_
  unfold f_ref01_Copy
  refine nw_cells (tag := tag) 0 hs fun b tag1 σ1 st1 r1 => ?_
  refine ref01_Join_ok fun _ => ?_
  unfold f_ref01_Join
  refine nw_cells (tag := tag1) 6 (st1 []).sep fun c tag2 σ2 st2 r2 => ?_
  have r1' := r1.keep (st2 []) (by simp)
  have h2 : SL.Read ro σ2 s l := (h.step (st1 [])).step (st2 [])
  refine lfpD.intro ?_
  unfold l4_ref01_Join
  simp only
  rw [if_pos (by decide)]
  obtain ⟨p, hp, hg⟩ := r1'.ptr (st2 []).sep (by simp)
  cases hp
  refine ⟨_, rfl, by decide, by decide, s, hg 0 _ rfl, ?_⟩
  refine awp_appendN r2 (st2 []).sep h2 u30 ty5 rfl hv (by simp; omega) (by decide) fun s' tag3 σ3 st3 r3 => ?_
  refine ⟨s', rfl, ?_⟩
  rw [show IntKind.i64.wrap (0 + 1) = 1 from by decide]
  refine lfpD.intro ?_
  show (if (1 : Int) < ((1 : Nat) : Int) then _ else _)
  rw [if_neg (by decide)]
  unfold j2_ref01_Join
  exact hQ s' tag3 σ3 (fun R => (st1 R).trans ((st2 R).trans (st3 R (.inl rfl)))) r3

structure OpV where
  kind : Int
  n : Int
  path : Str
  data : Str
  seq : Bool
def Ops (ro : AH) (s : Sl) (os : List OpV) : Prop := s.len = os.length ∧ ∀ j o, os[j]? = some o → ∃ q ds, s.a = some q ∧ (∀ σ, cellsAt ro σ (q.add (j * 5)) 0 [vI o.kind, vI o.n, .string (S o.path), Sl.v ds, .bool o.seq]) ∧ SL.Read ro (fun _ => none) ds (o.data.map vU)

end Go.Proofs.YthfpmipeejjogaaGreatDoor.Zt

/- What a call does to a tree, in one of two ways; what holds of all trees behind scripts. -/
namespace Go.Proofs.YthfpmipeejjogaaGreatDoor.Zt
open Go Go.Proofs.YthfpmipeejjogaaGreatDoor.SL Go.Proofs.YthfpmipeejjogaaGreatDoor.Pa Go.Proofs.YthfpmipeejjogaaGreatDoor.Wi
set_option linter.unusedSimpArgs false
set_option linter.unusedVariables false

theorem create_spec (st : St) (p d : Str) (o : Int) (seq : Bool) : (∃ e, e ≠ 0 ∧ create st p d o seq = (st, [], e)) ∨
    ∃ q u n, create st p d o seq = (modN (st ++ [(q, ⟨0, 0, o, 0, d⟩)]) u bump, q, 0) ∧ st.lookup u = some n ∧ n.own = 0 ∧ ¬ 9999999999 < n.ctr ∧ st.lookup q = none ∧ parent q = some u ∧ d.length ≤ 256 ∧ 0 ≤ o ∧ o ≤ 4611686018427387903 := by
  unfold create
  cases hp : parent p with
  | none => exact .inl ⟨20, by decide, rfl⟩
  | some u =>
    simp only
    by_cases h1 : 256 < d.length
    · rw [if_pos h1]; exact .inl ⟨75, by decide, rfl⟩
    rw [if_neg h1]
    by_cases h2 : o < 0 ∨ 4611686018427387903 < o
    · rw [if_pos h2]; exact .inl ⟨10, by decide, rfl⟩
    rw [if_neg h2]
    cases hn : st.lookup u with
    | none => exact .inl ⟨70, by decide, rfl⟩
    | some n =>
      simp only
      by_cases h3 : n.own ≠ 0
      · rw [if_pos h3]; exact .inl ⟨74, by decide, rfl⟩
      rw [if_neg h3]
      by_cases h4 : 9999999999 < n.ctr
      · rw [if_pos h4]; exact .inl ⟨76, by decide, rfl⟩
      rw [if_neg h4]
      have fin : ∀ q, parent q = some u → (∃ e, e ≠ 0 ∧ (if (st.lookup q).isSome = true then (st, ([] : Str), (71 : Int)) else (modN (st ++ [(q, ⟨0, 0, o, 0, d⟩)]) u bump, q, 0)) = (st, [], e)) ∨
          ∃ q' u' n', (if (st.lookup q).isSome = true then (st, ([] : Str), (71 : Int)) else (modN (st ++ [(q, ⟨0, 0, o, 0, d⟩)]) u bump, q, 0)) = (modN (st ++ [(q', ⟨0, 0, o, 0, d⟩)]) u' bump, q', 0) ∧ st.lookup u' = some n' ∧ n'.own = 0 ∧ ¬ 9999999999 < n'.ctr ∧ st.lookup q' = none ∧ parent q' = some u' ∧ d.length ≤ 256 ∧ 0 ≤ o ∧ o ≤ 4611686018427387903 := fun q hq => by
        by_cases h5 : (st.lookup q).isSome = true
        · rw [if_pos h5]; exact .inl ⟨71, by decide, rfl⟩
        · rw [if_neg h5]
          exact .inr ⟨q, u, n, rfl, hn, by simpa using h3, h4, (by
            cases e : st.lookup q with
            | none => rfl
            | some y => rw [e] at h5; exact absurd rfl h5), hq, by omega, by omega, by omega⟩
      by_cases hs : seq = true
      · rw [if_pos hs]
        cases hsf : suffix p n.ctr with
        | none => exact .inl ⟨20, by decide, rfl⟩
        | some q =>
          obtain ⟨ps, _, hpq⟩ := suffix_parent hsf
          exact fin q (by rw [hpq, hp])
      · rw [if_neg hs]
        exact fin p hp
theorem remove_spec (st : St) (p : Str) (v : Int) : (∃ e, e ≠ 0 ∧ remove st p v = (st, e)) ∨
    ∃ n u, remove st p v = (delK (modN st u less) p, 0) ∧ st.lookup p = some n ∧ p ≠ [47] ∧ parent p = some u ∧ ¬ 0 < n.kids := by
  unfold remove
  by_cases h0 : p = [47] ∨ parts p = none
  · rw [if_pos h0]; exact .inl ⟨20, by decide, rfl⟩
  rw [if_neg h0]
  cases hn : st.lookup p with
  | none => exact .inl ⟨70, by decide, rfl⟩
  | some n =>
    simp only
    by_cases h1 : v ≠ -1 ∧ v ≠ n.ver
    · rw [if_pos h1]; exact .inl ⟨72, by decide, rfl⟩
    rw [if_neg h1]
    by_cases h2 : 0 < n.kids
    · rw [if_pos h2]; exact .inl ⟨73, by decide, rfl⟩
    rw [if_neg h2]
    simp only [not_or] at h0
    obtain ⟨ps, hps⟩ : ∃ ps, parts p = some ps := by
      cases e : parts p with
      | none => exact absurd e h0.2
      | some ps => exact ⟨ps, rfl⟩
    obtain ⟨u, hu⟩ := parent_some hps h0.1
    rw [hu]
    exact .inr ⟨n, u, rfl, rfl, h0.1, rfl, h2⟩
theorem setD_spec (st : St) (p d : Str) (v : Int) : (∃ e, e ≠ 0 ∧ setD st p d v = (st, 0, e)) ∨
    ∃ n, setD st p d v = (modN st p (setNd d), IntKind.i64.wrap (n.ver + 1), 0) ∧ st.lookup p = some n ∧ p ≠ [47] ∧ d.length ≤ 256 := by
  unfold setD
  by_cases h0 : p = [47] ∨ parts p = none
  · rw [if_pos h0]; exact .inl ⟨20, by decide, rfl⟩
  rw [if_neg h0]
  by_cases h1 : 256 < d.length
  · rw [if_pos h1]; exact .inl ⟨75, by decide, rfl⟩
  rw [if_neg h1]
  cases hn : st.lookup p with
  | none => exact .inl ⟨70, by decide, rfl⟩
  | some n =>
    simp only
    by_cases h2 : v ≠ -1 ∧ v ≠ n.ver
    · rw [if_pos h2]; exact .inl ⟨72, by decide, rfl⟩
    rw [if_neg h2]
    simp only [not_or] at h0
    exact .inr ⟨n, rfl, rfl, h0.1, by omega⟩

/-- what holds of a tree behind at most b calls -/
structure InvB (b : Nat) (st : St) : Prop where
  inv : Inv st
  ver : ∀ k n, st.lookup k = some n → 0 ≤ n.ver ∧ n.ver ≤ b
  own : ∀ k n, st.lookup k = some n → 0 ≤ n.own ∧ n.own ≤ 4611686018427387903 ∧ (n.own ≠ 0 → n.ctr = 0)
  rt : ∀ n, st.lookup [47] = some n → n.data = [] ∧ n.ver = 0 ∧ n.own = 0
  len : st.length ≤ b + 1
theorem InvB.mono {b c : Nat} {st : St} (h : InvB b st) (hc : b ≤ c) : InvB c st :=
  ⟨h.inv, fun k n hk => by have := h.ver k n hk; omega, h.own, h.rt, by have := h.len; omega⟩
theorem Inv.ctr0 {st : St} (h : Inv st) {k : Str} {n : Nd} (hk : st.lookup k = some n) : 0 ≤ n.ctr := by
  have h1 := h.kids k n hk
  have h2 := (h.ctr k n hk).1
  omega
theorem InvB.inv3 {b : Nat} {st : St} (h : InvB b st) (hb : b ≤ 4611686018427387903) : Inv3 st := by
  refine ⟨h.inv, fun k n hk => ⟨?_, (h.own k n hk).2.2⟩, h.rt⟩
  have h1 := h.ver k n hk
  have h2 := h.own k n hk
  have h3 := h.inv.ctr k n hk
  have h4 := h.inv.ctr0 hk
  unfold numsOk rightN
  simp only [Bool.and_eq_true, decide_eq_true_eq]
  omega
theorem invB_new : InvB 0 St.new := by
  have hl : ∀ k n, St.new.lookup k = some n → n = ⟨0, 0, 0, 0, []⟩ := fun k n h => by
    unfold St.new at h
    rw [List.lookup_cons] at h
    split at h
    · exact (Option.some.inj h).symm
    · cases h
  refine ⟨inv_new, fun k n h => ?_, fun k n h => ?_, fun n h => ?_, by decide⟩
  · rw [hl k n h]; decide
  · rw [hl k n h]; decide
  · rw [hl _ n h]; exact ⟨rfl, rfl, rfl⟩
theorem invB_create {b : Nat} {st : St} {p d : Str} {o : Int} {seq : Bool} (h : InvB b st) (hb : b ≤ 4398046511103) : InvB (b + 1) (create st p d o seq).1 := by
  have hi := inv_create (p := p) (d := d) (o := o) (seq := seq) h.inv (by have := h.len; omega)
  have hlen := create_len st p d o seq
  rcases create_spec st p d o seq with ⟨e, _, he⟩ | ⟨q, u, n, he, hu, hown, hctr, hq, hpq, hd, ho1, ho2⟩
  · rw [he]; exact h.mono (by omega)
  · rw [he] at hi hlen ⊢
    simp only at hi hlen ⊢
    have hl : ∀ k m, (modN (st ++ [(q, ⟨0, 0, o, 0, d⟩)]) u bump).lookup k = some m → (∃ m', (st.lookup k = some m' ∨ (k = q ∧ m' = ⟨0, 0, o, 0, d⟩)) ∧ (m = m' ∨ (k = u ∧ m = bump m'))) := fun k m hk => by
      rw [lookup_mod, lookup_app] at hk
      have base : ∀ x, (match st.lookup k with | some m => some m | none => if k = q then some (⟨0, 0, o, 0, d⟩ : Nd) else none) = some x → st.lookup k = some x ∨ (k = q ∧ x = ⟨0, 0, o, 0, d⟩) := fun x hx => by
        cases e : st.lookup k with
        | some y => rw [e] at hx; exact .inl hx
        | none =>
          rw [e] at hx
          simp only at hx
          split at hx
          · rename_i hkq; exact .inr ⟨hkq, (Option.some.inj hx).symm⟩
          · cases hx
      split at hk
      · rename_i hku
        obtain ⟨m', h1, h2⟩ := Option.map_eq_some_iff.1 hk
        exact ⟨m', base m' h1, .inr ⟨hku, h2.symm⟩⟩
      · exact ⟨m, base m hk, .inl rfl⟩
    refine ⟨hi, fun k m hk => ?_, fun k m hk => ?_, fun m hk => ?_, by have := h.len; omega⟩
    · obtain ⟨m', h1, h2⟩ := hl k m hk
      have h3 : 0 ≤ m'.ver ∧ m'.ver ≤ (b + 1 : Nat) := by
        rcases h1 with h1 | ⟨_, rfl⟩
        · have := h.ver k m' h1; omega
        · simp only; omega
      rcases h2 with rfl | ⟨_, rfl⟩
      · exact h3
      · exact h3
    · obtain ⟨m', h1, h2⟩ := hl k m hk
      rcases h2 with rfl | ⟨hku, rfl⟩
      · rcases h1 with h1 | ⟨_, rfl⟩
        · exact h.own k m h1
        · exact ⟨ho1, ho2, fun _ => rfl⟩
      · rcases h1 with h1 | ⟨hkq, _⟩
        · rw [hku, hu] at h1
          obtain rfl := Option.some.inj h1
          exact ⟨by show 0 ≤ n.own; omega, by show n.own ≤ _; omega, fun hn => absurd hown hn⟩
        · rw [hkq] at hku
          rw [hku] at hq
          rw [hq] at hu; cases hu
    · obtain ⟨m', h1, h2⟩ := hl _ m hk
      have h3 : m'.data = [] ∧ m'.ver = 0 ∧ m'.own = 0 := by
        rcases h1 with h1 | ⟨hkq, _⟩
        · exact h.rt m' h1
        · rw [← hkq, root_parent] at hpq; cases hpq
      rcases h2 with rfl | ⟨_, rfl⟩
      · exact h3
      · exact h3
theorem invB_remove {b : Nat} {st : St} {p : Str} {v : Int} (h : InvB b st) (hb : b ≤ 4398046511103) : InvB (b + 1) (remove st p v).1 := by
  have hi := inv_remove (p := p) (v := v) h.inv (by have := h.len; omega)
  have hlen := remove_len st p v
  rcases remove_spec st p v with ⟨e, _, he⟩ | ⟨n, u, he, hn, hne, hu, hk⟩
  · rw [he]; exact h.mono (by omega)
  · rw [he] at hi hlen ⊢
    simp only at hi hlen ⊢
    have hnd : ((modN st u less).map (·.1)).Nodup := by rw [keys_mod]; exact h.inv.keys
    have hl : ∀ k m, (delK (modN st u less) p).lookup k = some m → ∃ m', st.lookup k = some m' ∧ (m = m' ∨ m = less m') := fun k m hk => by
      rw [lookup_del hnd] at hk
      split at hk
      · cases hk
      · rw [lookup_mod] at hk
        split at hk
        · obtain ⟨m', h1, h2⟩ := Option.map_eq_some_iff.1 hk
          exact ⟨m', h1, .inr h2.symm⟩
        · exact ⟨m, hk, .inl rfl⟩
    refine ⟨hi, fun k m hk => ?_, fun k m hk => ?_, fun m hk => ?_, by have := h.len; omega⟩
    · obtain ⟨m', h1, h2⟩ := hl k m hk
      have := h.ver k m' h1
      rcases h2 with rfl | rfl
      · omega
      · show 0 ≤ m'.ver ∧ m'.ver ≤ _; omega
    · obtain ⟨m', h1, h2⟩ := hl k m hk
      have := h.own k m' h1
      rcases h2 with rfl | rfl
      · exact this
      · exact this
    · obtain ⟨m', h1, h2⟩ := hl _ m hk
      have := h.rt m' h1
      rcases h2 with rfl | rfl
      · exact this
      · exact this
theorem invB_set {b : Nat} {st : St} {p d : Str} {v : Int} (h : InvB b st) (hb : b ≤ 4398046511103) : InvB (b + 1) (setD st p d v).1 := by
  have hi := inv_set (p := p) (d := d) (v := v) h.inv
  have hlen := setD_len st p d v
  rcases setD_spec st p d v with ⟨e, _, he⟩ | ⟨n, he, hn, hne, hd⟩
  · rw [he]; exact h.mono (by omega)
  · rw [he] at hi hlen ⊢
    simp only at hi hlen ⊢
    have hl : ∀ k m, (modN st p (setNd d)).lookup k = some m → ∃ m', st.lookup k = some m' ∧ (m = m' ∨ (k = p ∧ m = setNd d m')) := fun k m hk => by
      rw [lookup_mod] at hk
      split at hk
      · rename_i hkp
        obtain ⟨m', h1, h2⟩ := Option.map_eq_some_iff.1 hk
        exact ⟨m', h1, .inr ⟨hkp, h2.symm⟩⟩
      · exact ⟨m, hk, .inl rfl⟩
    refine ⟨hi, fun k m hk => ?_, fun k m hk => ?_, fun m hk => ?_, by have := h.len; omega⟩
    · obtain ⟨m', h1, h2⟩ := hl k m hk
      have := h.ver k m' h1
      rcases h2 with rfl | ⟨_, rfl⟩
      · omega
      · show 0 ≤ IntKind.i64.wrap (m'.ver + 1) ∧ IntKind.i64.wrap (m'.ver + 1) ≤ _
        rw [w64_eq (by omega) (by omega)]; omega
    · obtain ⟨m', h1, h2⟩ := hl k m hk
      have := h.own k m' h1
      rcases h2 with rfl | ⟨_, rfl⟩
      · exact this
      · exact this
    · obtain ⟨m', h1, h2⟩ := hl _ m hk
      rcases h2 with rfl | ⟨hkp, _⟩
      · exact h.rt m h1
      · exact absurd hkp.symm hne
/-- a path is at most 128 letters, a node's bytes at most 256 -/
theorem Inv.small {st : St} (h : Inv st) : ∀ p ∈ st, p.1.length ≤ 128 ∧ p.2.data.length ≤ 256 := fun p hp => by
  have hl := (lookup_iff h.keys (k := p.1) (n := p.2)).2 hp
  obtain ⟨ps, hps⟩ := h.path _ _ hl
  obtain ⟨e, hg⟩ := parts_iff.1 hps
  exact ⟨by rw [e]; exact hg.len, h.data _ _ hl⟩

/-! what a call that is not refused changes -/
end Go.Proofs.YthfpmipeejjogaaGreatDoor.Zt

/- ZtreeShape, the walk. -/
namespace Go.Proofs.YthfpmipeejjogaaGreatDoor.Zt
open Go Go.Proofs.YthfpmipeejjogaaGreatDoor.SL Go.Proofs.YthfpmipeejjogaaGreatDoor.G Go.Proofs.YthfpmipeejjogaaGreatDoor.Pa
set_option linter.unusedSimpArgs false
set_option linter.unusedVariables false
variable {B : World} {ro σ σ' : AH} {tag tag' : Nat → Nat}

theorem kc_perm {a b : List Str} (h : a.Perm b) (u : Str) : kc a u = kc b u := by unfold kc; exact h.countP_eq _

theorem u5 : Tryz.prog.underlying 5 = some (.int .u8) := by kernel_rfl
set_option maxRecDepth 100000 in
theorem awake_ok {Q : Bool → AH → Prop} (g : Glob ro) (hQ : ∀ σ, SL.Sep ro σ → Q true σ) : c_law07_awake B ro σ Q := by
  refine law07_awake_ok fun hs => ?_
  unfold f_law07_awake
  refine new_ok (tag := fun _ => 0) 10 (by decide) (by decide) fun T tag1 σ1 st1 h1 => ?_
  rw [if_neg (by simp)]
  refine nw_cells (tag := tag1) 0 st1.sep fun x tag2 σ2 st2 r2 => ?_
  have h2 := h1.keep (st2 []) (by simp)
  have hs2 := (st2 []).sep
  have hcv : ∀ K : Value → AH → Prop, (∀ σ', Step [0] ro tag2 σ2 tag2 σ' → SL.Read ro σ' ⟨some ⟨x, 0, none⟩, 1, 1⟩ [vU 120] → K (Sl.v ⟨some ⟨x, 0, none⟩, 1, 1⟩) σ') → awp Tryz.prog ro (convert 30 30 (Sl.v ⟨some ⟨x, 0, none⟩, 1, 1⟩)) K σ2 := by
    intro K hK
    rcases r2 with ⟨h, _⟩ | ⟨b', cs, ha, ht, hb, hln, hc, hle, hg⟩
    · cases h
    · cases ha
      have hrd : SL.rd ro σ2 x = some (.cells cs 5) := by unfold SL.rd; rw [hs2 x _ hb]; exact hb
      unfold convert
      simp only [bind_def]
      rw [awp_underlying u30, awp_underlying u30]
      simp only [Sl.v]
      rw [awp_underlying u5]
      refine ⟨.cells cs 5, hrd, ?_⟩
      refine ⟨by decide, .cells cs 5, hb, ?_⟩
      refine hK _ (step_obj hs2 ht hb) ⟨rfl, (fun h => by cases h), fun p hp i v hv => ?_⟩
      cases hp
      rcases i with _ | i
      · cases hv
        rw [add_zero]
        unfold acell SL.rd
        rw [hs2 x _ hb]
        simp only [upd_same]
        show (if (⟨x, 0, none⟩ : Addr).spot.isSome then none else cs[0]?) = _
        rw [if_neg (by simp), hg 0 (by simp)]; rfl
      · cases hv
  refine hcv _ fun σx stx rdx => ⟨_, rfl, ?_⟩
  have h2 := h2.keep stx (by simp)
  refine create_ok (d := [120]) g (by decide) (by decide) (by decide) h2 rdx (by decide) fun tag3 σ3 st3 h3 => ?_
  have e1 : (create St.new (L (⟨#[47, 97]⟩ : ByteArray)) [120] 0 false).2 = ([47, 97], 0) := by decide
  rw [show (create St.new (L (⟨#[47, 97]⟩ : ByteArray)) [120] 0 false).2.1 = [47, 97] from by rw [e1], show (create St.new (L (⟨#[47, 97]⟩ : ByteArray)) [120] 0 false).2.2 = 0 from by rw [e1]]
  refine create_ok (d := []) g (by decide) (by decide) (by decide) h3 ⟨rfl, fun _ => rfl, fun p h => by cases h⟩ (by decide) fun tag4 σ4 st4 h4 => ?_
  have e2 : (create (create St.new (L (⟨#[47, 97]⟩ : ByteArray)) [120] 0 false).1 (L (⟨#[47, 97, 47, 115]⟩ : ByteArray)) [] 0 true).2 = ([47, 97, 47, 115, 48, 48, 48, 48, 48, 48, 48, 48, 48, 48], 0) := by decide
  have e3 : (create (create St.new (L (⟨#[47, 97]⟩ : ByteArray)) [120] 0 false).1 (L (⟨#[47, 97, 47, 115]⟩ : ByteArray)) [] 0 true).1.length = 3 := by decide
  generalize create (create St.new (L (⟨#[47, 97]⟩ : ByteArray)) [120] 0 false).1 (L (⟨#[47, 97, 47, 115]⟩ : ByteArray)) [] 0 true = y at e2 e3 h4
  rw [e2]
  rw [if_pos (by decide)]
  obtain ⟨M, bs, hA⟩ := h4
  refine size_ok hA ?_
  unfold j8_law07_awake
  rw [e3]
  exact hQ _ st4.sep

end Go.Proofs.YthfpmipeejjogaaGreatDoor.Zt

/- Trees that are the same but for their order go on the same; ZtreeBack, the walk. -/
namespace Go.Proofs.YthfpmipeejjogaaGreatDoor.Zt
open Go Go.Proofs.YthfpmipeejjogaaGreatDoor.SL Go.Proofs.YthfpmipeejjogaaGreatDoor.G Go.Proofs.YthfpmipeejjogaaGreatDoor.Pa
set_option linter.unusedSimpArgs false
set_option linter.unusedVariables false
variable {B : World} {ro σ σ' : AH} {tag tag' : Nat → Nat}

theorem delK_filter {st : St} (hk : (st.map (·.1)).Nodup) (q : Str) : delK st q = st.filter fun p => !(p.1 == q) := by
  induction st with
  | nil => rfl
  | cons p st ih =>
    obtain ⟨k, n⟩ := p
    simp only [List.map_cons, List.nodup_cons] at hk
    unfold delK
    rw [List.filter_cons]
    by_cases h : q = k
    · subst h
      rw [if_pos rfl]
      simp only [beq_self_eq_true, Bool.not_true, Bool.false_eq_true, if_false]
      symm
      rw [List.filter_eq_self]
      intro y hy
      have : y.1 ≠ q := fun e => hk.1 (by rw [← e]; exact List.mem_map.2 ⟨y, hy, rfl⟩)
      simpa using this
    · rw [if_neg h, ih hk.2]
      have : (!(k == q)) = true := by simpa using fun e => h e.symm
      rw [this]; rfl
theorem modN_perm {a b : St} (h : a.Perm b) (u : Str) (f : Nd → Nd) : (modN a u f).Perm (modN b u f) := h.map _
theorem del_up {st : St} (hi : Inv st) {p : Str} : ∀ u n, parent p = some u → st.lookup p = some n → ∃ m, st.lookup u = some m := fun u n hu hn => by
  have hne : p ≠ [47] := fun e => by rw [e, root_parent] at hu; cases hu
  obtain ⟨u', m', e1, e2, _⟩ := hi.up _ n hn hne
  rw [hu] at e1; cases e1
  exact ⟨m', e2⟩
theorem encL_len (x : St) : (∀ p ∈ x, p.1.length ≤ 128 ∧ p.2.data.length ≤ 256 ∧ numsOk p.2 = true) → (encL x).length ≤ 512 * x.length := by
  induction x with
  | nil => intro _; simp [encL]
  | cons p x ih =>
    intro h
    have := ih fun q hq => h q (by simp [hq])
    obtain ⟨h1, h2, h3⟩ := h p (by simp)
    unfold encL at this ⊢
    rw [List.flatMap_cons, List.length_append, List.length_cons]
    unfold numsOk Wi.rightN at h3
    simp only [Bool.and_eq_true, decide_eq_true_eq] at h3
    have l1 := (Wi.vput_len 8 p.1.length (by omega)).2
    have l2 := (Wi.vput_len 8 p.2.data.length (by omega)).2
    have l3 := (Wi.vput_len 8 p.2.ver.toNat (by omega)).2
    have l4 := (Wi.vput_len 8 p.2.ctr.toNat (by omega)).2
    have l5 := (Wi.vput_len 8 p.2.own.toNat (by omega)).2
    have : (encN p).length ≤ 512 := by
      unfold encN Wi.blob
      simp only [List.length_append]
      omega
    omega
theorem encS_len {b : Nat} {st : St} (h : InvB b st) (hb : b ≤ 4398046511103) : (encS st).length ≤ 512 * st.length := by
  have h3 := h.inv3 (by omega)
  rw [encS_eq h3, ← (srt_perm st).length_eq]
  refine encL_len _ fun p hp => ?_
  have hp' := (srt_perm st).mem_iff.1 hp
  obtain ⟨h1, h2⟩ := h.inv.small p hp'
  exact ⟨h1, h2, (h3.nums _ _ ((lookup_iff h.inv.keys (k := p.1) (n := p.2)).2 hp')).1⟩

end Go.Proofs.YthfpmipeejjogaaGreatDoor.Zt
