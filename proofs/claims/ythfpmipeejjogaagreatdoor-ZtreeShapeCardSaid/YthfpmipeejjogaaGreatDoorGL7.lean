/- Functions as predicate transformers, and the proofs that the code does what they tell: printed by wip/tools/gen.py. -/
import Derived.Test.YthfpmipeejjogaaGreatDoorGC
namespace Go.Proofs.YthfpmipeejjogaaGreatDoor.G
open Go Go.Proofs.YthfpmipeejjogaaGreatDoor.SL
set_option linter.unusedVariables false
set_option linter.unusedSimpArgs false

def j8_law07_ZtreeShape (B : World) (ro : AH) (Q : Bool → AH → Prop) (σ : AH) : Prop :=
 c_law07_awake B ro σ fun x118_9 σ =>
 Q x118_9 σ

def j12_law07_ZtreeShape (B : World) (ro : AH) (x19_1 : Option Addr) (x24_2 : Sl) (x49_11 : Int) (Q : Bool → AH → Prop) (Y10 : (Int) → AH → Prop) (σ : AH) : Prop :=
 Y10 (IntKind.i64.wrap (x49_11 + 1)) σ

def j25_law07_ZtreeShape (B : World) (ro : AH) (x19_1 : Option Addr) (x24_2 : Sl) (x49_11 : Int) (x53_14 : ByteArray) (Q : Bool → AH → Prop) (Y10 : (Int) → AH → Prop) (x96_26 : Bool) (σ : AH) : Prop :=
 if x96_26 = true then
  Q false σ
 else
 if x49_11 = 0 then
  j12_law07_ZtreeShape B ro x19_1 x24_2 x49_11 Q Y10 σ
 else
 c_ref02_Parent B ro x53_14 σ fun x101_27 x101_28 σ =>
 c_ztree_Tree_Get B ro x19_1 x101_27 σ fun x107_29 x107_30a x107_30b x107_30c x107_30d x107_31 σ =>
 nw ro σ (.cells #[.int .i64 0, .int .i64 0, .int .i64 0, .int .i64 0] 32) fun x16_32 σ =>
 stN ⟨x16_32, 0, none⟩ (fun σ =>
  if (¬ (x101_28 = true)) ∨ (¬ (x107_31 = 0)) then
   Q false σ
  else
  j12_law07_ZtreeShape B ro x19_1 x24_2 x49_11 Q Y10 σ) [.int .i64 x107_30a, .int .i64 x107_30b, .int .i64 x107_30c, .int .i64 x107_30d] 0 σ

def j23_law07_ZtreeShape (B : World) (ro : AH) (x9_18 : Nat) (x19_1 : Option Addr) (x24_2 : Sl) (x49_11 : Int) (x53_14 : ByteArray) (x64_19 : Sl) (Q : Bool → AH → Prop) (Y10 : (Int) → AH → Prop) (x86_24 : Bool) (σ : AH) : Prop :=
 if x86_24 = true then
  j25_law07_ZtreeShape B ro x19_1 x24_2 x49_11 x53_14 Q Y10 true σ
 else
 ∃ (x89_33 : Int), acell ro σ ((⟨x9_18, 0, none⟩ : Addr).add 2) = some (.int .i64 x89_33) ∧
 j25_law07_ZtreeShape B ro x19_1 x24_2 x49_11 x53_14 Q Y10 ((!(decide (x89_33 = 0))) && (decide (0 < (x64_19.len : Int)))) σ

def j21_law07_ZtreeShape (B : World) (ro : AH) (x9_18 : Nat) (x19_1 : Option Addr) (x24_2 : Sl) (x49_11 : Int) (x53_14 : ByteArray) (x64_19 : Sl) (Q : Bool → AH → Prop) (Y10 : (Int) → AH → Prop) (x79_22 : Bool) (σ : AH) : Prop :=
 if x79_22 = true then
  j23_law07_ZtreeShape B ro x9_18 x19_1 x24_2 x49_11 x53_14 x64_19 Q Y10 true σ
 else
 ∃ (x82_34 : Int), acell ro σ ((⟨x9_18, 0, none⟩ : Addr).add 1) = some (.int .i64 x82_34) ∧
 j23_law07_ZtreeShape B ro x9_18 x19_1 x24_2 x49_11 x53_14 x64_19 Q Y10 (decide (x82_34 < (x64_19.len : Int))) σ

def l10_law07_ZtreeShape (B : World) (ro : AH) (x19_1 : Option Addr) (x24_2 : Sl) (Q : Bool → AH → Prop) : (Int) → AH → ((Int) → AH → Prop) → Prop := fun x49_11 σ Y10 =>
 if x49_11 < (x24_2.len : Int) then
  ∃ p52_13 : Addr, x24_2.a = some p52_13 ∧ (0 : Int) ≤ x49_11 ∧ x49_11 < (x24_2.len : Int) ∧
  ∃ (x53_14 : ByteArray), acell ro σ (p52_13.add (Int.toNat x49_11 * 1)) = some (.string x53_14) ∧
  c_ztree_Tree_Get B ro x19_1 x53_14 σ fun x57_15 x57_16a x57_16b x57_16c x57_16d x57_17 σ =>
  nw ro σ (.cells #[.int .i64 0, .int .i64 0, .int .i64 0, .int .i64 0] 32) fun x9_18 σ =>
  stN ⟨x9_18, 0, none⟩ (fun σ =>
   c_ztree_Tree_Children B ro x19_1 x53_14 σ fun x64_19 x64_20 σ =>
   if (¬ (x57_17 = 0)) ∨ (¬ (x64_20 = 0)) then
    j21_law07_ZtreeShape B ro x9_18 x19_1 x24_2 x49_11 x53_14 x64_19 Q Y10 true σ
   else
   ∃ (x75_35 : Int), acell ro σ ((⟨x9_18, 0, none⟩ : Addr).add 3) = some (.int .i64 x75_35) ∧
   j21_law07_ZtreeShape B ro x9_18 x19_1 x24_2 x49_11 x53_14 x64_19 Q Y10 (!(decide (x75_35 = (x64_19.len : Int)))) σ) [.int .i64 x57_16a, .int .i64 x57_16b, .int .i64 x57_16c, .int .i64 x57_16d] 0 σ
 else
 j8_law07_ZtreeShape B ro Q σ

def j6_law07_ZtreeShape (B : World) (ro : AH) (x19_1 : Option Addr) (x24_2 : Sl) (Q : Bool → AH → Prop) (x46_7 : Bool) (σ : AH) : Prop :=
 if x46_7 = true then
  Q false σ
 else
 lfpD (l10_law07_ZtreeShape B ro x19_1 x24_2 Q ) (0) σ

def j4_law07_ZtreeShape (B : World) (ro : AH) (x19_1 : Option Addr) (x24_2 : Sl) (Q : Bool → AH → Prop) (x35_5 : Bool) (σ : AH) : Prop :=
 if (x35_5 = true) ∨ ((x24_2.len : Int) = 0) then
  j6_law07_ZtreeShape B ro x19_1 x24_2 Q true σ
 else
 ∃ p43_36 : Addr, x24_2.a = some p43_36 ∧ (0 : Int) ≤ 0 ∧ 0 < (x24_2.len : Int) ∧
 ∃ (x44_37 : ByteArray), acell ro σ (p43_36.add (Int.toNat 0 * 1)) = some (.string x44_37) ∧
 j6_law07_ZtreeShape B ro x19_1 x24_2 Q (!(decide (x44_37 = (⟨#[47]⟩ : ByteArray)))) σ

def f_law07_ZtreeShape (B : World) (ro : AH) (a0 : Sl) (σ : AH) (Q : Bool → AH → Prop) : Prop :=
 c_law07_made B ro a0 σ fun x19_1 σ =>
 if x19_1 = none then
  Q false σ
 else
 c_ztree_Tree_Paths B ro x19_1 (⟨#[47]⟩ : ByteArray) σ fun x24_2 x24_3 σ =>
 if ¬ (x24_3 = 0) then
  j4_law07_ZtreeShape B ro x19_1 x24_2 Q true σ
 else
 c_ztree_Tree_Size B ro x19_1 σ fun x33_38 σ =>
 j4_law07_ZtreeShape B ro x19_1 x24_2 Q (!(decide ((x24_2.len : Int) = x33_38))) σ

set_option maxRecDepth 100000 in
set_option maxHeartbeats 4000000 in
theorem law07_ZtreeShape_ok {B : World} {ro : AH} {a0 : Sl} {σ : AH} {Q : Bool → AH → Prop} (h : Sep ro σ → f_law07_ZtreeShape B ro a0 σ Q) : c_law07_ZtreeShape B ro a0 σ Q := by
  refine ACalls.of_sep fun hsep => ?_
  replace h := h hsep
  refine ACalls.of_body (args := [Sl.v a0]) Tryz.func3 rfl (by rw [Tryz.ntmps3]; simp) ?_
  rw [Tryz.ntmps3]
  unfold f_law07_ZtreeShape at h
  refine AW.seq ?_
  refine AW.reg ?_
  refine Lp (V_asg rfl rfl) rfl rfl ?_
  refine Lnil ?_
  refine thenN ?_
  refine AW.seq ?_
  refine AW.reg ?_
  refine Lp (V_move rfl rfl) rfl rfl ?_
  refine Ls rfl rfl (X_call rfl Tryz.func14 rfl rfl rfl (ACalls.mono h ?_))
  rintro v σ ⟨x19_1, rfl, h⟩
  refine Lp (V_asg rfl rfl) rfl rfl ?_
  refine Lnil ?_
  refine thenN ?_
  refine AW.seq ?_
  refine AW.seq ?_
  refine AW.reg ?_
  refine Lp (V_move rfl rfl) rfl rfl ?_
  refine Lp (V_eqP rfl Tryz.underlying23 rfl rfl) rfl rfl ?_
  refine Lnil ?_
  refine thenN ?_
  refine AW.iff rfl isNone_iff h (fun h => ?_) (fun h => ?_)
  · refine AW.seq ?_
    refine AW.reg ?_
    refine Lp (V_asg rfl rfl) rfl rfl ?_
    refine Lnil ?_
    refine thenN ?_
    refine AW.ret ?_
    refine thenR ?_
    exact bR1 Tryz.results3 rfl ⟨_, rfl, h⟩
  refine AW.skip ?_
  refine thenN ?_
  refine AW.seq ?_
  refine AW.reg ?_
  refine Lp (V_move rfl rfl) rfl rfl ?_
  refine Ls rfl rfl (X_call rfl Tryz.func15 rfl rfl rfl (ACalls.mono h ?_))
  rintro v σ ⟨x24_2, x24_3, rfl, h⟩
  refine Lp (V_move rfl rfl) rfl rfl ?_
  refine Lp (V_ext rfl rfl rfl) rfl rfl ?_
  refine Lp (V_ext rfl rfl rfl) rfl rfl ?_
  refine Lp (V_asg rfl rfl) rfl rfl ?_
  refine Lp (V_asg rfl rfl) rfl rfl ?_
  refine Lnil ?_
  refine thenN ?_
  refine AW.seq ?_
  refine AW.seq ?_
  refine AW.reg ?_
  refine Lp (V_move rfl rfl) rfl rfl ?_
  refine Lp (V_neq rfl rfl rfl) rfl rfl ?_
  refine Lp (V_move rfl rfl) rfl rfl ?_
  refine LsplitJ 6 (!(decide (x24_3 = 0))) (bnot_iff decide_eq_true_iff) h (fun fr σ => ∃ (x35_5 : Bool), FrLe [(3, .pointer x19_1), (4, Sl.v x24_2), (35, .bool x35_5)] fr ∧ j4_law07_ZtreeShape B ro x19_1 x24_2 Q x35_5 σ) ?_ ?_ ?_
  · intro h e2 hk2
    refine Ln rfl rfl rfl rfl (.inl (by rw [e2]; rfl)) ?_
    refine Ln rfl rfl rfl rfl (.inl (by rw [e2]; rfl)) ?_
    refine Ln rfl rfl rfl rfl (.inl (by rw [e2]; rfl)) ?_
    refine Ln rfl rfl rfl rfl (.inl (by rw [e2]; rfl)) ?_
    refine Ln rfl rfl rfl rfl (.inl (by rw [e2]; rfl)) ?_
    refine Lp (V_pickT rfl (evb e2) rfl) rfl rfl ?_
    exact hk2 _ _ ⟨_, (FrLe.cons rfl (FrLe.cons rfl (FrLe.cons rfl (FrLe.nil _)))), h⟩
  · intro h e2 hk2
    refine Lypb (V_move rfl rfl) rfl rfl rfl rfl e2 ?_
    refine Lypb (V_lenL rfl rfl Tryz.underlying25 rfl rfl) rfl rfl rfl rfl e2 ?_
    refine Lypb (V_move rfl rfl) rfl rfl rfl rfl e2 ?_
    refine Lyb rfl rfl rfl rfl e2 (X_call rfl Tryz.func16 rfl rfl rfl (ACalls.mono h ?_))
    rintro v σ ⟨x33_38, rfl, h⟩
    refine Lypb (V_neq rfl rfl rfl) rfl rfl rfl rfl e2 ?_
    refine Lp (V_pickF rfl (evb e2) rfl) rfl rfl ?_
    exact hk2 _ _ ⟨_, (FrLe.cons rfl (FrLe.cons rfl (FrLe.cons rfl (FrLe.nil _)))), h⟩
  rintro fr σ ⟨x35_5, hl, h⟩
  unfold j4_law07_ZtreeShape at h
  refine Lfr hl ?_
  refine Lp (V_move rfl rfl) rfl rfl ?_
  refine Lsplit 4 x35_5 [(3, .pointer x19_1), (4, Sl.v x24_2), (40, .bool (x35_5 || (decide ((x24_2.len : Int) = 0))))] ?_ ?_ ?_
  · intro e9 hk9
    refine Ln rfl rfl rfl rfl (.inl (by rw [e9]; rfl)) ?_
    refine Ln rfl rfl rfl rfl (.inl (by rw [e9]; rfl)) ?_
    refine Ln rfl rfl rfl rfl (.inl (by rw [e9]; rfl)) ?_
    refine Lp (V_pickT rfl (evb e9) rfl) rfl rfl ?_
    exact hk9 _ (FrLe.cons rfl (FrLe.cons rfl (FrLe.cons (by rw [e9]; rfl) (FrLe.nil _))))
  · intro e9 hk9
    refine Lypb (V_move rfl rfl) rfl rfl rfl rfl e9 ?_
    refine Lypb (V_lenL rfl rfl Tryz.underlying25 rfl rfl) rfl rfl rfl rfl e9 ?_
    refine Lypb (V_eql rfl rfl rfl) rfl rfl rfl rfl e9 ?_
    refine Lp (V_pickF rfl (evb e9) rfl) rfl rfl ?_
    exact hk9 _ (FrLe.cons rfl (FrLe.cons rfl (FrLe.cons (by rw [e9]; rfl) (FrLe.nil _))))
  intro fr hl
  refine Lfr hl ?_
  refine Lp (V_move rfl rfl) rfl rfl ?_
  refine LsplitJ 5 (x35_5 || (decide ((x24_2.len : Int) = 0))) (bor_iff Iff.rfl decide_eq_true_iff) h (fun fr σ => ∃ (x46_7 : Bool), FrLe [(3, .pointer x19_1), (4, Sl.v x24_2), (46, .bool x46_7)] fr ∧ j6_law07_ZtreeShape B ro x19_1 x24_2 Q x46_7 σ) ?_ ?_ ?_
  · intro h e14 hk14
    refine Ln rfl rfl rfl rfl (.inl (by rw [e14]; rfl)) ?_
    refine Ln rfl rfl rfl rfl (.inl (by rw [e14]; rfl)) ?_
    refine Ln rfl rfl rfl rfl (.inl (by rw [e14]; rfl)) ?_
    refine Ln rfl rfl rfl rfl (.inl (by rw [e14]; rfl)) ?_
    refine Lp (V_pickT rfl (evb e14) rfl) rfl rfl ?_
    exact hk14 _ _ ⟨_, (FrLe.cons rfl (FrLe.cons rfl (FrLe.cons rfl (FrLe.nil _)))), h⟩
  · intro h e14 hk14
    refine Lypb (V_move rfl rfl) rfl rfl rfl rfl e14 ?_
    obtain ⟨p43_36, ha, h0, h1, h⟩ := h
    refine Lypb (V_ixA rfl Tryz.underlying25 ty9 (ixL rfl ha) rfl h0 h1) rfl rfl rfl rfl e14 ?_
    obtain ⟨x44_37, hc, h⟩ := h
    refine Lyb rfl rfl rfl rfl e14 (X_ld rfl Tryz.underlying9 rfl rfl hc ?_)
    refine Lypb (V_neqS rfl rfl rfl) rfl rfl rfl rfl e14 ?_
    refine Lp (V_pickF rfl (evb e14) rfl) rfl rfl ?_
    exact hk14 _ _ ⟨_, (FrLe.cons rfl (FrLe.cons rfl (FrLe.cons rfl (FrLe.nil _)))), h⟩
  rintro fr σ ⟨x46_7, hl, h⟩
  unfold j6_law07_ZtreeShape at h
  refine Lfr hl ?_
  refine Lnil ?_
  refine thenN ?_
  refine AW.iff rfl Iff.rfl h (fun h => ?_) (fun h => ?_)
  · refine AW.seq ?_
    refine AW.reg ?_
    refine Lp (V_asg rfl rfl) rfl rfl ?_
    refine Lnil ?_
    refine thenN ?_
    refine AW.ret ?_
    refine thenR ?_
    exact bR1 Tryz.results3 rfl ⟨_, rfl, h⟩
  refine AW.skip ?_
  refine thenN ?_
  refine AW.seqJ (fun fr σ => FrLe [] fr ∧ j8_law07_ZtreeShape B ro Q σ) ?_ ?_
  · rintro fr σ ⟨hl, h⟩
    refine AW.weaken ?_ hl (HLe.refl _)
    unfold j8_law07_ZtreeShape at h
    refine AW.seq ?_
    refine AW.reg ?_
    refine Ls rfl rfl (X_call rfl Tryz.func20 rfl rfl rfl (ACalls.mono h ?_))
    rintro v σ ⟨x118_9, rfl, h⟩
    refine Lp (V_asg rfl rfl) rfl rfl ?_
    refine Lnil ?_
    refine thenN ?_
    refine AW.ret ?_
    exact bR1 Tryz.results3 rfl ⟨_, rfl, h⟩
  refine AW.seq ?_
  refine AW.reg ?_
  refine Lp (V_move rfl rfl) rfl rfl ?_
  refine Lp (V_lenL rfl rfl Tryz.underlying25 rfl rfl) rfl rfl ?_
  refine Lp (V_move rfl rfl) rfl rfl ?_
  refine Lnil ?_
  refine thenN ?_
  refine AW.block ?_
  refine ARound.loop (fr' := [(3, .pointer x19_1), (47, Sl.v x24_2), (48, .int .i64 (x24_2.len : Int)), (49, .int .i64 0)]) ?_ (FrLe.cons rfl (FrLe.cons rfl (FrLe.cons rfl (FrLe.cons rfl (FrLe.nil _)))))
  refine h (fun x49_11 σ => ARound _ _ _ _ _ _ [(3, .pointer x19_1), (47, Sl.v x24_2), (48, .int .i64 (x24_2.len : Int)), (49, .int .i64 x49_11)] σ) ?_
  rintro x49_11 σ Y10 hY10 h
  show AW _ _ _ _ _ _ _ _
  unfold l10_law07_ZtreeShape at h
  refine AW.seq ?_
  refine AW.reg ?_
  refine Lp (V_lss rfl rfl rfl) rfl rfl ?_
  refine Lnil ?_
  refine thenN ?_
  refine AW.seq ?_
  refine AW.iff rfl decide_eq_true_iff h (fun h => ?_) (fun h => ?_)
  rotate_left
  · refine AW.exit ?_
    refine thenE ?_
    refine thenE ?_
    refine blockE ?_
    refine thenN ?_
    exact ⟨(FrLe.nil _), h⟩
  refine AW.skip ?_
  refine thenN ?_
  refine AW.seqJ (fun fr σ => FrLe [(3, .pointer x19_1), (47, Sl.v x24_2), (48, .int .i64 (x24_2.len : Int)), (49, .int .i64 x49_11)] fr ∧ j12_law07_ZtreeShape B ro x19_1 x24_2 x49_11 Q Y10 σ) ?_ ?_
  · rintro fr σ ⟨hl, h⟩
    refine AW.weaken ?_ hl (HLe.refl _)
    unfold j12_law07_ZtreeShape at h
    refine AW.reg ?_
    refine Lp (V_add rfl rfl rfl) rfl rfl ?_
    refine Lp (V_move rfl rfl) rfl rfl ?_
    refine Lnil ?_
    refine thenN ?_
    refine ARound.head (fr' := [(3, .pointer x19_1), (47, Sl.v x24_2), (48, .int .i64 (x24_2.len : Int)), (49, .int .i64 (IntKind.i64.wrap (x49_11 + 1)))]) ?_ (FrLe.cons rfl (FrLe.cons rfl (FrLe.cons rfl (FrLe.cons rfl (FrLe.nil _)))))
    exact hY10 _ _ h
  refine AW.block ?_
  refine AW.seq ?_
  refine AW.reg ?_
  refine Lp (V_move rfl rfl) rfl rfl ?_
  obtain ⟨p52_13, ha, h0, h1, h⟩ := h
  refine Lp (V_ixA rfl Tryz.underlying25 ty9 (ixL rfl ha) rfl h0 h1) rfl rfl ?_
  obtain ⟨x53_14, hc, h⟩ := h
  refine Ls rfl rfl (X_ld rfl Tryz.underlying9 rfl rfl hc ?_)
  refine Lp (V_asg rfl rfl) rfl rfl ?_
  refine Lp (V_asg rfl rfl) rfl rfl ?_
  refine Lnil ?_
  refine thenN ?_
  refine AW.seq ?_
  refine AW.reg ?_
  refine Lp (V_move rfl rfl) rfl rfl ?_
  refine Lp (V_move rfl rfl) rfl rfl ?_
  refine Ls rfl rfl (X_call rfl Tryz.func17 rfl rfl rfl (ACalls.mono h ?_))
  rintro v σ ⟨x57_15, x57_16a, x57_16b, x57_16c, x57_16d, x57_17, rfl, h⟩
  refine Lp (V_move rfl rfl) rfl rfl ?_
  refine Lp (V_ext rfl rfl rfl) rfl rfl ?_
  refine Lp (V_ext rfl rfl rfl) rfl rfl ?_
  refine Lp (V_ext rfl rfl rfl) rfl rfl ?_
  refine Ls rfl rfl (X_new (A_alloc rfl ty32) fun x9_18 g1 g2 => ?_)
  replace h := h x9_18 g1 g2
  refine Lp (V_asg rfl rfl) rfl rfl ?_
  refine Ls rfl rfl (X_st rfl ty32 rfl rfl rfl rfl (stN_mono h fun σ h => ?_))
  refine Lp (V_asg rfl rfl) rfl rfl ?_
  refine Lnil ?_
  refine thenN ?_
  refine AW.seq ?_
  refine AW.reg ?_
  refine Lp (V_move rfl rfl) rfl rfl ?_
  refine Lp (V_move rfl rfl) rfl rfl ?_
  refine Ls rfl rfl (X_call rfl Tryz.func18 rfl rfl rfl (ACalls.mono h ?_))
  rintro v σ ⟨x64_19, x64_20, rfl, h⟩
  refine Lp (V_move rfl rfl) rfl rfl ?_
  refine Lp (V_ext rfl rfl rfl) rfl rfl ?_
  refine Lp (V_ext rfl rfl rfl) rfl rfl ?_
  refine Lp (V_asg rfl rfl) rfl rfl ?_
  refine Lp (V_asg rfl rfl) rfl rfl ?_
  refine Lnil ?_
  refine thenN ?_
  refine AW.seq ?_
  refine AW.seq ?_
  refine AW.reg ?_
  refine Lp (V_move rfl rfl) rfl rfl ?_
  refine Lp (V_neq rfl rfl rfl) rfl rfl ?_
  refine Lp (V_move rfl rfl) rfl rfl ?_
  refine Lsplit 3 (!(decide (x57_17 = 0))) [(3, .pointer x19_1), (6, .int .i64 x49_11), (7, .string x53_14), (9, .pointer (some ⟨x9_18, 0, none⟩)), (11, Sl.v x64_19), (47, Sl.v x24_2), (48, .int .i64 (x24_2.len : Int)), (49, .int .i64 x49_11), (72, .bool ((!(decide (x57_17 = 0))) || (!(decide (x64_20 = 0)))))] ?_ ?_ ?_
  · intro e2 hk2
    refine Ln rfl rfl rfl rfl (.inl (by rw [e2]; rfl)) ?_
    refine Ln rfl rfl rfl rfl (.inl (by rw [e2]; rfl)) ?_
    refine Lp (V_pickT rfl (evb e2) rfl) rfl rfl ?_
    exact hk2 _ (FrLe.cons rfl (FrLe.cons rfl (FrLe.cons rfl (FrLe.cons rfl (FrLe.cons rfl (FrLe.cons rfl (FrLe.cons rfl (FrLe.cons rfl (FrLe.cons (by rw [e2]; rfl) (FrLe.nil _))))))))))
  · intro e2 hk2
    refine Lypb (V_move rfl rfl) rfl rfl rfl rfl e2 ?_
    refine Lypb (V_neq rfl rfl rfl) rfl rfl rfl rfl e2 ?_
    refine Lp (V_pickF rfl (evb e2) rfl) rfl rfl ?_
    exact hk2 _ (FrLe.cons rfl (FrLe.cons rfl (FrLe.cons rfl (FrLe.cons rfl (FrLe.cons rfl (FrLe.cons rfl (FrLe.cons rfl (FrLe.cons rfl (FrLe.cons (by rw [e2]; rfl) (FrLe.nil _))))))))))
  intro fr hl
  refine Lfr hl ?_
  refine Lp (V_move rfl rfl) rfl rfl ?_
  refine LsplitJ 6 ((!(decide (x57_17 = 0))) || (!(decide (x64_20 = 0)))) (bor_iff (bnot_iff decide_eq_true_iff) (bnot_iff decide_eq_true_iff)) h (fun fr σ => ∃ (x79_22 : Bool), FrLe [(3, .pointer x19_1), (6, .int .i64 x49_11), (7, .string x53_14), (9, .pointer (some ⟨x9_18, 0, none⟩)), (11, Sl.v x64_19), (47, Sl.v x24_2), (48, .int .i64 (x24_2.len : Int)), (49, .int .i64 x49_11), (79, .bool x79_22)] fr ∧ j21_law07_ZtreeShape B ro x9_18 x19_1 x24_2 x49_11 x53_14 x64_19 Q Y10 x79_22 σ) ?_ ?_ ?_
  · intro h e6 hk6
    refine Ln rfl rfl rfl rfl (.inl (by rw [e6]; rfl)) ?_
    refine Ln rfl rfl rfl rfl (.inl (by rw [e6]; rfl)) ?_
    refine Ln rfl rfl rfl rfl (.inl (by rw [e6]; rfl)) ?_
    refine Ln rfl rfl rfl rfl (.inl (by rw [e6]; rfl)) ?_
    refine Ln rfl rfl rfl rfl (.inl (by rw [e6]; rfl)) ?_
    refine Lp (V_pickT rfl (evb e6) rfl) rfl rfl ?_
    exact hk6 _ _ ⟨_, (FrLe.cons rfl (FrLe.cons rfl (FrLe.cons rfl (FrLe.cons rfl (FrLe.cons rfl (FrLe.cons rfl (FrLe.cons rfl (FrLe.cons rfl (FrLe.cons rfl (FrLe.nil _)))))))))), h⟩
  · intro h e6 hk6
    refine Lypb (V_fld rfl Tryz.underlying32 rfl ty3 (by decide) rfl) rfl rfl rfl rfl e6 ?_
    obtain ⟨x75_35, hc, h⟩ := h
    refine Lyb rfl rfl rfl rfl e6 (X_ld rfl Tryz.underlying3 rfl rfl hc ?_)
    refine Lypb (V_move rfl rfl) rfl rfl rfl rfl e6 ?_
    refine Lypb (V_lenL rfl rfl Tryz.underlying25 rfl rfl) rfl rfl rfl rfl e6 ?_
    refine Lypb (V_neq rfl rfl rfl) rfl rfl rfl rfl e6 ?_
    refine Lp (V_pickF rfl (evb e6) rfl) rfl rfl ?_
    exact hk6 _ _ ⟨_, (FrLe.cons rfl (FrLe.cons rfl (FrLe.cons rfl (FrLe.cons rfl (FrLe.cons rfl (FrLe.cons rfl (FrLe.cons rfl (FrLe.cons rfl (FrLe.cons rfl (FrLe.nil _)))))))))), h⟩
  rintro fr σ ⟨x79_22, hl, h⟩
  unfold j21_law07_ZtreeShape at h
  refine Lfr hl ?_
  refine Lp (V_move rfl rfl) rfl rfl ?_
  refine LsplitJ 6 x79_22 Iff.rfl h (fun fr σ => ∃ (x86_24 : Bool), FrLe [(3, .pointer x19_1), (6, .int .i64 x49_11), (7, .string x53_14), (9, .pointer (some ⟨x9_18, 0, none⟩)), (11, Sl.v x64_19), (47, Sl.v x24_2), (48, .int .i64 (x24_2.len : Int)), (49, .int .i64 x49_11), (86, .bool x86_24)] fr ∧ j23_law07_ZtreeShape B ro x9_18 x19_1 x24_2 x49_11 x53_14 x64_19 Q Y10 x86_24 σ) ?_ ?_ ?_
  · intro h e13 hk13
    refine Ln rfl rfl rfl rfl (.inl (by rw [e13]; rfl)) ?_
    refine Ln rfl rfl rfl rfl (.inl (by rw [e13]; rfl)) ?_
    refine Ln rfl rfl rfl rfl (.inl (by rw [e13]; rfl)) ?_
    refine Ln rfl rfl rfl rfl (.inl (by rw [e13]; rfl)) ?_
    refine Ln rfl rfl rfl rfl (.inl (by rw [e13]; rfl)) ?_
    refine Lp (V_pickT rfl (evb e13) rfl) rfl rfl ?_
    exact hk13 _ _ ⟨_, (FrLe.cons rfl (FrLe.cons rfl (FrLe.cons rfl (FrLe.cons rfl (FrLe.cons rfl (FrLe.cons rfl (FrLe.cons rfl (FrLe.cons rfl (FrLe.cons rfl (FrLe.nil _)))))))))), h⟩
  · intro h e13 hk13
    refine Lypb (V_fld rfl Tryz.underlying32 rfl ty3 (by decide) rfl) rfl rfl rfl rfl e13 ?_
    obtain ⟨x82_34, hc, h⟩ := h
    refine Lyb rfl rfl rfl rfl e13 (X_ld rfl Tryz.underlying3 rfl rfl hc ?_)
    refine Lypb (V_move rfl rfl) rfl rfl rfl rfl e13 ?_
    refine Lypb (V_lenL rfl rfl Tryz.underlying25 rfl rfl) rfl rfl rfl rfl e13 ?_
    refine Lypb (V_lss rfl rfl rfl) rfl rfl rfl rfl e13 ?_
    refine Lp (V_pickF rfl (evb e13) rfl) rfl rfl ?_
    exact hk13 _ _ ⟨_, (FrLe.cons rfl (FrLe.cons rfl (FrLe.cons rfl (FrLe.cons rfl (FrLe.cons rfl (FrLe.cons rfl (FrLe.cons rfl (FrLe.cons rfl (FrLe.cons rfl (FrLe.nil _)))))))))), h⟩
  rintro fr σ ⟨x86_24, hl, h⟩
  unfold j23_law07_ZtreeShape at h
  refine Lfr hl ?_
  refine Lp (V_move rfl rfl) rfl rfl ?_
  refine LsplitJ 9 x86_24 Iff.rfl h (fun fr σ => ∃ (x96_26 : Bool), FrLe [(3, .pointer x19_1), (6, .int .i64 x49_11), (7, .string x53_14), (47, Sl.v x24_2), (48, .int .i64 (x24_2.len : Int)), (49, .int .i64 x49_11), (96, .bool x96_26)] fr ∧ j25_law07_ZtreeShape B ro x19_1 x24_2 x49_11 x53_14 Q Y10 x96_26 σ) ?_ ?_ ?_
  · intro h e20 hk20
    refine Ln rfl rfl rfl rfl (.inl (by rw [e20]; rfl)) ?_
    refine Ln rfl rfl rfl rfl (.inl (by rw [e20]; rfl)) ?_
    refine Ln rfl rfl rfl rfl (.inl (by rw [e20]; rfl)) ?_
    refine Ln rfl rfl rfl rfl (.inl (by rw [e20]; rfl)) ?_
    refine Ln rfl rfl rfl rfl (.inr rfl) ?_
    refine Ln rfl rfl rfl rfl (.inr rfl) ?_
    refine Ln rfl rfl rfl rfl (.inr rfl) ?_
    refine Ln rfl rfl rfl rfl (.inl (by rw [e20]; rfl)) ?_
    refine Lp (V_pickT rfl (evb e20) rfl) rfl rfl ?_
    exact hk20 _ _ ⟨_, (FrLe.cons rfl (FrLe.cons rfl (FrLe.cons rfl (FrLe.cons rfl (FrLe.cons rfl (FrLe.cons rfl (FrLe.cons rfl (FrLe.nil _)))))))), h⟩
  · intro h e20 hk20
    refine Lypb (V_fld rfl Tryz.underlying32 rfl ty3 (by decide) rfl) rfl rfl rfl rfl e20 ?_
    obtain ⟨x89_33, hc, h⟩ := h
    refine Lyb rfl rfl rfl rfl e20 (X_ld rfl Tryz.underlying3 rfl rfl hc ?_)
    refine Lypb (V_neq rfl rfl rfl) rfl rfl rfl rfl e20 ?_
    refine Lypb (V_move rfl rfl) rfl rfl rfl rfl e20 ?_
    refine Lsplit 4 (!(decide (x89_33 = 0))) [(3, .pointer x19_1), (6, .int .i64 x49_11), (7, .string x53_14), (47, Sl.v x24_2), (48, .int .i64 (x24_2.len : Int)), (49, .int .i64 x49_11), (87, .bool x86_24), (95, .bool ((!(decide (x89_33 = 0))) && (decide (0 < (x64_19.len : Int)))))] ?_ ?_ ?_
    · intro e24 hk24
      refine Lypb (V_move rfl rfl) rfl rfl rfl rfl e24 ?_
      refine Lypb (V_lenL rfl rfl Tryz.underlying25 rfl rfl) rfl rfl rfl rfl e24 ?_
      refine Lypb (V_gtr rfl rfl rfl) rfl rfl rfl rfl e24 ?_
      refine Lypb (V_pickT rfl (evb e24) rfl) rfl rfl rfl rfl e20 ?_
      exact hk24 _ (FrLe.cons rfl (FrLe.cons rfl (FrLe.cons rfl (FrLe.cons rfl (FrLe.cons rfl (FrLe.cons rfl (FrLe.cons rfl (FrLe.cons (by rw [e24]; rfl) (FrLe.nil _)))))))))
    · intro e24 hk24
      refine Ln rfl rfl rfl rfl (.inl (by rw [e24]; rfl)) ?_
      refine Ln rfl rfl rfl rfl (.inl (by rw [e24]; rfl)) ?_
      refine Ln rfl rfl rfl rfl (.inl (by rw [e24]; rfl)) ?_
      refine Lypb (V_pickF rfl (evb e24) rfl) rfl rfl rfl rfl e20 ?_
      exact hk24 _ (FrLe.cons rfl (FrLe.cons rfl (FrLe.cons rfl (FrLe.cons rfl (FrLe.cons rfl (FrLe.cons rfl (FrLe.cons rfl (FrLe.cons (by rw [e24]; rfl) (FrLe.nil _)))))))))
    intro fr hl
    refine Lfr hl ?_
    refine Lp (V_pickF rfl (evb e20) rfl) rfl rfl ?_
    exact hk20 _ _ ⟨_, (FrLe.cons rfl (FrLe.cons rfl (FrLe.cons rfl (FrLe.cons rfl (FrLe.cons rfl (FrLe.cons rfl (FrLe.cons rfl (FrLe.nil _)))))))), h⟩
  rintro fr σ ⟨x96_26, hl, h⟩
  unfold j25_law07_ZtreeShape at h
  refine Lfr hl ?_
  refine Lnil ?_
  refine thenN ?_
  refine AW.iff rfl Iff.rfl h (fun h => ?_) (fun h => ?_)
  · refine AW.seq ?_
    refine AW.reg ?_
    refine Lp (V_asg rfl rfl) rfl rfl ?_
    refine Lnil ?_
    refine thenN ?_
    refine AW.ret ?_
    refine thenR ?_
    refine blockR ?_
    refine thenR ?_
    refine thenR ?_
    refine blockR ?_
    refine thenR ?_
    exact bR1 Tryz.results3 rfl ⟨_, rfl, h⟩
  refine AW.skip ?_
  refine thenN ?_
  refine AW.seq ?_
  refine AW.seq ?_
  refine AW.reg ?_
  refine Lp (V_move rfl rfl) rfl rfl ?_
  refine Lp (V_eql rfl rfl rfl) rfl rfl ?_
  refine Lnil ?_
  refine thenN ?_
  refine AW.iff rfl decide_eq_true_iff h (fun h => ?_) (fun h => ?_)
  · refine AW.exit ?_
    refine thenE ?_
    refine blockE ?_
    refine thenN ?_
    exact ⟨(FrLe.cons rfl (FrLe.cons rfl (FrLe.cons rfl (FrLe.cons rfl (FrLe.nil _))))), h⟩
  refine AW.skip ?_
  refine thenN ?_
  refine AW.seq ?_
  refine AW.reg ?_
  refine Lp (V_move rfl rfl) rfl rfl ?_
  refine Ls rfl rfl (X_call rfl Tryz.func19 rfl rfl rfl (ACalls.mono h ?_))
  rintro v σ ⟨x101_27, x101_28, rfl, h⟩
  refine Lp (V_move rfl rfl) rfl rfl ?_
  refine Lp (V_ext rfl rfl rfl) rfl rfl ?_
  refine Lp (V_ext rfl rfl rfl) rfl rfl ?_
  refine Lp (V_asg rfl rfl) rfl rfl ?_
  refine Lp (V_asg rfl rfl) rfl rfl ?_
  refine Lnil ?_
  refine thenN ?_
  refine AW.seq ?_
  refine AW.reg ?_
  refine Lp (V_move rfl rfl) rfl rfl ?_
  refine Lp (V_move rfl rfl) rfl rfl ?_
  refine Ls rfl rfl (X_call rfl Tryz.func17 rfl rfl rfl (ACalls.mono h ?_))
  rintro v σ ⟨x107_29, x107_30a, x107_30b, x107_30c, x107_30d, x107_31, rfl, h⟩
  refine Lp (V_move rfl rfl) rfl rfl ?_
  refine Lp (V_ext rfl rfl rfl) rfl rfl ?_
  refine Lp (V_ext rfl rfl rfl) rfl rfl ?_
  refine Lp (V_ext rfl rfl rfl) rfl rfl ?_
  refine Ls rfl rfl (X_new (A_alloc rfl ty32) fun x16_32 g1 g2 => ?_)
  replace h := h x16_32 g1 g2
  refine Lp (V_asg rfl rfl) rfl rfl ?_
  refine Ls rfl rfl (X_st rfl ty32 rfl rfl rfl rfl (stN_mono h fun σ h => ?_))
  refine Lp (V_asg rfl rfl) rfl rfl ?_
  refine Lnil ?_
  refine thenN ?_
  refine AW.seq ?_
  refine AW.reg ?_
  refine Lp (V_move rfl rfl) rfl rfl ?_
  refine Lp (V_not rfl rfl) rfl rfl ?_
  refine Lp (V_move rfl rfl) rfl rfl ?_
  refine Lsplit 3 (!x101_28) [(3, .pointer x19_1), (47, Sl.v x24_2), (48, .int .i64 (x24_2.len : Int)), (49, .int .i64 x49_11), (116, .bool ((!x101_28) || (!(decide (x107_31 = 0)))))] ?_ ?_ ?_
  · intro e2 hk2
    refine Ln rfl rfl rfl rfl (.inl (by rw [e2]; rfl)) ?_
    refine Ln rfl rfl rfl rfl (.inl (by rw [e2]; rfl)) ?_
    refine Lp (V_pickT rfl (evb e2) rfl) rfl rfl ?_
    exact hk2 _ (FrLe.cons rfl (FrLe.cons rfl (FrLe.cons rfl (FrLe.cons rfl (FrLe.cons (by rw [e2]; rfl) (FrLe.nil _))))))
  · intro e2 hk2
    refine Lypb (V_move rfl rfl) rfl rfl rfl rfl e2 ?_
    refine Lypb (V_neq rfl rfl rfl) rfl rfl rfl rfl e2 ?_
    refine Lp (V_pickF rfl (evb e2) rfl) rfl rfl ?_
    exact hk2 _ (FrLe.cons rfl (FrLe.cons rfl (FrLe.cons rfl (FrLe.cons rfl (FrLe.cons (by rw [e2]; rfl) (FrLe.nil _))))))
  intro fr hl
  refine Lfr hl ?_
  refine Lnil ?_
  refine thenN ?_
  refine AW.iff rfl (bor_iff (bnot_iff Iff.rfl) (bnot_iff decide_eq_true_iff)) h (fun h => ?_) (fun h => ?_)
  rotate_left
  · refine AW.skip ?_
    refine blockN ?_
    refine thenN ?_
    exact ⟨(FrLe.cons rfl (FrLe.cons rfl (FrLe.cons rfl (FrLe.cons rfl (FrLe.nil _))))), h⟩
  refine AW.seq ?_
  refine AW.reg ?_
  refine Lp (V_asg rfl rfl) rfl rfl ?_
  refine Lnil ?_
  refine thenN ?_
  refine AW.ret ?_
  refine blockR ?_
  refine thenR ?_
  refine thenR ?_
  refine blockR ?_
  refine thenR ?_
  exact bR1 Tryz.results3 rfl ⟨_, rfl, h⟩

def j2_law07_made (B : World) (ro : AH) (x6_1 : Option Addr) (Q : Option Addr → AH → Prop) (σ : AH) : Prop :=
 Q x6_1 σ

def j5_law07_made (B : World) (ro : AH) (a0 : Sl) (x6_1 : Option Addr) (x11_4 : Int) (Q : Option Addr → AH → Prop) (Y3 : (Int) → AH → Prop) (σ : AH) : Prop :=
 Y3 (IntKind.i64.wrap (x11_4 + 1)) σ

def l3_law07_made (B : World) (ro : AH) (a0 : Sl) (x6_1 : Option Addr) (Q : Option Addr → AH → Prop) : (Int) → AH → ((Int) → AH → Prop) → Prop := fun x11_4 σ Y3 =>
 if x11_4 < (a0.len : Int) then
  ∃ p13_6 : Addr, a0.a = some p13_6 ∧ (0 : Int) ≤ x11_4 ∧ x11_4 < (a0.len : Int) ∧
  ∃ (x14_7a : Int) (x14_7b : Int) (x14_7c : ByteArray) (x14_7d : Sl) (x14_7e : Bool), cellsAt ro σ (p13_6.add (Int.toNat x11_4 * 5)) 0 [.int .i64 x14_7a, .int .i64 x14_7b, .string x14_7c, Sl.v x14_7d, .bool x14_7e] ∧
  nw ro σ (.cells #[.int .i64 0, .int .i64 0, .string ByteArray.empty, Sl.v (⟨none, 0, 0⟩ : Sl), .bool false] 40) fun x5_8 σ =>
  stN ⟨x5_8, 0, none⟩ (fun σ =>
   ∃ (x16_9 : Int), acell ro σ ⟨x5_8, 0, none⟩ = some (.int .i64 x16_9) ∧
   if x16_9 = 1 then
    lent σ fun ψ σ =>
     ∃ (x21_10 : ByteArray), acell (join ro ψ) (fun _ => none) ((⟨x5_8, 0, none⟩ : Addr).add 2) = some (.string x21_10) ∧
     ∃ (x26_11 : Int), acell (join ro ψ) (fun _ => none) ((⟨x5_8, 0, none⟩ : Addr).add 1) = some (.int .i64 x26_11) ∧
     ∃ (x28_12 : Bool), acell (join ro ψ) (fun _ => none) ((⟨x5_8, 0, none⟩ : Addr).add 4) = some (.bool x28_12) ∧
     ∃ (x23_13 : Sl), acell (join ro ψ) σ ((⟨x5_8, 0, none⟩ : Addr).add 3) = some (Sl.v x23_13) ∧
     c_ref01_Copy B (join ro ψ) x23_13 σ fun x24_14 σ =>
     c_ztree_Tree_Create B (join ro ψ) x6_1 x21_10 x24_14 x26_11 x28_12 σ fun x29_15 x29_16 σ =>
     (Disj ψ σ → (fun σ => 
      j5_law07_made B ro a0 x6_1 x11_4 Q Y3 σ) (join ψ σ))
   else
   if x16_9 = 2 then
    ∃ (x34_17 : ByteArray), acell ro σ ((⟨x5_8, 0, none⟩ : Addr).add 2) = some (.string x34_17) ∧
    ∃ (x36_18 : Int), acell ro σ ((⟨x5_8, 0, none⟩ : Addr).add 1) = some (.int .i64 x36_18) ∧
    c_ztree_Tree_Delete B ro x6_1 x34_17 x36_18 σ fun x37_19 σ =>
    j5_law07_made B ro a0 x6_1 x11_4 Q Y3 σ
   else
   if x16_9 = 3 then
    lent σ fun ψ σ =>
     ∃ (x42_20 : ByteArray), acell (join ro ψ) (fun _ => none) ((⟨x5_8, 0, none⟩ : Addr).add 2) = some (.string x42_20) ∧
     ∃ (x47_21 : Int), acell (join ro ψ) (fun _ => none) ((⟨x5_8, 0, none⟩ : Addr).add 1) = some (.int .i64 x47_21) ∧
     ∃ (x44_22 : Sl), acell (join ro ψ) σ ((⟨x5_8, 0, none⟩ : Addr).add 3) = some (Sl.v x44_22) ∧
     c_ref01_Copy B (join ro ψ) x44_22 σ fun x45_23 σ =>
     c_ztree_Tree_Set B (join ro ψ) x6_1 x42_20 x45_23 x47_21 σ fun x48_24 x48_25 σ =>
     (Disj ψ σ → (fun σ => 
      j5_law07_made B ro a0 x6_1 x11_4 Q Y3 σ) (join ψ σ))
   else
   j5_law07_made B ro a0 x6_1 x11_4 Q Y3 σ) [.int .i64 x14_7a, .int .i64 x14_7b, .string x14_7c, Sl.v x14_7d, .bool x14_7e] 0 σ
 else
 j2_law07_made B ro x6_1 Q σ

def f_law07_made (B : World) (ro : AH) (a0 : Sl) (σ : AH) (Q : Option Addr → AH → Prop) : Prop :=
 c_ztree_New B ro σ fun x6_1 σ =>
 if x6_1 = none then
  Q none σ
 else
 lfpD (l3_law07_made B ro a0 x6_1 Q ) (0) σ

set_option maxRecDepth 100000 in
set_option maxHeartbeats 4000000 in
theorem law07_made_ok {B : World} {ro : AH} {a0 : Sl} {σ : AH} {Q : Option Addr → AH → Prop} (h : Sep ro σ → f_law07_made B ro a0 σ Q) : c_law07_made B ro a0 σ Q := by
  refine ACalls.of_sep fun hsep => ?_
  replace h := h hsep
  refine ACalls.of_body (args := [Sl.v a0]) Tryz.func14 rfl (by rw [Tryz.ntmps14]; simp) ?_
  rw [Tryz.ntmps14]
  unfold f_law07_made at h
  refine AW.seq ?_
  refine AW.reg ?_
  refine Lp (V_asg rfl rfl) rfl rfl ?_
  refine Lnil ?_
  refine thenN ?_
  refine AW.seq ?_
  refine AW.reg ?_
  refine Ls rfl rfl (X_call rfl Tryz.func30 rfl rfl rfl (ACalls.mono h ?_))
  rintro v σ ⟨x6_1, rfl, h⟩
  refine Lp (V_asg rfl rfl) rfl rfl ?_
  refine Lnil ?_
  refine thenN ?_
  refine AW.seq ?_
  refine AW.seq ?_
  refine AW.reg ?_
  refine Lp (V_move rfl rfl) rfl rfl ?_
  refine Lp (V_eqP rfl Tryz.underlying23 rfl rfl) rfl rfl ?_
  refine Lnil ?_
  refine thenN ?_
  refine AW.iff rfl isNone_iff h (fun h => ?_) (fun h => ?_)
  · refine AW.seq ?_
    refine AW.reg ?_
    refine Lp (V_asg rfl rfl) rfl rfl ?_
    refine Lnil ?_
    refine thenN ?_
    refine AW.ret ?_
    refine thenR ?_
    exact bR1 Tryz.results14 rfl ⟨_, rfl, h⟩
  refine AW.skip ?_
  refine thenN ?_
  refine AW.seqJ (fun fr σ => FrLe [(3, .pointer x6_1)] fr ∧ j2_law07_made B ro x6_1 Q σ) ?_ ?_
  · rintro fr σ ⟨hl, h⟩
    refine AW.weaken ?_ hl (HLe.refl _)
    unfold j2_law07_made at h
    refine AW.seq ?_
    refine AW.reg ?_
    refine Lp (V_move rfl rfl) rfl rfl ?_
    refine Lp (V_asg rfl rfl) rfl rfl ?_
    refine Lnil ?_
    refine thenN ?_
    refine AW.ret ?_
    exact bR1 Tryz.results14 rfl ⟨_, rfl, h⟩
  refine AW.seq ?_
  refine AW.reg ?_
  refine Lp (V_move rfl rfl) rfl rfl ?_
  refine Lp (V_lenL rfl rfl Tryz.underlying22 rfl rfl) rfl rfl ?_
  refine Lp (V_move rfl rfl) rfl rfl ?_
  refine Lnil ?_
  refine thenN ?_
  refine AW.block ?_
  refine ARound.loop (fr' := [(3, .pointer x6_1), (9, Sl.v a0), (10, .int .i64 (a0.len : Int)), (11, .int .i64 0)]) ?_ (FrLe.cons rfl (FrLe.cons rfl (FrLe.cons rfl (FrLe.cons rfl (FrLe.nil _)))))
  refine h (fun x11_4 σ => ARound _ _ _ _ _ _ [(3, .pointer x6_1), (9, Sl.v a0), (10, .int .i64 (a0.len : Int)), (11, .int .i64 x11_4)] σ) ?_
  rintro x11_4 σ Y3 hY3 h
  show AW _ _ _ _ _ _ _ _
  unfold l3_law07_made at h
  refine AW.seq ?_
  refine AW.reg ?_
  refine Lp (V_lss rfl rfl rfl) rfl rfl ?_
  refine Lnil ?_
  refine thenN ?_
  refine AW.seq ?_
  refine AW.iff rfl decide_eq_true_iff h (fun h => ?_) (fun h => ?_)
  rotate_left
  · refine AW.exit ?_
    refine thenE ?_
    refine thenE ?_
    refine blockE ?_
    refine thenN ?_
    exact ⟨(FrLe.cons rfl (FrLe.nil _)), h⟩
  refine AW.skip ?_
  refine thenN ?_
  refine AW.seqJ (fun fr σ => FrLe [(3, .pointer x6_1), (9, Sl.v a0), (10, .int .i64 (a0.len : Int)), (11, .int .i64 x11_4)] fr ∧ j5_law07_made B ro a0 x6_1 x11_4 Q Y3 σ) ?_ ?_
  · rintro fr σ ⟨hl, h⟩
    refine AW.weaken ?_ hl (HLe.refl _)
    unfold j5_law07_made at h
    refine AW.reg ?_
    refine Lp (V_add rfl rfl rfl) rfl rfl ?_
    refine Lp (V_move rfl rfl) rfl rfl ?_
    refine Lnil ?_
    refine thenN ?_
    refine ARound.head (fr' := [(3, .pointer x6_1), (9, Sl.v a0), (10, .int .i64 (a0.len : Int)), (11, .int .i64 (IntKind.i64.wrap (x11_4 + 1)))]) ?_ (FrLe.cons rfl (FrLe.cons rfl (FrLe.cons rfl (FrLe.cons rfl (FrLe.nil _)))))
    exact hY3 _ _ h
  refine AW.block ?_
  refine AW.seq ?_
  refine AW.reg ?_
  obtain ⟨p13_6, ha, h0, h1, h⟩ := h
  refine Lp (V_ixA rfl Tryz.underlying22 ty40 (ixL rfl ha) rfl h0 h1) rfl rfl ?_
  obtain ⟨x14_7a, x14_7b, x14_7c, x14_7d, x14_7e, hc, h⟩ := h
  refine Ls rfl rfl (X_lda rfl Tryz.underlying40 rfl ty40 rfl hc ?_)
  refine Ls rfl rfl (X_new (A_alloc rfl ty40) fun x5_8 g1 g2 => ?_)
  replace h := h x5_8 g1 g2
  refine Ls rfl rfl (X_st rfl ty40 rfl rfl rfl rfl (stN_mono h fun σ h => ?_))
  refine Lnil ?_
  refine thenN ?_
  refine AW.seq ?_
  refine AW.reg ?_
  refine Lp (V_fld rfl Tryz.underlying40 rfl ty3 (by decide) rfl) rfl rfl ?_
  obtain ⟨x16_9, hc, h⟩ := h
  refine Ls rfl rfl (X_ld rfl Tryz.underlying3 rfl rfl hc ?_)
  refine Lnil ?_
  refine thenN ?_
  refine AW.block ?_
  refine AW.seq ?_
  refine AW.reg ?_
  refine Lp (V_eql rfl rfl rfl) rfl rfl ?_
  refine Lp (V_asg rfl rfl) rfl rfl ?_
  refine Lnil ?_
  refine thenN ?_
  refine AW.iff rfl decide_eq_true_iff h (fun h => ?_) (fun h => ?_)
  · refine AW.drawnL (fun i => ([0, 0, 0, 0, 3, 2, 0, 0, 0, 0, 2] : List Nat).getD i 2) [(4, 5), (4, 10)] [0, 1, 2, 3, 6, 7, 8, 9, 4, 5, 10] Tryz.mixed h (by decide +kernel) ?_
    clear h
    intro ψ σ h
    refine Dp rfl rfl rfl rfl (V_move rfl rfl) ?_
    refine Dp rfl rfl rfl rfl (V_fld rfl Tryz.underlying40 rfl ty9 (by decide) rfl) ?_
    obtain ⟨x21_10, hc, h⟩ := h
    refine Dp rfl rfl rfl rfl (V_ld rfl Tryz.underlying9 rfl rfl hc) ?_
    refine Dp rfl rfl rfl rfl (V_fld rfl Tryz.underlying40 rfl ty30 (by decide) rfl) ?_
    refine Dp rfl rfl rfl rfl (V_fld rfl Tryz.underlying40 rfl ty3 (by decide) rfl) ?_
    obtain ⟨x26_11, hc, h⟩ := h
    refine Dp rfl rfl rfl rfl (V_ld rfl Tryz.underlying3 rfl rfl hc) ?_
    refine Dp rfl rfl rfl rfl (V_fld rfl Tryz.underlying40 rfl ty4 (by decide) rfl) ?_
    obtain ⟨x28_12, hc, h⟩ := h
    refine Dp rfl rfl rfl rfl (V_ld rfl Tryz.underlying4 rfl rfl hc) ?_
    obtain ⟨x23_13, hc, h⟩ := h
    refine Dr rfl rfl rfl rfl (R_ld rfl Tryz.underlying30 rfl rfl hc) ?_
    refine Dg rfl rfl rfl rfl (X_call rfl Tryz.func23 rfl rfl rfl (ACalls.mono h ?_))
    rintro v σ ⟨x24_14, rfl, h⟩
    refine Dg rfl rfl rfl rfl (X_call rfl Tryz.func22 rfl rfl rfl (ACalls.mono h ?_))
    rintro v σ ⟨x29_15, x29_16, rfl, h⟩
    refine ⟨_, FrEq.refl _, fun hdj => ?_⟩
    replace h := h hdj
    refine blockN ?_
    refine blockN ?_
    refine thenN ?_
    exact ⟨(FrLe.cons rfl (FrLe.cons rfl (FrLe.cons rfl (FrLe.cons rfl (FrLe.nil _))))), h⟩
  refine AW.seq ?_
  refine AW.reg ?_
  refine Lp (V_eql rfl rfl rfl) rfl rfl ?_
  refine Lp (V_asg rfl rfl) rfl rfl ?_
  refine Lnil ?_
  refine thenN ?_
  refine AW.iff rfl decide_eq_true_iff h (fun h => ?_) (fun h => ?_)
  · refine AW.reg ?_
    refine Lp (V_move rfl rfl) rfl rfl ?_
    refine Lp (V_fld rfl Tryz.underlying40 rfl ty9 (by decide) rfl) rfl rfl ?_
    obtain ⟨x34_17, hc, h⟩ := h
    refine Ls rfl rfl (X_ld rfl Tryz.underlying9 rfl rfl hc ?_)
    refine Lp (V_fld rfl Tryz.underlying40 rfl ty3 (by decide) rfl) rfl rfl ?_
    obtain ⟨x36_18, hc, h⟩ := h
    refine Ls rfl rfl (X_ld rfl Tryz.underlying3 rfl rfl hc ?_)
    refine Ls rfl rfl (X_call rfl Tryz.func24 rfl rfl rfl (ACalls.mono h ?_))
    rintro v σ ⟨x37_19, rfl, h⟩
    refine Lnil ?_
    refine blockN ?_
    refine blockN ?_
    refine thenN ?_
    exact ⟨(FrLe.cons rfl (FrLe.cons rfl (FrLe.cons rfl (FrLe.cons rfl (FrLe.nil _))))), h⟩
  refine AW.seq ?_
  refine AW.reg ?_
  refine Lp (V_eql rfl rfl rfl) rfl rfl ?_
  refine Lp (V_asg rfl rfl) rfl rfl ?_
  refine Lnil ?_
  refine thenN ?_
  refine AW.iff rfl decide_eq_true_iff h (fun h => ?_) (fun h => ?_)
  rotate_left
  · refine AW.skip ?_
    refine blockN ?_
    refine blockN ?_
    refine thenN ?_
    exact ⟨(FrLe.cons rfl (FrLe.cons rfl (FrLe.cons rfl (FrLe.cons rfl (FrLe.nil _))))), h⟩
  refine AW.drawnL (fun i => ([0, 0, 0, 0, 3, 2, 0, 0, 2] : List Nat).getD i 2) [(4, 5), (4, 8)] [0, 1, 2, 3, 6, 7, 4, 5, 8] Tryz.mixed h (by decide +kernel) ?_
  clear h
  intro ψ σ h
  refine Dp rfl rfl rfl rfl (V_move rfl rfl) ?_
  refine Dp rfl rfl rfl rfl (V_fld rfl Tryz.underlying40 rfl ty9 (by decide) rfl) ?_
  obtain ⟨x42_20, hc, h⟩ := h
  refine Dp rfl rfl rfl rfl (V_ld rfl Tryz.underlying9 rfl rfl hc) ?_
  refine Dp rfl rfl rfl rfl (V_fld rfl Tryz.underlying40 rfl ty30 (by decide) rfl) ?_
  refine Dp rfl rfl rfl rfl (V_fld rfl Tryz.underlying40 rfl ty3 (by decide) rfl) ?_
  obtain ⟨x47_21, hc, h⟩ := h
  refine Dp rfl rfl rfl rfl (V_ld rfl Tryz.underlying3 rfl rfl hc) ?_
  obtain ⟨x44_22, hc, h⟩ := h
  refine Dr rfl rfl rfl rfl (R_ld rfl Tryz.underlying30 rfl rfl hc) ?_
  refine Dg rfl rfl rfl rfl (X_call rfl Tryz.func23 rfl rfl rfl (ACalls.mono h ?_))
  rintro v σ ⟨x45_23, rfl, h⟩
  refine Dg rfl rfl rfl rfl (X_call rfl Tryz.func25 rfl rfl rfl (ACalls.mono h ?_))
  rintro v σ ⟨x48_24, x48_25, rfl, h⟩
  refine ⟨_, FrEq.refl _, fun hdj => ?_⟩
  replace h := h hdj
  refine blockN ?_
  refine blockN ?_
  refine thenN ?_
  exact ⟨(FrLe.cons rfl (FrLe.cons rfl (FrLe.cons rfl (FrLe.cons rfl (FrLe.nil _))))), h⟩

def j8_law07_awake (B : World) (ro : AH) (Q : Bool → AH → Prop) (x39_9 : Bool) (σ : AH) : Prop :=
 Q x39_9 σ

def f_law07_awake (B : World) (ro : AH) (σ : AH) (Q : Bool → AH → Prop) : Prop :=
 c_ztree_New B ro σ fun x6_1 σ =>
 if x6_1 = none then
  Q false σ
 else
 nw ro σ (.cells #[.int .u8 120] 5) fun x11_2 σ =>
 awp Tryz.prog ro (convert 30 30 (Sl.v (⟨some ⟨x11_2, 0, none⟩, 1, 1⟩ : Sl))) (fun v σ =>
  (∃ (x12_3 : Sl), v = Sl.v x12_3 ∧
   c_ztree_Tree_Create B ro x6_1 (⟨#[47, 97]⟩ : ByteArray) x12_3 0 false σ fun x13_4 x13_5 σ =>
   c_ztree_Tree_Create B ro x6_1 (⟨#[47, 97, 47, 115]⟩ : ByteArray) (⟨none, 0, 0⟩ : Sl) 0 true σ fun x18_6 x18_7 σ =>
   if (((x13_5 = 0) ∧ (x18_7 = 0)) ∧ (x13_4 = (⟨#[47, 97]⟩ : ByteArray))) ∧ (x18_6 = (⟨#[47, 97, 47, 115, 48, 48, 48, 48, 48, 48, 48, 48, 48, 48]⟩ : ByteArray)) then
    c_ztree_Tree_Size B ro x6_1 σ fun x37_10 σ =>
    j8_law07_awake B ro Q (decide (x37_10 = 3)) σ
   else
   j8_law07_awake B ro Q false σ)) σ

set_option maxRecDepth 100000 in
set_option maxHeartbeats 4000000 in
theorem law07_awake_ok {B : World} {ro : AH} {σ : AH} {Q : Bool → AH → Prop} (h : Sep ro σ → f_law07_awake B ro σ Q) : c_law07_awake B ro σ Q := by
  refine ACalls.of_sep fun hsep => ?_
  replace h := h hsep
  refine ACalls.of_body (args := []) Tryz.func20 rfl (by rw [Tryz.ntmps20]; simp) ?_
  rw [Tryz.ntmps20]
  unfold f_law07_awake at h
  refine AW.seq ?_
  refine AW.reg ?_
  refine Lp (V_asg rfl rfl) rfl rfl ?_
  refine Lnil ?_
  refine thenN ?_
  refine AW.seq ?_
  refine AW.reg ?_
  refine Ls rfl rfl (X_call rfl Tryz.func30 rfl rfl rfl (ACalls.mono h ?_))
  rintro v σ ⟨x6_1, rfl, h⟩
  refine Lp (V_asg rfl rfl) rfl rfl ?_
  refine Lnil ?_
  refine thenN ?_
  refine AW.seq ?_
  refine AW.seq ?_
  refine AW.reg ?_
  refine Lp (V_move rfl rfl) rfl rfl ?_
  refine Lp (V_eqP rfl Tryz.underlying23 rfl rfl) rfl rfl ?_
  refine Lnil ?_
  refine thenN ?_
  refine AW.iff rfl isNone_iff h (fun h => ?_) (fun h => ?_)
  · refine AW.seq ?_
    refine AW.reg ?_
    refine Lp (V_asg rfl rfl) rfl rfl ?_
    refine Lnil ?_
    refine thenN ?_
    refine AW.ret ?_
    refine thenR ?_
    exact bR1 Tryz.results20 rfl ⟨_, rfl, h⟩
  refine AW.skip ?_
  refine thenN ?_
  refine AW.seq ?_
  refine AW.reg ?_
  refine Lp (V_move rfl rfl) rfl rfl ?_
  refine Ls rfl rfl (X_new (A_bsl (vs := [(0, .int .u8 120)]) (cs := #[.int .u8 120]) rfl Tryz.underlying30 ty5 (by decide) rfl rfl) fun x11_2 g1 g2 => ?_)
  replace h := h x11_2 g1 g2
  refine Ls rfl rfl (X_cvt rfl rfl (awp_mono _ h ?_))
  rintro v σ ⟨x12_3, rfl, h⟩
  refine Ls rfl rfl (X_call rfl Tryz.func22 rfl rfl rfl (ACalls.mono h ?_))
  rintro v σ ⟨x13_4, x13_5, rfl, h⟩
  refine Lp (V_move rfl rfl) rfl rfl ?_
  refine Lp (V_ext rfl rfl rfl) rfl rfl ?_
  refine Lp (V_ext rfl rfl rfl) rfl rfl ?_
  refine Lp (V_asg rfl rfl) rfl rfl ?_
  refine Lp (V_asg rfl rfl) rfl rfl ?_
  refine Lnil ?_
  refine thenN ?_
  refine AW.seq ?_
  refine AW.reg ?_
  refine Lp (V_move rfl rfl) rfl rfl ?_
  refine Ls rfl rfl (X_call rfl Tryz.func22 rfl rfl rfl (ACalls.mono h ?_))
  rintro v σ ⟨x18_6, x18_7, rfl, h⟩
  refine Lp (V_move rfl rfl) rfl rfl ?_
  refine Lp (V_ext rfl rfl rfl) rfl rfl ?_
  refine Lp (V_ext rfl rfl rfl) rfl rfl ?_
  refine Lp (V_asg rfl rfl) rfl rfl ?_
  refine Lp (V_asg rfl rfl) rfl rfl ?_
  refine Lnil ?_
  refine thenN ?_
  refine AW.seq ?_
  refine AW.reg ?_
  refine Lp (V_move rfl rfl) rfl rfl ?_
  refine Lp (V_eql rfl rfl rfl) rfl rfl ?_
  refine Lp (V_move rfl rfl) rfl rfl ?_
  refine Lsplit 3 (decide (x13_5 = 0)) [(1, .pointer x6_1), (2, .string x13_4), (4, .string x18_6), (26, .bool ((decide (x13_5 = 0)) && (decide (x18_7 = 0))))] ?_ ?_ ?_
  · intro e2 hk2
    refine Lypb (V_move rfl rfl) rfl rfl rfl rfl e2 ?_
    refine Lypb (V_eql rfl rfl rfl) rfl rfl rfl rfl e2 ?_
    refine Lp (V_pickT rfl (evb e2) rfl) rfl rfl ?_
    exact hk2 _ (FrLe.cons rfl (FrLe.cons rfl (FrLe.cons rfl (FrLe.cons (by rw [e2]; rfl) (FrLe.nil _)))))
  · intro e2 hk2
    refine Ln rfl rfl rfl rfl (.inl (by rw [e2]; rfl)) ?_
    refine Ln rfl rfl rfl rfl (.inl (by rw [e2]; rfl)) ?_
    refine Lp (V_pickF rfl (evb e2) rfl) rfl rfl ?_
    exact hk2 _ (FrLe.cons rfl (FrLe.cons rfl (FrLe.cons rfl (FrLe.cons (by rw [e2]; rfl) (FrLe.nil _)))))
  intro fr hl
  refine Lfr hl ?_
  refine Lp (V_move rfl rfl) rfl rfl ?_
  refine Lsplit 3 ((decide (x13_5 = 0)) && (decide (x18_7 = 0))) [(1, .pointer x6_1), (4, .string x18_6), (30, .bool (((decide (x13_5 = 0)) && (decide (x18_7 = 0))) && (decide (x13_4 = (⟨#[47, 97]⟩ : ByteArray)))))] ?_ ?_ ?_
  · intro e6 hk6
    refine Lypb (V_move rfl rfl) rfl rfl rfl rfl e6 ?_
    refine Lypb (V_eqlS rfl rfl rfl) rfl rfl rfl rfl e6 ?_
    refine Lp (V_pickT rfl (evb e6) rfl) rfl rfl ?_
    exact hk6 _ (FrLe.cons rfl (FrLe.cons rfl (FrLe.cons (by rw [e6]; rfl) (FrLe.nil _))))
  · intro e6 hk6
    refine Ln rfl rfl rfl rfl (.inl (by rw [e6]; rfl)) ?_
    refine Ln rfl rfl rfl rfl (.inl (by rw [e6]; rfl)) ?_
    refine Lp (V_pickF rfl (evb e6) rfl) rfl rfl ?_
    exact hk6 _ (FrLe.cons rfl (FrLe.cons rfl (FrLe.cons (by rw [e6]; rfl) (FrLe.nil _))))
  intro fr hl
  refine Lfr hl ?_
  refine Lp (V_move rfl rfl) rfl rfl ?_
  refine Lsplit 3 (((decide (x13_5 = 0)) && (decide (x18_7 = 0))) && (decide (x13_4 = (⟨#[47, 97]⟩ : ByteArray)))) [(1, .pointer x6_1), (34, .bool ((((decide (x13_5 = 0)) && (decide (x18_7 = 0))) && (decide (x13_4 = (⟨#[47, 97]⟩ : ByteArray)))) && (decide (x18_6 = (⟨#[47, 97, 47, 115, 48, 48, 48, 48, 48, 48, 48, 48, 48, 48]⟩ : ByteArray)))))] ?_ ?_ ?_
  · intro e10 hk10
    refine Lypb (V_move rfl rfl) rfl rfl rfl rfl e10 ?_
    refine Lypb (V_eqlS rfl rfl rfl) rfl rfl rfl rfl e10 ?_
    refine Lp (V_pickT rfl (evb e10) rfl) rfl rfl ?_
    exact hk10 _ (FrLe.cons rfl (FrLe.cons (by rw [e10]; rfl) (FrLe.nil _)))
  · intro e10 hk10
    refine Ln rfl rfl rfl rfl (.inl (by rw [e10]; rfl)) ?_
    refine Ln rfl rfl rfl rfl (.inl (by rw [e10]; rfl)) ?_
    refine Lp (V_pickF rfl (evb e10) rfl) rfl rfl ?_
    exact hk10 _ (FrLe.cons rfl (FrLe.cons (by rw [e10]; rfl) (FrLe.nil _)))
  intro fr hl
  refine Lfr hl ?_
  refine Lp (V_move rfl rfl) rfl rfl ?_
  refine LsplitJ 4 ((((decide (x13_5 = 0)) && (decide (x18_7 = 0))) && (decide (x13_4 = (⟨#[47, 97]⟩ : ByteArray)))) && (decide (x18_6 = (⟨#[47, 97, 47, 115, 48, 48, 48, 48, 48, 48, 48, 48, 48, 48]⟩ : ByteArray)))) (band_iff (band_iff (band_iff decide_eq_true_iff decide_eq_true_iff) decide_eq_true_iff) decide_eq_true_iff) h (fun fr σ => ∃ (x39_9 : Bool), FrLe [(39, .bool x39_9)] fr ∧ j8_law07_awake B ro Q x39_9 σ) ?_ ?_ ?_
  · intro h e14 hk14
    refine Lypb (V_move rfl rfl) rfl rfl rfl rfl e14 ?_
    refine Lyb rfl rfl rfl rfl e14 (X_call rfl Tryz.func16 rfl rfl rfl (ACalls.mono h ?_))
    rintro v σ ⟨x37_10, rfl, h⟩
    refine Lypb (V_eql rfl rfl rfl) rfl rfl rfl rfl e14 ?_
    refine Lp (V_pickT rfl (evb e14) rfl) rfl rfl ?_
    exact hk14 _ _ ⟨_, (FrLe.cons rfl (FrLe.nil _)), h⟩
  · intro h e14 hk14
    refine Ln rfl rfl rfl rfl (.inl (by rw [e14]; rfl)) ?_
    refine Ln rfl rfl rfl rfl (.inl (by rw [e14]; rfl)) ?_
    refine Ln rfl rfl rfl rfl (.inl (by rw [e14]; rfl)) ?_
    refine Lp (V_pickF rfl (evb e14) rfl) rfl rfl ?_
    exact hk14 _ _ ⟨_, (FrLe.cons rfl (FrLe.nil _)), h⟩
  rintro fr σ ⟨x39_9, hl, h⟩
  unfold j8_law07_awake at h
  refine Lfr hl ?_
  refine Lp (V_asg rfl rfl) rfl rfl ?_
  refine Lnil ?_
  refine thenN ?_
  refine AW.ret ?_
  exact bR1 Tryz.results20 rfl ⟨_, rfl, h⟩

end Go.Proofs.YthfpmipeejjogaaGreatDoor.G
