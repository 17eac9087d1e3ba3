/- GMul, MuB -/
import Derived.Test.YthfpmipeejjogaaGreatDoorXJ
/- Functions as predicate transformers, and the proofs that the code does what they tell: printed by wip/tools/gen.py. -/
namespace Go.Proofs.YthfpmipeejjogaaGreatDoor.G
open Go Go.Proofs.YthfpmipeejjogaaGreatDoor.SL
set_option linter.unusedVariables false
set_option linter.unusedSimpArgs false

def j10_multi_Apply (B : World) (ro : AH) (a0 : Option Addr) (x10_2 : Nat) (x39_6 : Option Addr) (x47_9 : Nat) (Q : Sl → Sl → Int → Int → AH → Prop) (σ : AH) : Prop :=
 ∃ p66_11 : Addr, x39_6 = some p66_11 ∧
 ∃ (x67_12 : Option Nat), cellsAt ro σ p66_11 0 [.map x67_12] ∧
 ∃ p68_13 : Addr, a0 = some p68_13 ∧
 stN p68_13 (fun σ =>
  stN ((⟨x47_9, 0, none⟩ : Addr).add 2) (fun σ =>
   ∃ (x76_14a : Sl) (x76_14b : Sl) (x76_14c : Int), cellsAt ro σ ⟨x47_9, 0, none⟩ 0 [Sl.v x76_14a, Sl.v x76_14b, .int .i64 x76_14c] ∧
   stN ⟨x10_2, 0, none⟩ (fun σ =>
    ∃ (x10_15a : Sl) (x10_15b : Sl) (x10_15c : Int), cellsAt ro σ ⟨x10_2, 0, none⟩ 0 [Sl.v x10_15a, Sl.v x10_15b, .int .i64 x10_15c] ∧
    Q x10_15a x10_15b x10_15c 0 σ) [Sl.v x76_14a, Sl.v x76_14b, .int .i64 x76_14c] 0 σ) [.int .i64 (-1)] 0 σ) [.map x67_12] 0 σ

def l16_multi_Apply (B : World) (ro : AH) (a0 : Option Addr) (a4 : Sl) (x10_2 : Nat) (x39_6 : Option Addr) (x47_9 : Nat) (Q : Sl → Sl → Int → Int → AH → Prop) : (Int) → AH → ((Int) → AH → Prop) → Prop := fun x50_17 σ Y16 =>
 if x50_17 < (a4.len : Int) then
  ∃ p53_18 : Addr, a4.a = some p53_18 ∧ (0 : Int) ≤ x50_17 ∧ x50_17 < (a4.len : Int) ∧
  ∃ (x54_19a : Int) (x54_19b : ByteArray) (x54_19c : Sl) (x54_19d : Int) (x54_19e : Bool) (x54_19f : Bool), cellsAt ro σ (p53_18.add (Int.toNat x50_17 * 6)) 0 [.int .i64 x54_19a, .string x54_19b, Sl.v x54_19c, .int .i64 x54_19d, .bool x54_19e, .bool x54_19f] ∧
  nw ro σ (.cells #[.int .i64 0, .string ByteArray.empty, Sl.v (⟨none, 0, 0⟩ : Sl), .int .i64 0, .bool false, .bool false] 82) fun x16_20 σ =>
  stN ⟨x16_20, 0, none⟩ (fun σ =>
   ∃ (x56_21a : Int) (x56_21b : ByteArray) (x56_21c : Sl) (x56_21d : Int) (x56_21e : Bool) (x56_21f : Bool), cellsAt ro σ ⟨x16_20, 0, none⟩ 0 [.int .i64 x56_21a, .string x56_21b, Sl.v x56_21c, .int .i64 x56_21d, .bool x56_21e, .bool x56_21f] ∧
   c_multi_work_do B ro (some ⟨x47_9, 0, none⟩) x56_21a x56_21b x56_21c x56_21d x56_21e x56_21f σ fun x57_22 σ =>
   if ¬ (x57_22 = 0) then
    stN ⟨x10_2, 0, none⟩ (fun σ =>
     ∃ (x10_23a : Sl) (x10_23b : Sl) (x10_23c : Int), cellsAt ro σ ⟨x10_2, 0, none⟩ 0 [Sl.v x10_23a, Sl.v x10_23b, .int .i64 x10_23c] ∧
     Q x10_23a x10_23b x10_23c x57_22 σ) [Sl.v (⟨none, 0, 0⟩ : Sl), Sl.v (⟨none, 0, 0⟩ : Sl), .int .i64 x50_17] 0 σ
   else
   Y16 (IntKind.i64.wrap (x50_17 + 1)) σ) [.int .i64 x54_19a, .string x54_19b, Sl.v x54_19c, .int .i64 x54_19d, .bool x54_19e, .bool x54_19f] 0 σ
 else
 j10_multi_Apply B ro a0 x10_2 x39_6 x47_9 Q σ

def f_multi_Apply (B : World) (ro : AH) (a0 : Option Addr) (a1 : ByteArray) (a2 : Int) (a3_0 : Int) (a3_1 : Int) (a4 : Sl) (σ : AH) (Q : Sl → Sl → Int → Int → AH → Prop) : Prop :=
 nw ro σ (.cells #[.int .i64 a3_0, .int .i64 a3_1] 69) fun x8_1 σ =>
 nw ro σ (.cells #[Sl.v (⟨none, 0, 0⟩ : Sl), Sl.v (⟨none, 0, 0⟩ : Sl), .int .i64 0] 77) fun x10_2 σ =>
 if ((a4.len : Int) = 0) ∨ (16 < (a4.len : Int)) then
  stN ⟨x10_2, 0, none⟩ (fun σ =>
   ∃ (x10_3a : Sl) (x10_3b : Sl) (x10_3c : Int), cellsAt ro σ ⟨x10_2, 0, none⟩ 0 [Sl.v x10_3a, Sl.v x10_3b, .int .i64 x10_3c] ∧
   Q x10_3a x10_3b x10_3c 80 σ) [Sl.v (⟨none, 0, 0⟩ : Sl), Sl.v (⟨none, 0, 0⟩ : Sl), .int .i64 0] 0 σ
 else
 if (a2 < 1) ∨ (4611686018427387903 < a2) then
  stN ⟨x10_2, 0, none⟩ (fun σ =>
   ∃ (x10_4a : Sl) (x10_4b : Sl) (x10_4c : Int), cellsAt ro σ ⟨x10_2, 0, none⟩ 0 [Sl.v x10_4a, Sl.v x10_4b, .int .i64 x10_4c] ∧
   Q x10_4a x10_4b x10_4c 10 σ) [Sl.v (⟨none, 0, 0⟩ : Sl), Sl.v (⟨none, 0, 0⟩ : Sl), .int .i64 0] 0 σ
 else
 c_ztree_Tree_Encode B ro a0 σ fun x38_5 σ =>
 c_ztree_Decode B ro x38_5 σ fun x39_6 x39_7 σ =>
 ∃ (x45_8a : Int) (x45_8b : Int), cellsAt ro σ ⟨x8_1, 0, none⟩ 0 [.int .i64 x45_8a, .int .i64 x45_8b] ∧
 nw ro σ (.cells #[Sl.v (⟨none, 0, 0⟩ : Sl), Sl.v (⟨none, 0, 0⟩ : Sl), .int .i64 0, .pointer x39_6, .string a1, .int .i64 a2, .int .i64 x45_8a, .int .i64 x45_8b] 173) fun x47_9 σ =>
 lfpD (l16_multi_Apply B ro a0 a4 x10_2 x39_6 x47_9 Q ) (0) σ

set_option maxRecDepth 100000 in
set_option maxHeartbeats 4000000 in
theorem multi_Apply_ok {B : World} {ro : AH} {a0 : Option Addr} {a1 : ByteArray} {a2 : Int} {a3_0 : Int} {a3_1 : Int} {a4 : Sl} {σ : AH} {Q : Sl → Sl → Int → Int → AH → Prop} (h : Sep ro σ → f_multi_Apply B ro a0 a1 a2 a3_0 a3_1 a4 σ Q) : c_multi_Apply B ro a0 a1 a2 a3_0 a3_1 a4 σ Q := by
  refine ACalls.of_sep fun hsep => ?_
  replace h := h hsep
  refine ACalls.of_body (args := [.pointer a0, .string a1, .int .i64 a2, .agg #[.int .i64 a3_0, .int .i64 a3_1], Sl.v a4]) Tryz.func36 rfl (by rw [Tryz.ntmps36]; simp) ?_
  rw [Tryz.ntmps36]
  unfold f_multi_Apply at h
  refine AW.seq ?_
  refine AW.reg ?_
  refine Ls rfl rfl (X_new (A_box rfl rfl) fun x8_1 g1 g2 => ?_)
  replace h := h x8_1 g1 g2
  refine Ls rfl rfl (X_new (A_alloc rfl ty77) fun x10_2 g1 g2 => ?_)
  replace h := h x10_2 g1 g2
  refine Lp (V_asg rfl rfl) rfl rfl ?_
  refine Lnil ?_
  refine thenN ?_
  refine AW.seq ?_
  refine AW.block ?_
  refine AW.seq ?_
  refine AW.reg ?_
  refine Lp (V_move rfl rfl) rfl rfl ?_
  refine Lp (V_lenL rfl rfl Tryz.underlying70 rfl rfl) rfl rfl ?_
  refine Lp (V_eql rfl rfl rfl) rfl rfl ?_
  refine Lp (V_move rfl rfl) rfl rfl ?_
  refine Lsplit 4 (decide ((a4.len : Int) = 0)) [(0, .pointer a0), (1, .string a1), (2, .int .i64 a2), (4, Sl.v a4), (8, .pointer (some ⟨x8_1, 0, none⟩)), (10, .pointer (some ⟨x10_2, 0, none⟩)), (26, .bool ((decide ((a4.len : Int) = 0)) || (decide (16 < (a4.len : Int)))))] ?_ ?_ ?_
  · intro e3 hk3
    refine Ln rfl rfl rfl rfl (.inl (by rw [e3]; rfl)) ?_
    refine Ln rfl rfl rfl rfl (.inl (by rw [e3]; rfl)) ?_
    refine Ln rfl rfl rfl rfl (.inl (by rw [e3]; rfl)) ?_
    refine Lp (V_pickT rfl (evb e3) rfl) rfl rfl ?_
    exact hk3 _ (FrLe.cons rfl (FrLe.cons rfl (FrLe.cons rfl (FrLe.cons rfl (FrLe.cons rfl (FrLe.cons rfl (FrLe.cons (by rw [e3]; rfl) (FrLe.nil _))))))))
  · intro e3 hk3
    refine Lypb (V_move rfl rfl) rfl rfl rfl rfl e3 ?_
    refine Lypb (V_lenL rfl rfl Tryz.underlying70 rfl rfl) rfl rfl rfl rfl e3 ?_
    refine Lypb (V_gtr rfl rfl rfl) rfl rfl rfl rfl e3 ?_
    refine Lp (V_pickF rfl (evb e3) rfl) rfl rfl ?_
    exact hk3 _ (FrLe.cons rfl (FrLe.cons rfl (FrLe.cons rfl (FrLe.cons rfl (FrLe.cons rfl (FrLe.cons rfl (FrLe.cons (by rw [e3]; rfl) (FrLe.nil _))))))))
  intro fr hl
  refine Lfr hl ?_
  refine Lp (V_asg rfl rfl) rfl rfl ?_
  refine Lnil ?_
  refine thenN ?_
  refine AW.iff rfl (bor_iff decide_eq_true_iff decide_eq_true_iff) h (fun h => ?_) (fun h => ?_)
  · refine AW.seq ?_
    refine AW.reg ?_
    refine Lp (V_bld (vs := []) (cs := #[Sl.v (⟨none, 0, 0⟩ : Sl), Sl.v (⟨none, 0, 0⟩ : Sl), .int .i64 0]) rfl Tryz.underlying77 ty77 pl77 rfl rfl) rfl rfl ?_
    refine Ls rfl rfl (X_st rfl ty77 rfl rfl rfl rfl (stN_mono h fun σ h => ?_))
    refine Lp (V_asg rfl rfl) rfl rfl ?_
    refine Lnil ?_
    refine thenN ?_
    refine AW.ret ?_
    refine blockR ?_
    refine thenR ?_
    obtain ⟨x10_3a, x10_3b, x10_3c, hc0, h⟩ := h
    exact bRM Tryz.results36 (rCons (rAgg rfl Tryz.underlying77 rfl ty77 hc0) (rCons (rTmp rfl) rNil)) ⟨_, _, _, _, rfl, h⟩
  refine AW.seq ?_
  refine AW.reg ?_
  refine Lp (V_move rfl rfl) rfl rfl ?_
  refine Lp (V_lss rfl rfl rfl) rfl rfl ?_
  refine Lp (V_move rfl rfl) rfl rfl ?_
  refine Lsplit 3 (decide (a2 < 1)) [(0, .pointer a0), (1, .string a1), (2, .int .i64 a2), (4, Sl.v a4), (8, .pointer (some ⟨x8_1, 0, none⟩)), (10, .pointer (some ⟨x10_2, 0, none⟩)), (34, .bool ((decide (a2 < 1)) || (decide (4611686018427387903 < a2))))] ?_ ?_ ?_
  · intro e2 hk2
    refine Ln rfl rfl rfl rfl (.inl (by rw [e2]; rfl)) ?_
    refine Ln rfl rfl rfl rfl (.inl (by rw [e2]; rfl)) ?_
    refine Lp (V_pickT rfl (evb e2) rfl) rfl rfl ?_
    exact hk2 _ (FrLe.cons rfl (FrLe.cons rfl (FrLe.cons rfl (FrLe.cons rfl (FrLe.cons rfl (FrLe.cons rfl (FrLe.cons (by rw [e2]; rfl) (FrLe.nil _))))))))
  · intro e2 hk2
    refine Lypb (V_move rfl rfl) rfl rfl rfl rfl e2 ?_
    refine Lypb (V_gtr rfl rfl rfl) rfl rfl rfl rfl e2 ?_
    refine Lp (V_pickF rfl (evb e2) rfl) rfl rfl ?_
    exact hk2 _ (FrLe.cons rfl (FrLe.cons rfl (FrLe.cons rfl (FrLe.cons rfl (FrLe.cons rfl (FrLe.cons rfl (FrLe.cons (by rw [e2]; rfl) (FrLe.nil _))))))))
  intro fr hl
  refine Lfr hl ?_
  refine Lp (V_asg rfl rfl) rfl rfl ?_
  refine Lnil ?_
  refine thenN ?_
  refine AW.iff rfl (bor_iff decide_eq_true_iff decide_eq_true_iff) h (fun h => ?_) (fun h => ?_)
  · refine AW.seq ?_
    refine AW.reg ?_
    refine Lp (V_bld (vs := []) (cs := #[Sl.v (⟨none, 0, 0⟩ : Sl), Sl.v (⟨none, 0, 0⟩ : Sl), .int .i64 0]) rfl Tryz.underlying77 ty77 pl77 rfl rfl) rfl rfl ?_
    refine Ls rfl rfl (X_st rfl ty77 rfl rfl rfl rfl (stN_mono h fun σ h => ?_))
    refine Lp (V_asg rfl rfl) rfl rfl ?_
    refine Lnil ?_
    refine thenN ?_
    refine AW.ret ?_
    refine blockR ?_
    refine thenR ?_
    obtain ⟨x10_4a, x10_4b, x10_4c, hc0, h⟩ := h
    exact bRM Tryz.results36 (rCons (rAgg rfl Tryz.underlying77 rfl ty77 hc0) (rCons (rTmp rfl) rNil)) ⟨_, _, _, _, rfl, h⟩
  refine AW.skip ?_
  refine blockN ?_
  refine thenN ?_
  refine AW.seq ?_
  refine AW.reg ?_
  refine Lp (V_move rfl rfl) rfl rfl ?_
  refine Ls rfl rfl (X_call rfl Tryz.func21 rfl rfl rfl (ACalls.mono h ?_))
  rintro v σ ⟨x38_5, rfl, h⟩
  refine Ls rfl rfl (X_call rfl Tryz.func27 rfl rfl rfl (ACalls.mono h ?_))
  rintro v σ ⟨x39_6, x39_7, rfl, h⟩
  refine Lp (V_move rfl rfl) rfl rfl ?_
  refine Lp (V_ext rfl rfl rfl) rfl rfl ?_
  refine Lp (V_ext rfl rfl rfl) rfl rfl ?_
  refine Lp (V_asg rfl rfl) rfl rfl ?_
  refine Lp (V_asg rfl rfl) rfl rfl ?_
  refine Lnil ?_
  refine thenN ?_
  refine AW.seq ?_
  refine AW.reg ?_
  refine Lp (V_move rfl rfl) rfl rfl ?_
  refine Lp (V_move rfl rfl) rfl rfl ?_
  refine Lp (V_move rfl rfl) rfl rfl ?_
  obtain ⟨x45_8a, x45_8b, hc, h⟩ := h
  refine Ls rfl rfl (X_lda rfl Tryz.underlying69 rfl ty69 rfl hc ?_)
  refine Lp (V_bld (vs := [(1, .pointer x39_6), (2, .string a1), (3, .int .i64 a2), (4, .agg #[.int .i64 x45_8a, .int .i64 x45_8b])]) (cs := #[Sl.v (⟨none, 0, 0⟩ : Sl), Sl.v (⟨none, 0, 0⟩ : Sl), .int .i64 0, .pointer x39_6, .string a1, .int .i64 a2, .int .i64 x45_8a, .int .i64 x45_8b]) rfl Tryz.underlying173 ty173 pl173 rfl rfl) rfl rfl ?_
  refine Ls rfl rfl (X_new (A_box rfl rfl) fun x47_9 g1 g2 => ?_)
  replace h := h x47_9 g1 g2
  refine Lp (V_asg rfl rfl) rfl rfl ?_
  refine Lnil ?_
  refine thenN ?_
  refine AW.seqJ (fun fr σ => FrLe [(0, .pointer a0), (10, .pointer (some ⟨x10_2, 0, none⟩)), (12, .pointer x39_6), (14, .pointer (some ⟨x47_9, 0, none⟩))] fr ∧ j10_multi_Apply B ro a0 x10_2 x39_6 x47_9 Q σ) ?_ ?_
  · rintro fr σ ⟨hl, h⟩
    refine AW.weaken ?_ hl (HLe.refl _)
    unfold j10_multi_Apply at h
    refine AW.seq ?_
    refine AW.reg ?_
    refine Lp (V_move rfl rfl) rfl rfl ?_
    refine Lp (V_move rfl rfl) rfl rfl ?_
    obtain ⟨p66_11, hc, h⟩ := h
    refine Lp (V_nil rfl (by rw [← hc]; rfl)) rfl rfl ?_
    obtain ⟨x67_12, hc, h⟩ := h
    refine Ls rfl rfl (X_lda rfl Tryz.underlying128 rfl ty128 rfl hc ?_)
    obtain ⟨p68_13, hc, h⟩ := h
    refine Lp (V_nil rfl (by rw [← hc]; rfl)) rfl rfl ?_
    refine Ls rfl rfl (X_st rfl ty128 rfl rfl rfl rfl (stN_mono h fun σ h => ?_))
    refine Lnil ?_
    refine thenN ?_
    refine AW.seq ?_
    refine AW.reg ?_
    refine Lp (V_move rfl rfl) rfl rfl ?_
    refine Lp (V_nil rfl rfl) rfl rfl ?_
    refine Lp (V_fld rfl Tryz.underlying173 rfl ty77 (by decide) rfl) rfl rfl ?_
    refine Lp (V_fld rfl Tryz.underlying77 rfl ty3 (by decide) rfl) rfl rfl ?_
    refine Ls rfl rfl (X_st rfl ty3 rfl rfl rfl rfl (stN_mono h fun σ h => ?_))
    refine Lnil ?_
    refine thenN ?_
    refine AW.seq ?_
    refine AW.reg ?_
    refine Lp (V_move rfl rfl) rfl rfl ?_
    refine Lp (V_nil rfl rfl) rfl rfl ?_
    refine Lp (V_fld rfl Tryz.underlying173 rfl ty77 (by decide) rfl) rfl rfl ?_
    obtain ⟨x76_14a, x76_14b, x76_14c, hc, h⟩ := h
    refine Ls rfl rfl (X_lda rfl Tryz.underlying77 rfl ty77 rfl hc ?_)
    refine Ls rfl rfl (X_st rfl ty77 rfl rfl rfl rfl (stN_mono h fun σ h => ?_))
    refine Lp (V_asg rfl rfl) rfl rfl ?_
    refine Lnil ?_
    refine thenN ?_
    refine AW.ret ?_
    obtain ⟨x10_15a, x10_15b, x10_15c, hc0, h⟩ := h
    exact bRM Tryz.results36 (rCons (rAgg rfl Tryz.underlying77 rfl ty77 hc0) (rCons (rTmp rfl) rNil)) ⟨_, _, _, _, rfl, h⟩
  refine AW.seq ?_
  refine AW.reg ?_
  refine Lp (V_move rfl rfl) rfl rfl ?_
  refine Lp (V_lenL rfl rfl Tryz.underlying70 rfl rfl) rfl rfl ?_
  refine Lp (V_move rfl rfl) rfl rfl ?_
  refine Lnil ?_
  refine thenN ?_
  refine AW.block ?_
  refine ARound.loop (fr' := [(0, .pointer a0), (10, .pointer (some ⟨x10_2, 0, none⟩)), (12, .pointer x39_6), (14, .pointer (some ⟨x47_9, 0, none⟩)), (48, Sl.v a4), (49, .int .i64 (a4.len : Int)), (50, .int .i64 0)]) ?_ (FrLe.cons rfl (FrLe.cons rfl (FrLe.cons rfl (FrLe.cons rfl (FrLe.cons rfl (FrLe.cons rfl (FrLe.cons rfl (FrLe.nil _))))))))
  refine h (fun x50_17 σ => ARound _ _ _ _ _ _ [(0, .pointer a0), (10, .pointer (some ⟨x10_2, 0, none⟩)), (12, .pointer x39_6), (14, .pointer (some ⟨x47_9, 0, none⟩)), (48, Sl.v a4), (49, .int .i64 (a4.len : Int)), (50, .int .i64 x50_17)] σ) ?_
  rintro x50_17 σ Y16 hY16 h
  show AW _ _ _ _ _ _ _ _
  unfold l16_multi_Apply at h
  refine AW.seq ?_
  refine AW.reg ?_
  refine Lp (V_lss rfl rfl rfl) rfl rfl ?_
  refine Lnil ?_
  refine thenN ?_
  refine AW.seq ?_
  refine AW.iff rfl decide_eq_true_iff h (fun h => ?_) (fun h => ?_)
  rotate_left
  · refine AW.exit ?_
    refine thenE ?_
    refine thenE ?_
    refine blockE ?_
    refine thenN ?_
    exact ⟨(FrLe.cons rfl (FrLe.cons rfl (FrLe.cons rfl (FrLe.cons rfl (FrLe.nil _))))), h⟩
  refine AW.skip ?_
  refine thenN ?_
  refine AW.seq ?_
  refine AW.block ?_
  refine AW.seq ?_
  refine AW.reg ?_
  refine Lp (V_move rfl rfl) rfl rfl ?_
  obtain ⟨p53_18, ha, h0, h1, h⟩ := h
  refine Lp (V_ixA rfl Tryz.underlying70 ty82 (ixL rfl ha) rfl h0 h1) rfl rfl ?_
  obtain ⟨x54_19a, x54_19b, x54_19c, x54_19d, x54_19e, x54_19f, hc, h⟩ := h
  refine Ls rfl rfl (X_lda rfl Tryz.underlying82 rfl ty82 rfl hc ?_)
  refine Ls rfl rfl (X_new (A_alloc rfl ty82) fun x16_20 g1 g2 => ?_)
  replace h := h x16_20 g1 g2
  refine Lp (V_asg rfl rfl) rfl rfl ?_
  refine Ls rfl rfl (X_st rfl ty82 rfl rfl rfl rfl (stN_mono h fun σ h => ?_))
  refine Lnil ?_
  refine thenN ?_
  refine AW.seq ?_
  refine AW.reg ?_
  refine Lp (V_move rfl rfl) rfl rfl ?_
  obtain ⟨x56_21a, x56_21b, x56_21c, x56_21d, x56_21e, x56_21f, hc, h⟩ := h
  refine Ls rfl rfl (X_lda rfl Tryz.underlying82 rfl ty82 rfl hc ?_)
  refine Ls rfl rfl (X_call rfl Tryz.func96 rfl rfl rfl (ACalls.mono h ?_))
  rintro v σ ⟨x57_22, rfl, h⟩
  refine Lp (V_asg rfl rfl) rfl rfl ?_
  refine Lnil ?_
  refine thenN ?_
  refine AW.seq ?_
  refine AW.reg ?_
  refine Lp (V_move rfl rfl) rfl rfl ?_
  refine Lp (V_neq rfl rfl rfl) rfl rfl ?_
  refine Lnil ?_
  refine thenN ?_
  refine AW.iff rfl (bnot_iff decide_eq_true_iff) h (fun h => ?_) (fun h => ?_)
  rotate_left
  · refine AW.skip ?_
    refine blockN ?_
    refine thenN ?_
    refine AW.reg ?_
    refine Lp (V_add rfl rfl rfl) rfl rfl ?_
    refine Lp (V_move rfl rfl) rfl rfl ?_
    refine Lnil ?_
    refine thenN ?_
    refine ARound.head (fr' := [(0, .pointer a0), (10, .pointer (some ⟨x10_2, 0, none⟩)), (12, .pointer x39_6), (14, .pointer (some ⟨x47_9, 0, none⟩)), (48, Sl.v a4), (49, .int .i64 (a4.len : Int)), (50, .int .i64 (IntKind.i64.wrap (x50_17 + 1)))]) ?_ (FrLe.cons rfl (FrLe.cons rfl (FrLe.cons rfl (FrLe.cons rfl (FrLe.cons rfl (FrLe.cons rfl (FrLe.cons rfl (FrLe.nil _))))))))
    exact hY16 _ _ h
  refine AW.seq ?_
  refine AW.reg ?_
  refine Lp (V_move rfl rfl) rfl rfl ?_
  refine Lp (V_bld (vs := [(2, .int .i64 x50_17)]) (cs := #[Sl.v (⟨none, 0, 0⟩ : Sl), Sl.v (⟨none, 0, 0⟩ : Sl), .int .i64 x50_17]) rfl Tryz.underlying77 ty77 pl77 rfl rfl) rfl rfl ?_
  refine Lp (V_move rfl rfl) rfl rfl ?_
  refine Ls rfl rfl (X_st rfl ty77 rfl rfl rfl rfl (stN_mono h fun σ h => ?_))
  refine Lp (V_asg rfl rfl) rfl rfl ?_
  refine Lnil ?_
  refine thenN ?_
  refine AW.ret ?_
  refine blockR ?_
  refine thenR ?_
  refine thenR ?_
  refine blockR ?_
  refine thenR ?_
  obtain ⟨x10_23a, x10_23b, x10_23c, hc0, h⟩ := h
  exact bRM Tryz.results36 (rCons (rAgg rfl Tryz.underlying77 rfl ty77 hc0) (rCons (rTmp rfl) rNil)) ⟨_, _, _, _, rfl, h⟩

def j3_multi_Usage (B : World) (ro : AH) (x4_1 : Nat) (x5_2 : Nat) (Q : Int → Int → AH → Prop) (σ : AH) : Prop :=
 ∃ (x70_4a : Int) (x70_4b : Int), cellsAt ro σ ⟨x5_2, 0, none⟩ 0 [.int .i64 x70_4a, .int .i64 x70_4b] ∧
 stN ⟨x4_1, 0, none⟩ (fun σ =>
  ∃ (x4_5a : Int) (x4_5b : Int), cellsAt ro σ ⟨x4_1, 0, none⟩ 0 [.int .i64 x4_5a, .int .i64 x4_5b] ∧
  Q x4_5a x4_5b σ) [.int .i64 x70_4a, .int .i64 x70_4b] 0 σ

def j8_multi_Usage (B : World) (ro : AH) (a0 : Option Addr) (a1 : Sl) (x4_1 : Nat) (x5_2 : Nat) (x19_7 : Int) (Q : Int → Int → AH → Prop) (Y6 : (Int) → AH → Prop) (σ : AH) : Prop :=
 Y6 (IntKind.i64.wrap (x19_7 + 1)) σ

def j15_multi_Usage (B : World) (ro : AH) (a0 : Option Addr) (a1 : Sl) (x4_1 : Nat) (x5_2 : Nat) (x19_7 : Int) (x22_10 : ByteArray) (x27_11 : Sl) (x32_14 : Int) (Q : Int → Int → AH → Prop) (Y6 : (Int) → AH → Prop) (Y13 : (Int) → AH → Prop) (σ : AH) : Prop :=
 Y13 (IntKind.i64.wrap (x32_14 + 1)) σ

def l13_multi_Usage (B : World) (ro : AH) (a0 : Option Addr) (a1 : Sl) (x4_1 : Nat) (x5_2 : Nat) (x19_7 : Int) (x22_10 : ByteArray) (x27_11 : Sl) (Q : Int → Int → AH → Prop) (Y6 : (Int) → AH → Prop) : (Int) → AH → ((Int) → AH → Prop) → Prop := fun x32_14 σ Y13 =>
 if x32_14 < (x27_11.len : Int) then
  ∃ p34_16 : Addr, x27_11.a = some p34_16 ∧ (0 : Int) ≤ x32_14 ∧ x32_14 < (x27_11.len : Int) ∧
  ∃ (x35_17 : ByteArray), acell ro σ (p34_16.add (Int.toNat x32_14 * 1)) = some (.string x35_17) ∧
  c_path_Home B ro x35_17 σ fun x38_18 x38_19 σ =>
  if (¬ (x38_18 = x22_10)) ∨ (x22_10 = (⟨#[]⟩ : ByteArray)) then
   j15_multi_Usage B ro a0 a1 x4_1 x5_2 x19_7 x22_10 x27_11 x32_14 Q Y6 Y13 σ
  else
  c_ztree_Tree_Get B ro a0 x35_17 σ fun x51_20 x51_21a x51_21b x51_21c x51_21d x51_22 σ =>
  nw ro σ (.cells #[.int .i64 0, .int .i64 0, .int .i64 0, .int .i64 0] 32) fun x15_23 σ =>
  stN ⟨x15_23, 0, none⟩ (fun σ =>
   ∃ (x56_24 : Int), acell ro σ ⟨x5_2, 0, none⟩ = some (.int .i64 x56_24) ∧
   stN ⟨x5_2, 0, none⟩ (fun σ =>
    ∃ (x60_25 : Int), acell ro σ ((⟨x5_2, 0, none⟩ : Addr).add 1) = some (.int .i64 x60_25) ∧
    stN ((⟨x5_2, 0, none⟩ : Addr).add 1) (fun σ =>
     j15_multi_Usage B ro a0 a1 x4_1 x5_2 x19_7 x22_10 x27_11 x32_14 Q Y6 Y13 σ) [.int .i64 (IntKind.i64.wrap (x60_25 + (IntKind.i64.wrap ((x35_17.size : Int) + (x51_20.len : Int)))))] 0 σ) [.int .i64 (IntKind.i64.wrap (x56_24 + 1))] 0 σ) [.int .i64 x51_21a, .int .i64 x51_21b, .int .i64 x51_21c, .int .i64 x51_21d] 0 σ
 else
 j8_multi_Usage B ro a0 a1 x4_1 x5_2 x19_7 Q Y6 σ

def l6_multi_Usage (B : World) (ro : AH) (a0 : Option Addr) (a1 : Sl) (x4_1 : Nat) (x5_2 : Nat) (Q : Int → Int → AH → Prop) : (Int) → AH → ((Int) → AH → Prop) → Prop := fun x19_7 σ Y6 =>
 if x19_7 < (a1.len : Int) then
  ∃ p21_9 : Addr, a1.a = some p21_9 ∧ (0 : Int) ≤ x19_7 ∧ x19_7 < (a1.len : Int) ∧
  ∃ (x22_10 : ByteArray), acell ro σ (p21_9.add (Int.toNat x19_7 * 1)) = some (.string x22_10) ∧
  (⟨#[47]⟩ : ByteArray).size + x22_10.size ≤ 9223372036854775807 ∧
  c_ztree_Tree_Paths B ro a0 ((⟨#[47]⟩ : ByteArray) ++ x22_10) σ fun x27_11 x27_12 σ =>
  lfpD (l13_multi_Usage B ro a0 a1 x4_1 x5_2 x19_7 x22_10 x27_11 Q Y6 ) (0) σ
 else
 j3_multi_Usage B ro x4_1 x5_2 Q σ

def f_multi_Usage (B : World) (ro : AH) (a0 : Option Addr) (a1 : Sl) (σ : AH) (Q : Int → Int → AH → Prop) : Prop :=
 nw ro σ (.cells #[.int .i64 0, .int .i64 0] 69) fun x4_1 σ =>
 nw ro σ (.cells #[.int .i64 0, .int .i64 0] 69) fun x5_2 σ =>
 lfpD (l6_multi_Usage B ro a0 a1 x4_1 x5_2 Q ) (0) σ

set_option maxRecDepth 100000 in
set_option maxHeartbeats 4000000 in
theorem multi_Usage_ok {B : World} {ro : AH} {a0 : Option Addr} {a1 : Sl} {σ : AH} {Q : Int → Int → AH → Prop} (h : Sep ro σ → f_multi_Usage B ro a0 a1 σ Q) : c_multi_Usage B ro a0 a1 σ Q := by
  refine ACalls.of_sep fun hsep => ?_
  replace h := h hsep
  refine ACalls.of_body (args := [.pointer a0, Sl.v a1]) Tryz.func39 rfl (by rw [Tryz.ntmps39]; simp) ?_
  rw [Tryz.ntmps39]
  unfold f_multi_Usage at h
  refine AW.seq ?_
  refine AW.reg ?_
  refine Ls rfl rfl (X_new (A_alloc rfl ty69) fun x4_1 g1 g2 => ?_)
  replace h := h x4_1 g1 g2
  refine Lnil ?_
  refine thenN ?_
  refine AW.seq ?_
  refine AW.reg ?_
  refine Ls rfl rfl (X_new (A_alloc rfl ty69) fun x5_2 g1 g2 => ?_)
  replace h := h x5_2 g1 g2
  refine Lnil ?_
  refine thenN ?_
  refine AW.seqJ (fun fr σ => FrLe [(4, .pointer (some ⟨x4_1, 0, none⟩)), (5, .pointer (some ⟨x5_2, 0, none⟩))] fr ∧ j3_multi_Usage B ro x4_1 x5_2 Q σ) ?_ ?_
  · rintro fr σ ⟨hl, h⟩
    refine AW.weaken ?_ hl (HLe.refl _)
    unfold j3_multi_Usage at h
    refine AW.seq ?_
    refine AW.reg ?_
    obtain ⟨x70_4a, x70_4b, hc, h⟩ := h
    refine Ls rfl rfl (X_lda rfl Tryz.underlying69 rfl ty69 rfl hc ?_)
    refine Ls rfl rfl (X_st rfl ty69 rfl rfl rfl rfl (stN_mono h fun σ h => ?_))
    refine Lnil ?_
    refine thenN ?_
    refine AW.ret ?_
    obtain ⟨x4_5a, x4_5b, hc0, h⟩ := h
    exact bRM1 Tryz.results39 (rCons (rAgg rfl Tryz.underlying69 rfl ty69 hc0) rNil) ⟨_, _, rfl, h⟩
  refine AW.seq ?_
  refine AW.reg ?_
  refine Lp (V_move rfl rfl) rfl rfl ?_
  refine Lp (V_lenL rfl rfl Tryz.underlying25 rfl rfl) rfl rfl ?_
  refine Lp (V_move rfl rfl) rfl rfl ?_
  refine Lnil ?_
  refine thenN ?_
  refine AW.block ?_
  refine ARound.loop (fr' := [(0, .pointer a0), (4, .pointer (some ⟨x4_1, 0, none⟩)), (5, .pointer (some ⟨x5_2, 0, none⟩)), (17, Sl.v a1), (18, .int .i64 (a1.len : Int)), (19, .int .i64 0)]) ?_ (FrLe.cons rfl (FrLe.cons rfl (FrLe.cons rfl (FrLe.cons rfl (FrLe.cons rfl (FrLe.cons rfl (FrLe.nil _)))))))
  refine h (fun x19_7 σ => ARound _ _ _ _ _ _ [(0, .pointer a0), (4, .pointer (some ⟨x4_1, 0, none⟩)), (5, .pointer (some ⟨x5_2, 0, none⟩)), (17, Sl.v a1), (18, .int .i64 (a1.len : Int)), (19, .int .i64 x19_7)] σ) ?_
  rintro x19_7 σ Y6 hY6 h
  show AW _ _ _ _ _ _ _ _
  unfold l6_multi_Usage at h
  refine AW.seq ?_
  refine AW.reg ?_
  refine Lp (V_lss rfl rfl rfl) rfl rfl ?_
  refine Lnil ?_
  refine thenN ?_
  refine AW.seq ?_
  refine AW.iff rfl decide_eq_true_iff h (fun h => ?_) (fun h => ?_)
  rotate_left
  · refine AW.exit ?_
    refine thenE ?_
    refine thenE ?_
    refine blockE ?_
    refine thenN ?_
    exact ⟨(FrLe.cons rfl (FrLe.cons rfl (FrLe.nil _))), h⟩
  refine AW.skip ?_
  refine thenN ?_
  refine AW.seqJ (fun fr σ => FrLe [(0, .pointer a0), (4, .pointer (some ⟨x4_1, 0, none⟩)), (5, .pointer (some ⟨x5_2, 0, none⟩)), (17, Sl.v a1), (18, .int .i64 (a1.len : Int)), (19, .int .i64 x19_7)] fr ∧ j8_multi_Usage B ro a0 a1 x4_1 x5_2 x19_7 Q Y6 σ) ?_ ?_
  · rintro fr σ ⟨hl, h⟩
    refine AW.weaken ?_ hl (HLe.refl _)
    unfold j8_multi_Usage at h
    refine AW.reg ?_
    refine Lp (V_add rfl rfl rfl) rfl rfl ?_
    refine Lp (V_move rfl rfl) rfl rfl ?_
    refine Lnil ?_
    refine thenN ?_
    refine ARound.head (fr' := [(0, .pointer a0), (4, .pointer (some ⟨x4_1, 0, none⟩)), (5, .pointer (some ⟨x5_2, 0, none⟩)), (17, Sl.v a1), (18, .int .i64 (a1.len : Int)), (19, .int .i64 (IntKind.i64.wrap (x19_7 + 1)))]) ?_ (FrLe.cons rfl (FrLe.cons rfl (FrLe.cons rfl (FrLe.cons rfl (FrLe.cons rfl (FrLe.cons rfl (FrLe.nil _)))))))
    exact hY6 _ _ h
  refine AW.block ?_
  refine AW.seq ?_
  refine AW.reg ?_
  obtain ⟨p21_9, ha, h0, h1, h⟩ := h
  refine Lp (V_ixA rfl Tryz.underlying25 ty9 (ixL rfl ha) rfl h0 h1) rfl rfl ?_
  obtain ⟨x22_10, hc, h⟩ := h
  refine Ls rfl rfl (X_ld rfl Tryz.underlying9 rfl rfl hc ?_)
  refine Lp (V_asg rfl rfl) rfl rfl ?_
  refine Lnil ?_
  refine thenN ?_
  refine AW.seq ?_
  refine AW.reg ?_
  refine Lp (V_move rfl rfl) rfl rfl ?_
  refine Lp (V_move rfl rfl) rfl rfl ?_
  obtain ⟨hc, h⟩ := h
  refine Lp (V_cat rfl rfl rfl hc) rfl rfl ?_
  refine Ls rfl rfl (X_call rfl Tryz.func15 rfl rfl rfl (ACalls.mono h ?_))
  rintro v σ ⟨x27_11, x27_12, rfl, h⟩
  refine Lp (V_move rfl rfl) rfl rfl ?_
  refine Lp (V_ext rfl rfl rfl) rfl rfl ?_
  refine Lp (V_ext rfl rfl rfl) rfl rfl ?_
  refine Lp (V_asg rfl rfl) rfl rfl ?_
  refine Lp (V_asg rfl rfl) rfl rfl ?_
  refine Lnil ?_
  refine thenN ?_
  refine AW.seq ?_
  refine AW.reg ?_
  refine Lp (V_move rfl rfl) rfl rfl ?_
  refine Lp (V_lenL rfl rfl Tryz.underlying25 rfl rfl) rfl rfl ?_
  refine Lp (V_move rfl rfl) rfl rfl ?_
  refine Lnil ?_
  refine thenN ?_
  refine AW.block ?_
  refine ARound.loop (fr' := [(0, .pointer a0), (4, .pointer (some ⟨x4_1, 0, none⟩)), (5, .pointer (some ⟨x5_2, 0, none⟩)), (7, .string x22_10), (17, Sl.v a1), (18, .int .i64 (a1.len : Int)), (19, .int .i64 x19_7), (30, Sl.v x27_11), (31, .int .i64 (x27_11.len : Int)), (32, .int .i64 0)]) ?_ (FrLe.cons rfl (FrLe.cons rfl (FrLe.cons rfl (FrLe.cons rfl (FrLe.cons rfl (FrLe.cons rfl (FrLe.cons rfl (FrLe.cons rfl (FrLe.cons rfl (FrLe.cons rfl (FrLe.nil _)))))))))))
  refine h (fun x32_14 σ => ARound _ _ _ _ _ _ [(0, .pointer a0), (4, .pointer (some ⟨x4_1, 0, none⟩)), (5, .pointer (some ⟨x5_2, 0, none⟩)), (7, .string x22_10), (17, Sl.v a1), (18, .int .i64 (a1.len : Int)), (19, .int .i64 x19_7), (30, Sl.v x27_11), (31, .int .i64 (x27_11.len : Int)), (32, .int .i64 x32_14)] σ) ?_
  rintro x32_14 σ Y13 hY13 h
  show AW _ _ _ _ _ _ _ _
  unfold l13_multi_Usage at h
  refine AW.seq ?_
  refine AW.reg ?_
  refine Lp (V_lss rfl rfl rfl) rfl rfl ?_
  refine Lnil ?_
  refine thenN ?_
  refine AW.seq ?_
  refine AW.iff rfl decide_eq_true_iff h (fun h => ?_) (fun h => ?_)
  rotate_left
  · refine AW.exit ?_
    refine thenE ?_
    refine thenE ?_
    refine blockE ?_
    refine blockN ?_
    refine thenN ?_
    exact ⟨(FrLe.cons rfl (FrLe.cons rfl (FrLe.cons rfl (FrLe.cons rfl (FrLe.cons rfl (FrLe.cons rfl (FrLe.nil _))))))), h⟩
  refine AW.skip ?_
  refine thenN ?_
  refine AW.seqJ (fun fr σ => FrLe [(0, .pointer a0), (4, .pointer (some ⟨x4_1, 0, none⟩)), (5, .pointer (some ⟨x5_2, 0, none⟩)), (7, .string x22_10), (17, Sl.v a1), (18, .int .i64 (a1.len : Int)), (19, .int .i64 x19_7), (30, Sl.v x27_11), (31, .int .i64 (x27_11.len : Int)), (32, .int .i64 x32_14)] fr ∧ j15_multi_Usage B ro a0 a1 x4_1 x5_2 x19_7 x22_10 x27_11 x32_14 Q Y6 Y13 σ) ?_ ?_
  · rintro fr σ ⟨hl, h⟩
    refine AW.weaken ?_ hl (HLe.refl _)
    unfold j15_multi_Usage at h
    refine AW.reg ?_
    refine Lp (V_add rfl rfl rfl) rfl rfl ?_
    refine Lp (V_move rfl rfl) rfl rfl ?_
    refine Lnil ?_
    refine thenN ?_
    refine ARound.head (fr' := [(0, .pointer a0), (4, .pointer (some ⟨x4_1, 0, none⟩)), (5, .pointer (some ⟨x5_2, 0, none⟩)), (7, .string x22_10), (17, Sl.v a1), (18, .int .i64 (a1.len : Int)), (19, .int .i64 x19_7), (30, Sl.v x27_11), (31, .int .i64 (x27_11.len : Int)), (32, .int .i64 (IntKind.i64.wrap (x32_14 + 1)))]) ?_ (FrLe.cons rfl (FrLe.cons rfl (FrLe.cons rfl (FrLe.cons rfl (FrLe.cons rfl (FrLe.cons rfl (FrLe.cons rfl (FrLe.cons rfl (FrLe.cons rfl (FrLe.cons rfl (FrLe.nil _)))))))))))
    exact hY13 _ _ h
  refine AW.block ?_
  refine AW.seq ?_
  refine AW.reg ?_
  obtain ⟨p34_16, ha, h0, h1, h⟩ := h
  refine Lp (V_ixA rfl Tryz.underlying25 ty9 (ixL rfl ha) rfl h0 h1) rfl rfl ?_
  obtain ⟨x35_17, hc, h⟩ := h
  refine Ls rfl rfl (X_ld rfl Tryz.underlying9 rfl rfl hc ?_)
  refine Lp (V_asg rfl rfl) rfl rfl ?_
  refine Lnil ?_
  refine thenN ?_
  refine AW.seq ?_
  refine AW.seq ?_
  refine AW.reg ?_
  refine Lp (V_move rfl rfl) rfl rfl ?_
  refine Ls rfl rfl (X_call rfl Tryz.func97 rfl rfl rfl (ACalls.mono h ?_))
  rintro v σ ⟨x38_18, x38_19, rfl, h⟩
  refine Lp (V_move rfl rfl) rfl rfl ?_
  refine Lp (V_ext rfl rfl rfl) rfl rfl ?_
  refine Lp (V_ext rfl rfl rfl) rfl rfl ?_
  refine Lp (V_asg rfl rfl) rfl rfl ?_
  refine Lp (V_asg rfl rfl) rfl rfl ?_
  refine Lnil ?_
  refine thenN ?_
  refine AW.seq ?_
  refine AW.reg ?_
  refine Lp (V_move rfl rfl) rfl rfl ?_
  refine Lp (V_move rfl rfl) rfl rfl ?_
  refine Lp (V_neqS rfl rfl rfl) rfl rfl ?_
  refine Lp (V_move rfl rfl) rfl rfl ?_
  refine Lsplit 3 (!(decide (x38_18 = x22_10))) [(0, .pointer a0), (4, .pointer (some ⟨x4_1, 0, none⟩)), (5, .pointer (some ⟨x5_2, 0, none⟩)), (7, .string x22_10), (11, .string x35_17), (17, Sl.v a1), (18, .int .i64 (a1.len : Int)), (19, .int .i64 x19_7), (30, Sl.v x27_11), (31, .int .i64 (x27_11.len : Int)), (32, .int .i64 x32_14), (47, .bool ((!(decide (x38_18 = x22_10))) || (decide (x22_10 = (⟨#[]⟩ : ByteArray)))))] ?_ ?_ ?_
  · intro e3 hk3
    refine Ln rfl rfl rfl rfl (.inl (by rw [e3]; rfl)) ?_
    refine Ln rfl rfl rfl rfl (.inl (by rw [e3]; rfl)) ?_
    refine Lp (V_pickT rfl (evb e3) rfl) rfl rfl ?_
    exact hk3 _ (FrLe.cons rfl (FrLe.cons rfl (FrLe.cons rfl (FrLe.cons rfl (FrLe.cons rfl (FrLe.cons rfl (FrLe.cons rfl (FrLe.cons rfl (FrLe.cons rfl (FrLe.cons rfl (FrLe.cons rfl (FrLe.cons (by rw [e3]; rfl) (FrLe.nil _)))))))))))))
  · intro e3 hk3
    refine Lypb (V_move rfl rfl) rfl rfl rfl rfl e3 ?_
    refine Lypb (V_eqlS rfl rfl rfl) rfl rfl rfl rfl e3 ?_
    refine Lp (V_pickF rfl (evb e3) rfl) rfl rfl ?_
    exact hk3 _ (FrLe.cons rfl (FrLe.cons rfl (FrLe.cons rfl (FrLe.cons rfl (FrLe.cons rfl (FrLe.cons rfl (FrLe.cons rfl (FrLe.cons rfl (FrLe.cons rfl (FrLe.cons rfl (FrLe.cons rfl (FrLe.cons (by rw [e3]; rfl) (FrLe.nil _)))))))))))))
  intro fr hl
  refine Lfr hl ?_
  refine Lnil ?_
  refine thenN ?_
  refine AW.iff rfl (bor_iff (bnot_iff decide_eq_true_iff) decide_eq_true_iff) h (fun h => ?_) (fun h => ?_)
  · refine AW.exit ?_
    refine thenE ?_
    refine blockE ?_
    refine thenN ?_
    exact ⟨(FrLe.cons rfl (FrLe.cons rfl (FrLe.cons rfl (FrLe.cons rfl (FrLe.cons rfl (FrLe.cons rfl (FrLe.cons rfl (FrLe.cons rfl (FrLe.cons rfl (FrLe.cons rfl (FrLe.nil _))))))))))), h⟩
  refine AW.skip ?_
  refine thenN ?_
  refine AW.seq ?_
  refine AW.reg ?_
  refine Lp (V_move rfl rfl) rfl rfl ?_
  refine Lp (V_move rfl rfl) rfl rfl ?_
  refine Ls rfl rfl (X_call rfl Tryz.func17 rfl rfl rfl (ACalls.mono h ?_))
  rintro v σ ⟨x51_20, x51_21a, x51_21b, x51_21c, x51_21d, x51_22, rfl, h⟩
  refine Lp (V_move rfl rfl) rfl rfl ?_
  refine Lp (V_ext rfl rfl rfl) rfl rfl ?_
  refine Lp (V_ext rfl rfl rfl) rfl rfl ?_
  refine Lp (V_ext rfl rfl rfl) rfl rfl ?_
  refine Ls rfl rfl (X_new (A_alloc rfl ty32) fun x15_23 g1 g2 => ?_)
  replace h := h x15_23 g1 g2
  refine Lp (V_asg rfl rfl) rfl rfl ?_
  refine Ls rfl rfl (X_st rfl ty32 rfl rfl rfl rfl (stN_mono h fun σ h => ?_))
  refine Lp (V_asg rfl rfl) rfl rfl ?_
  refine Lnil ?_
  refine thenN ?_
  refine AW.seq ?_
  refine AW.reg ?_
  refine Lp (V_fld rfl Tryz.underlying69 rfl ty3 (by decide) rfl) rfl rfl ?_
  obtain ⟨x56_24, hc, h⟩ := h
  refine Ls rfl rfl (X_ld rfl Tryz.underlying3 rfl rfl hc ?_)
  refine Lp (V_add rfl rfl rfl) rfl rfl ?_
  refine Lp (V_fld rfl Tryz.underlying69 rfl ty3 (by decide) rfl) rfl rfl ?_
  refine Ls rfl rfl (X_st rfl ty3 rfl rfl rfl rfl (stN_mono h fun σ h => ?_))
  refine Lnil ?_
  refine thenN ?_
  refine AW.reg ?_
  refine Lp (V_fld rfl Tryz.underlying69 rfl ty3 (by decide) rfl) rfl rfl ?_
  obtain ⟨x60_25, hc, h⟩ := h
  refine Ls rfl rfl (X_ld rfl Tryz.underlying3 rfl rfl hc ?_)
  refine Lp (V_move rfl rfl) rfl rfl ?_
  refine Lp (V_lenS rfl rfl Tryz.underlying9 rfl rfl) rfl rfl ?_
  refine Lp (V_move rfl rfl) rfl rfl ?_
  refine Lp (V_lenL rfl rfl Tryz.underlying30 rfl rfl) rfl rfl ?_
  refine Lp (V_add rfl rfl rfl) rfl rfl ?_
  refine Lp (V_add rfl rfl rfl) rfl rfl ?_
  refine Lp (V_fld rfl Tryz.underlying69 rfl ty3 (by decide) rfl) rfl rfl ?_
  refine Ls rfl rfl (X_st rfl ty3 rfl rfl rfl rfl (stN_mono h fun σ h => ?_))
  refine Lnil ?_
  refine blockN ?_
  refine thenN ?_
  exact ⟨(FrLe.cons rfl (FrLe.cons rfl (FrLe.cons rfl (FrLe.cons rfl (FrLe.cons rfl (FrLe.cons rfl (FrLe.cons rfl (FrLe.cons rfl (FrLe.cons rfl (FrLe.cons rfl (FrLe.nil _))))))))))), h⟩

def j17_multi_work_do (B : World) (ro : AH) (Q : Int → AH → Prop) (σ : AH) : Prop :=
 Q 0 σ

def j10_multi_work_do (B : World) (ro : AH) (a0 : Option Addr) (x3_1 : Nat) (x6_4 : Nat) (x8_7 : Nat) (Q : Int → AH → Prop) (σ : AH) : Prop :=
 ∃ p148_11 : Addr, a0 = some p148_11 ∧
 ∃ (x151_12 : Sl), acell ro σ p148_11 = some (Sl.v x151_12) ∧
 ∃ (x152_13a : ByteArray) (x152_13b : Int), cellsAt ro σ ⟨x6_4, 0, none⟩ 0 [.string x152_13a, .int .i64 x152_13b] ∧
 nw ro σ (.cells #[.string x152_13a, .int .i64 x152_13b] 84) fun x153_14 σ =>
 awp Tryz.prog ro (Builtin.append_ #[74, 74] 74 #[Sl.v x151_12, Sl.v (⟨some ⟨x153_14, 0, none⟩, 1, 1⟩ : Sl)]) (fun v σ => ∃ (x154_15 : Sl), v = Sl.v x154_15 ∧
  ∃ p155_16 : Addr, a0 = some p155_16 ∧
  stN p155_16 (fun σ =>
   ∃ (x159_18 : Int), acell ro σ ⟨x3_1, 0, none⟩ = some (.int .i64 x159_18) ∧
   if ¬ (x159_18 = 4) then
    ∃ p163_19 : Addr, a0 = some p163_19 ∧
    ∃ (x166_20 : Sl), acell ro σ (p163_19.add 1) = some (Sl.v x166_20) ∧
    ∃ (x167_21a : Int) (x167_21b : ByteArray), cellsAt ro σ ⟨x8_7, 0, none⟩ 0 [.int .i64 x167_21a, .string x167_21b] ∧
    nw ro σ (.cells #[.int .i64 x167_21a, .string x167_21b] 108) fun x168_22 σ =>
    awp Tryz.prog ro (Builtin.append_ #[75, 75] 75 #[Sl.v x166_20, Sl.v (⟨some ⟨x168_22, 0, none⟩, 1, 1⟩ : Sl)]) (fun v σ => ∃ (x169_23 : Sl), v = Sl.v x169_23 ∧
     ∃ p170_24 : Addr, a0 = some p170_24 ∧
     stN (p170_24.add 1) (fun σ =>
      j17_multi_work_do B ro Q σ) [Sl.v x169_23] 0 σ) σ
   else
   j17_multi_work_do B ro Q σ) [Sl.v x154_15] 0 σ) σ

def j35_multi_work_do (B : World) (ro : AH) (a0 : Option Addr) (x3_1 : Nat) (x6_4 : Nat) (x8_7 : Nat) (Q : Int → AH → Prop) (x145_36 : Bool) (σ : AH) : Prop :=
 if x145_36 = true then
  Q 81 σ
 else
 j10_multi_work_do B ro a0 x3_1 x6_4 x8_7 Q σ

def j26_multi_work_do (B : World) (ro : AH) (a0 : Option Addr) (x3_1 : Nat) (x6_4 : Nat) (x8_7 : Nat) (Q : Int → AH → Prop) (x117_27 : Bool) (σ : AH) : Prop :=
 if x117_27 = true then
  ∃ p119_28 : Addr, a0 = some p119_28 ∧
  ∃ p123_29 : Addr, a0 = some p123_29 ∧
  ∃ (x121_30 : Option Addr), acell ro σ (p119_28.add 3) = some (.pointer x121_30) ∧
  ∃ (x125_31 : ByteArray), acell ro σ (p123_29.add 4) = some (.string x125_31) ∧
  nw ro σ (.cells #[.string x125_31] 9) fun x126_32 σ =>
  c_multi_Usage B ro x121_30 (⟨some ⟨x126_32, 0, none⟩, 1, 1⟩ : Sl) σ fun x127_33a x127_33b σ =>
  nw ro σ (.cells #[.int .i64 0, .int .i64 0] 69) fun x11_34 σ =>
  stN ⟨x11_34, 0, none⟩ (fun σ =>
   ∃ p131_37 : Addr, a0 = some p131_37 ∧
   ∃ (x129_38 : Int), acell ro σ ⟨x11_34, 0, none⟩ = some (.int .i64 x129_38) ∧
   ∃ (x134_39 : Int), acell ro σ (p131_37.add 6) = some (.int .i64 x134_39) ∧
   if x134_39 < x129_38 then
    j35_multi_work_do B ro a0 x3_1 x6_4 x8_7 Q true σ
   else
   ∃ p140_40 : Addr, a0 = some p140_40 ∧
   ∃ (x138_41 : Int), acell ro σ ((⟨x11_34, 0, none⟩ : Addr).add 1) = some (.int .i64 x138_41) ∧
   ∃ (x143_42 : Int), acell ro σ ((p140_40.add 6).add 1) = some (.int .i64 x143_42) ∧
   j35_multi_work_do B ro a0 x3_1 x6_4 x8_7 Q (decide (x143_42 < x138_41)) σ) [.int .i64 x127_33a, .int .i64 x127_33b] 0 σ
 else
 j10_multi_work_do B ro a0 x3_1 x6_4 x8_7 Q σ

def j8_multi_work_do (B : World) (ro : AH) (a0 : Option Addr) (x3_1 : Nat) (x6_4 : Nat) (x8_7 : Nat) (Q : Int → AH → Prop) (x7_9 : Int) (σ : AH) : Prop :=
 if ¬ (x7_9 = 0) then
  Q x7_9 σ
 else
 ∃ (x111_25 : Int), acell ro σ ⟨x3_1, 0, none⟩ = some (.int .i64 x111_25) ∧
 if x111_25 = 1 then
  j26_multi_work_do B ro a0 x3_1 x6_4 x8_7 Q true σ
 else
 ∃ (x115_43 : Int), acell ro σ ⟨x3_1, 0, none⟩ = some (.int .i64 x115_43) ∧
 j26_multi_work_do B ro a0 x3_1 x6_4 x8_7 Q (decide (x115_43 = 3)) σ

def j45_multi_work_do (B : World) (ro : AH) (a0 : Option Addr) (x3_1 : Nat) (x6_4 : Nat) (x8_7 : Nat) (Q : Int → AH → Prop) (x9_46 : Int) (σ : AH) : Prop :=
 ∃ p35_47 : Addr, a0 = some p35_47 ∧
 ∃ (x37_48 : Option Addr), acell ro σ (p35_47.add 3) = some (.pointer x37_48) ∧
 ∃ (x39_49 : ByteArray), acell ro σ ((⟨x3_1, 0, none⟩ : Addr).add 1) = some (.string x39_49) ∧
 ∃ (x41_50 : Sl), acell ro σ ((⟨x3_1, 0, none⟩ : Addr).add 2) = some (Sl.v x41_50) ∧
 ∃ (x44_51 : Bool), acell ro σ ((⟨x3_1, 0, none⟩ : Addr).add 5) = some (.bool x44_51) ∧
 c_ztree_Tree_Create B ro x37_48 x39_49 x41_50 x9_46 x44_51 σ fun x45_52 x45_53 σ =>
 stN ⟨x6_4, 0, none⟩ (fun σ =>
  ∃ (x50_54 : ByteArray), acell ro σ ⟨x6_4, 0, none⟩ = some (.string x50_54) ∧
  stN ((⟨x8_7, 0, none⟩ : Addr).add 1) (fun σ =>
   j8_multi_work_do B ro a0 x3_1 x6_4 x8_7 Q x45_53 σ) [.string x50_54] 0 σ) [.string x45_52] 0 σ

def j79_multi_work_do (B : World) (ro : AH) (a0 : Option Addr) (x3_1 : Nat) (x6_4 : Nat) (x8_7 : Nat) (x89_76 : Int) (Q : Int → AH → Prop) (x106_80 : Bool) (σ : AH) : Prop :=
 if x106_80 = true then
  j8_multi_work_do B ro a0 x3_1 x6_4 x8_7 Q 72 σ
 else
 j8_multi_work_do B ro a0 x3_1 x6_4 x8_7 Q x89_76 σ

def j77_multi_work_do (B : World) (ro : AH) (a0 : Option Addr) (x3_1 : Nat) (x6_4 : Nat) (x8_7 : Nat) (x10_70 : Nat) (x89_76 : Int) (Q : Int → AH → Prop) (x99_78 : Bool) (σ : AH) : Prop :=
 if x99_78 = true then
  ∃ (x102_81 : Int), acell ro σ ((⟨x3_1, 0, none⟩ : Addr).add 3) = some (.int .i64 x102_81) ∧
  ∃ (x104_82 : Int), acell ro σ ⟨x10_70, 0, none⟩ = some (.int .i64 x104_82) ∧
  j79_multi_work_do B ro a0 x3_1 x6_4 x8_7 x89_76 Q (!(decide (x102_81 = x104_82))) σ
 else
 j79_multi_work_do B ro a0 x3_1 x6_4 x8_7 x89_76 Q false σ

def f_multi_work_do (B : World) (ro : AH) (a0 : Option Addr) (a1_0 : Int) (a1_1 : ByteArray) (a1_2 : Sl) (a1_3 : Int) (a1_4 : Bool) (a1_5 : Bool) (σ : AH) (Q : Int → AH → Prop) : Prop :=
 nw ro σ (.cells #[.int .i64 a1_0, .string a1_1, Sl.v a1_2, .int .i64 a1_3, .bool a1_4, .bool a1_5] 82) fun x3_1 σ =>
 ∃ (x13_2a : Int) (x13_2b : ByteArray) (x13_2c : Sl) (x13_2d : Int) (x13_2e : Bool) (x13_2f : Bool), cellsAt ro σ ⟨x3_1, 0, none⟩ 0 [.int .i64 x13_2a, .string x13_2b, Sl.v x13_2c, .int .i64 x13_2d, .bool x13_2e, .bool x13_2f] ∧
 c_multi_work_within B ro a0 x13_2a x13_2b x13_2c x13_2d x13_2e x13_2f σ fun x14_3 σ =>
 if ¬ (x14_3 = 0) then
  Q x14_3 σ
 else
 nw ro σ (.cells #[.string ByteArray.empty, .int .i64 0] 84) fun x6_4 σ =>
 ∃ (x19_5 : Int), acell ro σ ⟨x3_1, 0, none⟩ = some (.int .i64 x19_5) ∧
 ∃ (x21_6 : ByteArray), acell ro σ ((⟨x3_1, 0, none⟩ : Addr).add 1) = some (.string x21_6) ∧
 nw ro σ (.cells #[.int .i64 0, .string ByteArray.empty] 108) fun x8_7 σ =>
 stN ⟨x8_7, 0, none⟩ (fun σ =>
  ∃ (x24_44 : Int), acell ro σ ⟨x3_1, 0, none⟩ = some (.int .i64 x24_44) ∧
  if x24_44 = 1 then
   ∃ (x28_55 : Bool), acell ro σ ((⟨x3_1, 0, none⟩ : Addr).add 4) = some (.bool x28_55) ∧
   if x28_55 = true then
    ∃ p30_56 : Addr, a0 = some p30_56 ∧
    ∃ (x32_57 : Int), acell ro σ (p30_56.add 5) = some (.int .i64 x32_57) ∧
    j45_multi_work_do B ro a0 x3_1 x6_4 x8_7 Q x32_57 σ
   else
   j45_multi_work_do B ro a0 x3_1 x6_4 x8_7 Q 0 σ
  else
  if x24_44 = 2 then
   ∃ p55_58 : Addr, a0 = some p55_58 ∧
   ∃ (x57_59 : Option Addr), acell ro σ (p55_58.add 3) = some (.pointer x57_59) ∧
   ∃ (x59_60 : ByteArray), acell ro σ ((⟨x3_1, 0, none⟩ : Addr).add 1) = some (.string x59_60) ∧
   ∃ (x61_61 : Int), acell ro σ ((⟨x3_1, 0, none⟩ : Addr).add 3) = some (.int .i64 x61_61) ∧
   c_ztree_Tree_Delete B ro x57_59 x59_60 x61_61 σ fun x62_62 σ =>
   j8_multi_work_do B ro a0 x3_1 x6_4 x8_7 Q x62_62 σ
  else
  if x24_44 = 3 then
   ∃ p67_63 : Addr, a0 = some p67_63 ∧
   ∃ (x69_64 : Option Addr), acell ro σ (p67_63.add 3) = some (.pointer x69_64) ∧
   ∃ (x71_65 : ByteArray), acell ro σ ((⟨x3_1, 0, none⟩ : Addr).add 1) = some (.string x71_65) ∧
   ∃ (x73_66 : Sl), acell ro σ ((⟨x3_1, 0, none⟩ : Addr).add 2) = some (Sl.v x73_66) ∧
   ∃ (x75_67 : Int), acell ro σ ((⟨x3_1, 0, none⟩ : Addr).add 3) = some (.int .i64 x75_67) ∧
   c_ztree_Tree_Set B ro x69_64 x71_65 x73_66 x75_67 σ fun x76_68 x76_69 σ =>
   stN ((⟨x6_4, 0, none⟩ : Addr).add 1) (fun σ =>
    j8_multi_work_do B ro a0 x3_1 x6_4 x8_7 Q x76_69 σ) [.int .i64 x76_68] 0 σ
  else
  if x24_44 = 4 then
   nw ro σ (.cells #[.int .i64 0, .int .i64 0, .int .i64 0, .int .i64 0] 32) fun x10_70 σ =>
   ∃ p84_71 : Addr, a0 = some p84_71 ∧
   ∃ (x86_72 : Option Addr), acell ro σ (p84_71.add 3) = some (.pointer x86_72) ∧
   ∃ (x88_73 : ByteArray), acell ro σ ((⟨x3_1, 0, none⟩ : Addr).add 1) = some (.string x88_73) ∧
   c_ztree_Tree_Get B ro x86_72 x88_73 σ fun x89_74 x89_75a x89_75b x89_75c x89_75d x89_76 σ =>
   stN ⟨x10_70, 0, none⟩ (fun σ =>
    if x89_76 = 0 then
     ∃ (x97_83 : Int), acell ro σ ((⟨x3_1, 0, none⟩ : Addr).add 3) = some (.int .i64 x97_83) ∧
     j77_multi_work_do B ro a0 x3_1 x6_4 x8_7 x10_70 x89_76 Q (!(decide (x97_83 = (-1)))) σ
    else
    j77_multi_work_do B ro a0 x3_1 x6_4 x8_7 x10_70 x89_76 Q false σ) [.int .i64 x89_75a, .int .i64 x89_75b, .int .i64 x89_75c, .int .i64 x89_75d] 0 σ
  else
  j8_multi_work_do B ro a0 x3_1 x6_4 x8_7 Q 0 σ) [.int .i64 x19_5, .string x21_6] 0 σ

set_option maxRecDepth 100000 in
set_option maxHeartbeats 4000000 in
theorem multi_work_do_ok {B : World} {ro : AH} {a0 : Option Addr} {a1_0 : Int} {a1_1 : ByteArray} {a1_2 : Sl} {a1_3 : Int} {a1_4 : Bool} {a1_5 : Bool} {σ : AH} {Q : Int → AH → Prop} (h : Sep ro σ → f_multi_work_do B ro a0 a1_0 a1_1 a1_2 a1_3 a1_4 a1_5 σ Q) : c_multi_work_do B ro a0 a1_0 a1_1 a1_2 a1_3 a1_4 a1_5 σ Q := by
  refine ACalls.of_sep fun hsep => ?_
  replace h := h hsep
  refine ACalls.of_body (args := [.pointer a0, .agg #[.int .i64 a1_0, .string a1_1, Sl.v a1_2, .int .i64 a1_3, .bool a1_4, .bool a1_5]]) Tryz.func96 rfl (by rw [Tryz.ntmps96]; simp) ?_
  rw [Tryz.ntmps96]
  unfold f_multi_work_do at h
  refine AW.seq ?_
  refine AW.reg ?_
  refine Ls rfl rfl (X_new (A_box rfl rfl) fun x3_1 g1 g2 => ?_)
  replace h := h x3_1 g1 g2
  refine Lp (V_asg rfl rfl) rfl rfl ?_
  refine Lnil ?_
  refine thenN ?_
  refine AW.seq ?_
  refine AW.seq ?_
  refine AW.reg ?_
  refine Lp (V_move rfl rfl) rfl rfl ?_
  obtain ⟨x13_2a, x13_2b, x13_2c, x13_2d, x13_2e, x13_2f, hc, h⟩ := h
  refine Ls rfl rfl (X_lda rfl Tryz.underlying82 rfl ty82 rfl hc ?_)
  refine Ls rfl rfl (X_call rfl Tryz.func125 rfl rfl rfl (ACalls.mono h ?_))
  rintro v σ ⟨x14_3, rfl, h⟩
  refine Lp (V_asg rfl rfl) rfl rfl ?_
  refine Lnil ?_
  refine thenN ?_
  refine AW.seq ?_
  refine AW.reg ?_
  refine Lp (V_move rfl rfl) rfl rfl ?_
  refine Lp (V_neq rfl rfl rfl) rfl rfl ?_
  refine Lnil ?_
  refine thenN ?_
  refine AW.iff rfl (bnot_iff decide_eq_true_iff) h (fun h => ?_) (fun h => ?_)
  · refine AW.seq ?_
    refine AW.reg ?_
    refine Lp (V_move rfl rfl) rfl rfl ?_
    refine Lp (V_asg rfl rfl) rfl rfl ?_
    refine Lnil ?_
    refine thenN ?_
    refine AW.ret ?_
    refine thenR ?_
    exact bR1 Tryz.results96 rfl ⟨_, rfl, h⟩
  refine AW.skip ?_
  refine thenN ?_
  refine AW.seq ?_
  refine AW.reg ?_
  refine Ls rfl rfl (X_new (A_alloc rfl ty84) fun x6_4 g1 g2 => ?_)
  replace h := h x6_4 g1 g2
  refine Lnil ?_
  refine thenN ?_
  refine AW.seq ?_
  refine AW.reg ?_
  refine Lp (V_asg rfl rfl) rfl rfl ?_
  refine Lnil ?_
  refine thenN ?_
  refine AW.seq ?_
  refine AW.reg ?_
  refine Lp (V_fld rfl Tryz.underlying82 rfl ty3 (by decide) rfl) rfl rfl ?_
  obtain ⟨x19_5, hc, h⟩ := h
  refine Ls rfl rfl (X_ld rfl Tryz.underlying3 rfl rfl hc ?_)
  refine Lp (V_fld rfl Tryz.underlying82 rfl ty9 (by decide) rfl) rfl rfl ?_
  obtain ⟨x21_6, hc, h⟩ := h
  refine Ls rfl rfl (X_ld rfl Tryz.underlying9 rfl rfl hc ?_)
  refine Lp (V_bld (vs := [(0, .int .i64 x19_5), (1, .string x21_6)]) (cs := #[.int .i64 x19_5, .string x21_6]) rfl Tryz.underlying108 ty108 pl108 rfl rfl) rfl rfl ?_
  refine Ls rfl rfl (X_new (A_alloc rfl ty108) fun x8_7 g1 g2 => ?_)
  replace h := h x8_7 g1 g2
  refine Ls rfl rfl (X_st rfl ty108 rfl rfl rfl rfl (stN_mono h fun σ h => ?_))
  refine Lnil ?_
  refine thenN ?_
  refine AW.seqJ (fun fr σ => ∃ (x7_9 : Int), FrLe [(0, .pointer a0), (3, .pointer (some ⟨x3_1, 0, none⟩)), (6, .pointer (some ⟨x6_4, 0, none⟩)), (8, .pointer (some ⟨x8_7, 0, none⟩)), (7, .int .i64 x7_9)] fr ∧ j8_multi_work_do B ro a0 x3_1 x6_4 x8_7 Q x7_9 σ) ?_ ?_
  · rintro fr σ ⟨x7_9, hl, h⟩
    refine AW.weaken ?_ hl (HLe.refl _)
    unfold j8_multi_work_do at h
    refine AW.seq ?_
    refine AW.seq ?_
    refine AW.reg ?_
    refine Lp (V_move rfl rfl) rfl rfl ?_
    refine Lp (V_neq rfl rfl rfl) rfl rfl ?_
    refine Lnil ?_
    refine thenN ?_
    refine AW.iff rfl (bnot_iff decide_eq_true_iff) h (fun h => ?_) (fun h => ?_)
    · refine AW.seq ?_
      refine AW.reg ?_
      refine Lp (V_move rfl rfl) rfl rfl ?_
      refine Lp (V_asg rfl rfl) rfl rfl ?_
      refine Lnil ?_
      refine thenN ?_
      refine AW.ret ?_
      refine thenR ?_
      exact bR1 Tryz.results96 rfl ⟨_, rfl, h⟩
    refine AW.skip ?_
    refine thenN ?_
    refine AW.seqJ (fun fr σ => FrLe [(0, .pointer a0), (3, .pointer (some ⟨x3_1, 0, none⟩)), (6, .pointer (some ⟨x6_4, 0, none⟩)), (8, .pointer (some ⟨x8_7, 0, none⟩))] fr ∧ j10_multi_work_do B ro a0 x3_1 x6_4 x8_7 Q σ) ?_ ?_
    · rintro fr σ ⟨hl, h⟩
      refine AW.weaken ?_ hl (HLe.refl _)
      unfold j10_multi_work_do at h
      refine AW.seq ?_
      refine AW.drawn0 (fun i => ([0, 0, 0, 0, 0, 3, 3, 1, 2, 0, 0, 0, 2] : List Nat).getD i 2) [(6, 7), (6, 8)] [0, 1, 2, 3, 4, 5, 6, 7, 8, 9, 10, 11, 12] Tryz.mixed (by decide +kernel) ?_
      refine Dp rfl rfl rfl rfl (V_move rfl rfl) ?_
      refine Dp rfl rfl rfl rfl (V_move rfl rfl) ?_
      obtain ⟨p148_11, hc, h⟩ := h
      refine Dp rfl rfl rfl rfl (V_nil rfl (by rw [← hc]; rfl)) ?_
      refine Dp rfl rfl rfl rfl (V_fld rfl Tryz.underlying173 rfl ty77 (by decide) rfl) ?_
      refine Dp rfl rfl rfl rfl (V_fld rfl Tryz.underlying77 rfl ty74 (by decide) rfl) ?_
      obtain ⟨x151_12, hc, h⟩ := h
      refine Dr rfl rfl rfl rfl (R_ld rfl Tryz.underlying74 rfl rfl hc) ?_
      obtain ⟨x152_13a, x152_13b, hc, h⟩ := h
      refine Dr rfl rfl rfl rfl (R_lda rfl Tryz.underlying84 rfl ty84 rfl hc) ?_
      refine Da rfl rfl rfl rfl (A_bsl (vs := [(0, .agg #[.string x152_13a, .int .i64 x152_13b])]) (cs := #[.string x152_13a, .int .i64 x152_13b]) rfl Tryz.underlying74 ty84 (by decide) rfl rfl) fun x153_14 g1 g2 => ?_
      replace h := h x153_14 g1 g2
      refine Dg rfl rfl rfl rfl (X_bi (s := Builtin.append_ #[74, 74] 74 #[Sl.v x151_12, Sl.v (⟨some ⟨x153_14, 0, none⟩, 1, 1⟩ : Sl)]) rfl rfl (fun _ => rfl) (awp_mono _ h ?_))
      rintro v σ ⟨x154_15, rfl, h⟩
      obtain ⟨p155_16, hc, h⟩ := h
      refine Dp rfl rfl rfl rfl (V_nil rfl (by rw [← hc]; rfl)) ?_
      refine Dp rfl rfl rfl rfl (V_fld rfl Tryz.underlying173 rfl ty77 (by decide) rfl) ?_
      refine Dp rfl rfl rfl rfl (V_fld rfl Tryz.underlying77 rfl ty74 (by decide) rfl) ?_
      refine Dg rfl rfl rfl rfl (X_st rfl ty74 rfl rfl rfl rfl (stN_mono h fun σ h => ?_))
      refine Dend ?_
      refine thenN ?_
      refine AW.seqJ (fun fr σ => FrLe [] fr ∧ j17_multi_work_do B ro Q σ) ?_ ?_
      · rintro fr σ ⟨hl, h⟩
        refine AW.weaken ?_ hl (HLe.refl _)
        unfold j17_multi_work_do at h
        refine AW.seq ?_
        refine AW.reg ?_
        refine Lp (V_asg rfl rfl) rfl rfl ?_
        refine Lnil ?_
        refine thenN ?_
        refine AW.ret ?_
        exact bR1 Tryz.results96 rfl ⟨_, rfl, h⟩
      refine AW.seq ?_
      refine AW.reg ?_
      refine Lp (V_fld rfl Tryz.underlying82 rfl ty3 (by decide) rfl) rfl rfl ?_
      obtain ⟨x159_18, hc, h⟩ := h
      refine Ls rfl rfl (X_ld rfl Tryz.underlying3 rfl rfl hc ?_)
      refine Lp (V_neq rfl rfl rfl) rfl rfl ?_
      refine Lnil ?_
      refine thenN ?_
      refine AW.iff rfl (bnot_iff decide_eq_true_iff) h (fun h => ?_) (fun h => ?_)
      rotate_left
      · refine AW.skip ?_
        refine thenN ?_
        exact ⟨(FrLe.nil _), h⟩
      refine AW.drawn0 (fun i => ([0, 0, 0, 0, 0, 3, 3, 1, 2, 0, 0, 0, 2] : List Nat).getD i 2) [(6, 7), (6, 8)] [0, 1, 2, 3, 4, 5, 6, 7, 8, 9, 10, 11, 12] Tryz.mixed (by decide +kernel) ?_
      refine Dp rfl rfl rfl rfl (V_move rfl rfl) ?_
      refine Dp rfl rfl rfl rfl (V_move rfl rfl) ?_
      obtain ⟨p163_19, hc, h⟩ := h
      refine Dp rfl rfl rfl rfl (V_nil rfl (by rw [← hc]; rfl)) ?_
      refine Dp rfl rfl rfl rfl (V_fld rfl Tryz.underlying173 rfl ty77 (by decide) rfl) ?_
      refine Dp rfl rfl rfl rfl (V_fld rfl Tryz.underlying77 rfl ty75 (by decide) rfl) ?_
      obtain ⟨x166_20, hc, h⟩ := h
      refine Dr rfl rfl rfl rfl (R_ld rfl Tryz.underlying75 rfl rfl hc) ?_
      obtain ⟨x167_21a, x167_21b, hc, h⟩ := h
      refine Dr rfl rfl rfl rfl (R_lda rfl Tryz.underlying108 rfl ty108 rfl hc) ?_
      refine Da rfl rfl rfl rfl (A_bsl (vs := [(0, .agg #[.int .i64 x167_21a, .string x167_21b])]) (cs := #[.int .i64 x167_21a, .string x167_21b]) rfl Tryz.underlying75 ty108 (by decide) rfl rfl) fun x168_22 g1 g2 => ?_
      replace h := h x168_22 g1 g2
      refine Dg rfl rfl rfl rfl (X_bi (s := Builtin.append_ #[75, 75] 75 #[Sl.v x166_20, Sl.v (⟨some ⟨x168_22, 0, none⟩, 1, 1⟩ : Sl)]) rfl rfl (fun _ => rfl) (awp_mono _ h ?_))
      rintro v σ ⟨x169_23, rfl, h⟩
      obtain ⟨p170_24, hc, h⟩ := h
      refine Dp rfl rfl rfl rfl (V_nil rfl (by rw [← hc]; rfl)) ?_
      refine Dp rfl rfl rfl rfl (V_fld rfl Tryz.underlying173 rfl ty77 (by decide) rfl) ?_
      refine Dp rfl rfl rfl rfl (V_fld rfl Tryz.underlying77 rfl ty75 (by decide) rfl) ?_
      refine Dg rfl rfl rfl rfl (X_st rfl ty75 rfl rfl rfl rfl (stN_mono h fun σ h => ?_))
      refine Dend ?_
      refine thenN ?_
      exact ⟨(FrLe.nil _), h⟩
    refine AW.seq ?_
    refine AW.reg ?_
    refine Lp (V_fld rfl Tryz.underlying82 rfl ty3 (by decide) rfl) rfl rfl ?_
    obtain ⟨x111_25, hc, h⟩ := h
    refine Ls rfl rfl (X_ld rfl Tryz.underlying3 rfl rfl hc ?_)
    refine Lp (V_eql rfl rfl rfl) rfl rfl ?_
    refine Lp (V_move rfl rfl) rfl rfl ?_
    refine LsplitJ 4 (decide (x111_25 = 1)) decide_eq_true_iff h (fun fr σ => ∃ (x117_27 : Bool), FrLe [(0, .pointer a0), (3, .pointer (some ⟨x3_1, 0, none⟩)), (6, .pointer (some ⟨x6_4, 0, none⟩)), (8, .pointer (some ⟨x8_7, 0, none⟩)), (117, .bool x117_27)] fr ∧ j26_multi_work_do B ro a0 x3_1 x6_4 x8_7 Q x117_27 σ) ?_ ?_ ?_
    · intro h e3 hk3
      refine Ln rfl rfl rfl rfl (.inl (by rw [e3]; rfl)) ?_
      refine Ln rfl rfl rfl rfl (.inl (by rw [e3]; rfl)) ?_
      refine Ln rfl rfl rfl rfl (.inl (by rw [e3]; rfl)) ?_
      refine Lp (V_pickT rfl (evb e3) rfl) rfl rfl ?_
      exact hk3 _ _ ⟨_, (FrLe.cons rfl (FrLe.cons rfl (FrLe.cons rfl (FrLe.cons rfl (FrLe.cons rfl (FrLe.nil _)))))), h⟩
    · intro h e3 hk3
      refine Lypb (V_fld rfl Tryz.underlying82 rfl ty3 (by decide) rfl) rfl rfl rfl rfl e3 ?_
      obtain ⟨x115_43, hc, h⟩ := h
      refine Lyb rfl rfl rfl rfl e3 (X_ld rfl Tryz.underlying3 rfl rfl hc ?_)
      refine Lypb (V_eql rfl rfl rfl) rfl rfl rfl rfl e3 ?_
      refine Lp (V_pickF rfl (evb e3) rfl) rfl rfl ?_
      exact hk3 _ _ ⟨_, (FrLe.cons rfl (FrLe.cons rfl (FrLe.cons rfl (FrLe.cons rfl (FrLe.cons rfl (FrLe.nil _)))))), h⟩
    rintro fr σ ⟨x117_27, hl, h⟩
    unfold j26_multi_work_do at h
    refine Lfr hl ?_
    refine Lnil ?_
    refine thenN ?_
    refine AW.iff rfl Iff.rfl h (fun h => ?_) (fun h => ?_)
    rotate_left
    · refine AW.skip ?_
      refine thenN ?_
      exact ⟨(FrLe.cons rfl (FrLe.cons rfl (FrLe.cons rfl (FrLe.cons rfl (FrLe.nil _))))), h⟩
    refine AW.seq ?_
    refine AW.drawn0 (fun i => ([0, 0, 0, 3, 0, 0, 0, 3, 1, 2, 1, 2] : List Nat).getD i 2) [(7, 8), (7, 9)] [0, 1, 2, 4, 5, 6, 3, 7, 8, 9, 10, 11] Tryz.mixed (by decide +kernel) ?_
    refine Dp rfl rfl rfl rfl (V_move rfl rfl) ?_
    obtain ⟨p119_28, hc, h⟩ := h
    refine Dp rfl rfl rfl rfl (V_nil rfl (by rw [← hc]; rfl)) ?_
    refine Dp rfl rfl rfl rfl (V_fld rfl Tryz.underlying173 rfl ty23 (by decide) rfl) ?_
    refine Dp rfl rfl rfl rfl (V_move rfl rfl) ?_
    obtain ⟨p123_29, hc, h⟩ := h
    refine Dp rfl rfl rfl rfl (V_nil rfl (by rw [← hc]; rfl)) ?_
    refine Dp rfl rfl rfl rfl (V_fld rfl Tryz.underlying173 rfl ty9 (by decide) rfl) ?_
    obtain ⟨x121_30, hc, h⟩ := h
    refine Dr rfl rfl rfl rfl (R_ld rfl Tryz.underlying23 rfl rfl hc) ?_
    obtain ⟨x125_31, hc, h⟩ := h
    refine Dr rfl rfl rfl rfl (R_ld rfl Tryz.underlying9 rfl rfl hc) ?_
    refine Da rfl rfl rfl rfl (A_bsl (vs := [(0, .string x125_31)]) (cs := #[.string x125_31]) rfl Tryz.underlying25 ty9 (by decide) rfl rfl) fun x126_32 g1 g2 => ?_
    replace h := h x126_32 g1 g2
    refine Dg rfl rfl rfl rfl (X_call rfl Tryz.func39 rfl rfl rfl (ACalls.mono h ?_))
    rintro v σ ⟨x127_33a, x127_33b, rfl, h⟩
    refine Da rfl rfl rfl rfl (A_alloc rfl ty69) fun x11_34 g1 g2 => ?_
    replace h := h x11_34 g1 g2
    refine Dg rfl rfl rfl rfl (X_st rfl ty69 rfl rfl rfl rfl (stN_mono h fun σ h => ?_))
    refine Dend ?_
    refine thenN ?_
    refine AW.seqJ (fun fr σ => ∃ (x145_36 : Bool), FrLe [(0, .pointer a0), (3, .pointer (some ⟨x3_1, 0, none⟩)), (6, .pointer (some ⟨x6_4, 0, none⟩)), (8, .pointer (some ⟨x8_7, 0, none⟩)), (145, .bool x145_36)] fr ∧ j35_multi_work_do B ro a0 x3_1 x6_4 x8_7 Q x145_36 σ) ?_ ?_
    · rintro fr σ ⟨x145_36, hl, h⟩
      refine AW.weaken ?_ hl (HLe.refl _)
      unfold j35_multi_work_do at h
      refine AW.iff rfl Iff.rfl h (fun h => ?_) (fun h => ?_)
      rotate_left
      · refine AW.skip ?_
        refine thenN ?_
        exact ⟨(FrLe.cons rfl (FrLe.cons rfl (FrLe.cons rfl (FrLe.cons rfl (FrLe.nil _))))), h⟩
      refine AW.seq ?_
      refine AW.reg ?_
      refine Lp (V_asg rfl rfl) rfl rfl ?_
      refine Lnil ?_
      refine thenN ?_
      refine AW.ret ?_
      refine thenR ?_
      exact bR1 Tryz.results96 rfl ⟨_, rfl, h⟩
    refine AW.drawn0 (fun i => ([0, 3, 0, 0, 0, 0, 3, 0, 0, 0, 3, 0, 0, 0, 0, 3, 0, 0] : List Nat).getD i 2) [] [0, 2, 3, 4, 5, 1, 6, 7, 8, 9, 11, 12, 13, 14, 10, 15, 16, 17] Tryz.mixed (by decide +kernel) ?_
    refine Dp rfl rfl rfl rfl (V_fld rfl Tryz.underlying69 rfl ty3 (by decide) rfl) ?_
    refine Dp rfl rfl rfl rfl (V_move rfl rfl) ?_
    obtain ⟨p131_37, hc, h⟩ := h
    refine Dp rfl rfl rfl rfl (V_nil rfl (by rw [← hc]; rfl)) ?_
    refine Dp rfl rfl rfl rfl (V_fld rfl Tryz.underlying173 rfl ty69 (by decide) rfl) ?_
    refine Dp rfl rfl rfl rfl (V_fld rfl Tryz.underlying69 rfl ty3 (by decide) rfl) ?_
    obtain ⟨x129_38, hc, h⟩ := h
    refine Dr rfl rfl rfl rfl (R_ld rfl Tryz.underlying3 rfl rfl hc) ?_
    obtain ⟨x134_39, hc, h⟩ := h
    refine Dr rfl rfl rfl rfl (R_ld rfl Tryz.underlying3 rfl rfl hc) ?_
    refine Dp rfl rfl rfl rfl (V_gtr rfl rfl rfl) ?_
    refine Dp rfl rfl rfl rfl (V_move rfl rfl) ?_
    refine splitP (decide (x134_39 < x129_38)) decide_eq_true_iff h ?_ ?_
    · intro h e8
      refine Dpn rfl rfl rfl rfl rfl (.inl (by rw [e8]; rfl)) rfl ?_
      refine Dpn rfl rfl rfl rfl rfl (.inl (by rw [e8]; rfl)) rfl ?_
      refine Dpn rfl rfl rfl rfl rfl (.inl (by rw [e8]; rfl)) rfl ?_
      refine Dpn rfl rfl rfl rfl rfl (.inl (by rw [e8]; rfl)) rfl ?_
      refine Dpn rfl rfl rfl rfl rfl (.inl (by rw [e8]; rfl)) rfl ?_
      refine Drn rfl rfl rfl rfl rfl (.inl (by rw [e8]; rfl)) rfl ?_
      refine Drn rfl rfl rfl rfl rfl (.inl (by rw [e8]; rfl)) rfl ?_
      refine Dpn rfl rfl rfl rfl rfl (.inl (by rw [e8]; rfl)) rfl ?_
      refine Dp rfl rfl rfl rfl (V_pickT rfl (evb e8) rfl) ?_
      refine Dend ?_
      refine thenN ?_
      exact ⟨_, (FrLe.cons rfl (FrLe.cons rfl (FrLe.cons rfl (FrLe.cons rfl (FrLe.cons rfl (FrLe.nil _)))))), h⟩
    intro h e8
    refine Dpy rfl rfl rfl rfl rfl e8 rfl (V_fld rfl Tryz.underlying69 rfl ty3 (by decide) rfl) ?_
    refine Dpy rfl rfl rfl rfl rfl e8 rfl (V_move rfl rfl) ?_
    obtain ⟨p140_40, hc, h⟩ := h
    refine Dpy rfl rfl rfl rfl rfl e8 rfl (V_nil rfl (by rw [← hc]; rfl)) ?_
    refine Dpy rfl rfl rfl rfl rfl e8 rfl (V_fld rfl Tryz.underlying173 rfl ty69 (by decide) rfl) ?_
    refine Dpy rfl rfl rfl rfl rfl e8 rfl (V_fld rfl Tryz.underlying69 rfl ty3 (by decide) rfl) ?_
    obtain ⟨x138_41, hc, h⟩ := h
    refine Dry rfl rfl rfl rfl rfl e8 rfl (R_ld rfl Tryz.underlying3 rfl rfl hc) ?_
    obtain ⟨x143_42, hc, h⟩ := h
    refine Dry rfl rfl rfl rfl rfl e8 rfl (R_ld rfl Tryz.underlying3 rfl rfl hc) ?_
    refine Dpy rfl rfl rfl rfl rfl e8 rfl (V_gtr rfl rfl rfl) ?_
    refine Dp rfl rfl rfl rfl (V_pickF rfl (evb e8) rfl) ?_
    refine Dend ?_
    refine thenN ?_
    exact ⟨_, (FrLe.cons rfl (FrLe.cons rfl (FrLe.cons rfl (FrLe.cons rfl (FrLe.cons rfl (FrLe.nil _)))))), h⟩
  refine AW.seq ?_
  refine AW.reg ?_
  refine Lp (V_fld rfl Tryz.underlying82 rfl ty3 (by decide) rfl) rfl rfl ?_
  obtain ⟨x24_44, hc, h⟩ := h
  refine Ls rfl rfl (X_ld rfl Tryz.underlying3 rfl rfl hc ?_)
  refine Lnil ?_
  refine thenN ?_
  refine AW.block ?_
  refine AW.seq ?_
  refine AW.reg ?_
  refine Lp (V_eql rfl rfl rfl) rfl rfl ?_
  refine Lp (V_asg rfl rfl) rfl rfl ?_
  refine Lnil ?_
  refine thenN ?_
  refine AW.iff rfl decide_eq_true_iff h (fun h => ?_) (fun h => ?_)
  · refine AW.seq ?_
    refine AW.reg ?_
    refine Lp (V_asg rfl rfl) rfl rfl ?_
    refine Lnil ?_
    refine thenN ?_
    refine AW.seqJ (fun fr σ => ∃ (x9_46 : Int), FrLe [(0, .pointer a0), (3, .pointer (some ⟨x3_1, 0, none⟩)), (6, .pointer (some ⟨x6_4, 0, none⟩)), (8, .pointer (some ⟨x8_7, 0, none⟩)), (9, .int .i64 x9_46)] fr ∧ j45_multi_work_do B ro a0 x3_1 x6_4 x8_7 Q x9_46 σ) ?_ ?_
    rotate_left
    · refine AW.seq ?_
      refine AW.reg ?_
      refine Lp (V_fld rfl Tryz.underlying82 rfl ty4 (by decide) rfl) rfl rfl ?_
      obtain ⟨x28_55, hc, h⟩ := h
      refine Ls rfl rfl (X_ld rfl Tryz.underlying4 rfl rfl hc ?_)
      refine Lnil ?_
      refine thenN ?_
      refine AW.iff rfl Iff.rfl h (fun h => ?_) (fun h => ?_)
      rotate_left
      · refine AW.skip ?_
        refine thenN ?_
        exact ⟨_, (FrLe.cons rfl (FrLe.cons rfl (FrLe.cons rfl (FrLe.cons rfl (FrLe.cons rfl (FrLe.nil _)))))), h⟩
      refine AW.reg ?_
      refine Lp (V_move rfl rfl) rfl rfl ?_
      obtain ⟨p30_56, hc, h⟩ := h
      refine Lp (V_nil rfl (by rw [← hc]; rfl)) rfl rfl ?_
      refine Lp (V_fld rfl Tryz.underlying173 rfl ty3 (by decide) rfl) rfl rfl ?_
      obtain ⟨x32_57, hc, h⟩ := h
      refine Ls rfl rfl (X_ld rfl Tryz.underlying3 rfl rfl hc ?_)
      refine Lp (V_asg rfl rfl) rfl rfl ?_
      refine Lnil ?_
      refine thenN ?_
      exact ⟨_, (FrLe.cons rfl (FrLe.cons rfl (FrLe.cons rfl (FrLe.cons rfl (FrLe.cons rfl (FrLe.nil _)))))), h⟩
    rintro fr σ ⟨x9_46, hl, h⟩
    refine AW.weaken ?_ hl (HLe.refl _)
    unfold j45_multi_work_do at h
    refine AW.seq ?_
    refine AW.drawn0 (fun i => ([0, 0, 0, 3, 0, 3, 0, 3, 0, 0, 3, 2, 0, 0, 0, 0, 2, 0] : List Nat).getD i 2) [] [0, 1, 2, 4, 6, 8, 9, 3, 5, 7, 10, 11, 12, 13, 14, 15, 16, 17] Tryz.mixed (by decide +kernel) ?_
    refine Dp rfl rfl rfl rfl (V_move rfl rfl) ?_
    obtain ⟨p35_47, hc, h⟩ := h
    refine Dp rfl rfl rfl rfl (V_nil rfl (by rw [← hc]; rfl)) ?_
    refine Dp rfl rfl rfl rfl (V_fld rfl Tryz.underlying173 rfl ty23 (by decide) rfl) ?_
    refine Dp rfl rfl rfl rfl (V_fld rfl Tryz.underlying82 rfl ty9 (by decide) rfl) ?_
    refine Dp rfl rfl rfl rfl (V_fld rfl Tryz.underlying82 rfl ty30 (by decide) rfl) ?_
    refine Dp rfl rfl rfl rfl (V_move rfl rfl) ?_
    refine Dp rfl rfl rfl rfl (V_fld rfl Tryz.underlying82 rfl ty4 (by decide) rfl) ?_
    obtain ⟨x37_48, hc, h⟩ := h
    refine Dr rfl rfl rfl rfl (R_ld rfl Tryz.underlying23 rfl rfl hc) ?_
    obtain ⟨x39_49, hc, h⟩ := h
    refine Dr rfl rfl rfl rfl (R_ld rfl Tryz.underlying9 rfl rfl hc) ?_
    obtain ⟨x41_50, hc, h⟩ := h
    refine Dr rfl rfl rfl rfl (R_ld rfl Tryz.underlying30 rfl rfl hc) ?_
    obtain ⟨x44_51, hc, h⟩ := h
    refine Dr rfl rfl rfl rfl (R_ld rfl Tryz.underlying4 rfl rfl hc) ?_
    refine Dg rfl rfl rfl rfl (X_call rfl Tryz.func22 rfl rfl rfl (ACalls.mono h ?_))
    rintro v σ ⟨x45_52, x45_53, rfl, h⟩
    refine Dp rfl rfl rfl rfl (V_move rfl rfl) ?_
    refine Dp rfl rfl rfl rfl (V_ext rfl rfl rfl) ?_
    refine Dp rfl rfl rfl rfl (V_ext rfl rfl rfl) ?_
    refine Dp rfl rfl rfl rfl (V_fld rfl Tryz.underlying84 rfl ty9 (by decide) rfl) ?_
    refine Dg rfl rfl rfl rfl (X_st rfl ty9 rfl rfl rfl rfl (stN_mono h fun σ h => ?_))
    refine Dp rfl rfl rfl rfl (V_asg rfl rfl) ?_
    refine Dend ?_
    refine thenN ?_
    refine AW.reg ?_
    refine Lp (V_fld rfl Tryz.underlying84 rfl ty9 (by decide) rfl) rfl rfl ?_
    obtain ⟨x50_54, hc, h⟩ := h
    refine Ls rfl rfl (X_ld rfl Tryz.underlying9 rfl rfl hc ?_)
    refine Lp (V_fld rfl Tryz.underlying108 rfl ty9 (by decide) rfl) rfl rfl ?_
    refine Ls rfl rfl (X_st rfl ty9 rfl rfl rfl rfl (stN_mono h fun σ h => ?_))
    refine Lnil ?_
    refine blockN ?_
    refine thenN ?_
    exact ⟨_, (FrLe.cons rfl (FrLe.cons rfl (FrLe.cons rfl (FrLe.cons rfl (FrLe.cons rfl (FrLe.nil _)))))), h⟩
  refine AW.seq ?_
  refine AW.reg ?_
  refine Lp (V_eql rfl rfl rfl) rfl rfl ?_
  refine Lp (V_asg rfl rfl) rfl rfl ?_
  refine Lnil ?_
  refine thenN ?_
  refine AW.iff rfl decide_eq_true_iff h (fun h => ?_) (fun h => ?_)
  · refine AW.drawn0 (fun i => ([0, 0, 0, 3, 0, 3, 0, 3, 2, 0] : List Nat).getD i 2) [] [0, 1, 2, 4, 6, 3, 5, 7, 8, 9] Tryz.mixed (by decide +kernel) ?_
    refine Dp rfl rfl rfl rfl (V_move rfl rfl) ?_
    obtain ⟨p55_58, hc, h⟩ := h
    refine Dp rfl rfl rfl rfl (V_nil rfl (by rw [← hc]; rfl)) ?_
    refine Dp rfl rfl rfl rfl (V_fld rfl Tryz.underlying173 rfl ty23 (by decide) rfl) ?_
    refine Dp rfl rfl rfl rfl (V_fld rfl Tryz.underlying82 rfl ty9 (by decide) rfl) ?_
    refine Dp rfl rfl rfl rfl (V_fld rfl Tryz.underlying82 rfl ty3 (by decide) rfl) ?_
    obtain ⟨x57_59, hc, h⟩ := h
    refine Dr rfl rfl rfl rfl (R_ld rfl Tryz.underlying23 rfl rfl hc) ?_
    obtain ⟨x59_60, hc, h⟩ := h
    refine Dr rfl rfl rfl rfl (R_ld rfl Tryz.underlying9 rfl rfl hc) ?_
    obtain ⟨x61_61, hc, h⟩ := h
    refine Dr rfl rfl rfl rfl (R_ld rfl Tryz.underlying3 rfl rfl hc) ?_
    refine Dg rfl rfl rfl rfl (X_call rfl Tryz.func24 rfl rfl rfl (ACalls.mono h ?_))
    rintro v σ ⟨x62_62, rfl, h⟩
    refine Dp rfl rfl rfl rfl (V_asg rfl rfl) ?_
    refine Dend ?_
    refine blockN ?_
    refine thenN ?_
    exact ⟨_, (FrLe.cons rfl (FrLe.cons rfl (FrLe.cons rfl (FrLe.cons rfl (FrLe.cons rfl (FrLe.nil _)))))), h⟩
  refine AW.seq ?_
  refine AW.reg ?_
  refine Lp (V_eql rfl rfl rfl) rfl rfl ?_
  refine Lp (V_asg rfl rfl) rfl rfl ?_
  refine Lnil ?_
  refine thenN ?_
  refine AW.iff rfl decide_eq_true_iff h (fun h => ?_) (fun h => ?_)
  · refine AW.drawn0 (fun i => ([0, 0, 0, 3, 0, 3, 0, 3, 0, 3, 2, 0, 0, 0, 0, 2, 0] : List Nat).getD i 2) [] [0, 1, 2, 4, 6, 8, 3, 5, 7, 9, 10, 11, 12, 13, 14, 15, 16] Tryz.mixed (by decide +kernel) ?_
    refine Dp rfl rfl rfl rfl (V_move rfl rfl) ?_
    obtain ⟨p67_63, hc, h⟩ := h
    refine Dp rfl rfl rfl rfl (V_nil rfl (by rw [← hc]; rfl)) ?_
    refine Dp rfl rfl rfl rfl (V_fld rfl Tryz.underlying173 rfl ty23 (by decide) rfl) ?_
    refine Dp rfl rfl rfl rfl (V_fld rfl Tryz.underlying82 rfl ty9 (by decide) rfl) ?_
    refine Dp rfl rfl rfl rfl (V_fld rfl Tryz.underlying82 rfl ty30 (by decide) rfl) ?_
    refine Dp rfl rfl rfl rfl (V_fld rfl Tryz.underlying82 rfl ty3 (by decide) rfl) ?_
    obtain ⟨x69_64, hc, h⟩ := h
    refine Dr rfl rfl rfl rfl (R_ld rfl Tryz.underlying23 rfl rfl hc) ?_
    obtain ⟨x71_65, hc, h⟩ := h
    refine Dr rfl rfl rfl rfl (R_ld rfl Tryz.underlying9 rfl rfl hc) ?_
    obtain ⟨x73_66, hc, h⟩ := h
    refine Dr rfl rfl rfl rfl (R_ld rfl Tryz.underlying30 rfl rfl hc) ?_
    obtain ⟨x75_67, hc, h⟩ := h
    refine Dr rfl rfl rfl rfl (R_ld rfl Tryz.underlying3 rfl rfl hc) ?_
    refine Dg rfl rfl rfl rfl (X_call rfl Tryz.func25 rfl rfl rfl (ACalls.mono h ?_))
    rintro v σ ⟨x76_68, x76_69, rfl, h⟩
    refine Dp rfl rfl rfl rfl (V_move rfl rfl) ?_
    refine Dp rfl rfl rfl rfl (V_ext rfl rfl rfl) ?_
    refine Dp rfl rfl rfl rfl (V_ext rfl rfl rfl) ?_
    refine Dp rfl rfl rfl rfl (V_fld rfl Tryz.underlying84 rfl ty3 (by decide) rfl) ?_
    refine Dg rfl rfl rfl rfl (X_st rfl ty3 rfl rfl rfl rfl (stN_mono h fun σ h => ?_))
    refine Dp rfl rfl rfl rfl (V_asg rfl rfl) ?_
    refine Dend ?_
    refine blockN ?_
    refine thenN ?_
    exact ⟨_, (FrLe.cons rfl (FrLe.cons rfl (FrLe.cons rfl (FrLe.cons rfl (FrLe.cons rfl (FrLe.nil _)))))), h⟩
  refine AW.seq ?_
  refine AW.reg ?_
  refine Lp (V_eql rfl rfl rfl) rfl rfl ?_
  refine Lp (V_asg rfl rfl) rfl rfl ?_
  refine Lnil ?_
  refine thenN ?_
  refine AW.iff rfl decide_eq_true_iff h (fun h => ?_) (fun h => ?_)
  rotate_left
  · refine AW.skip ?_
    refine blockN ?_
    refine thenN ?_
    exact ⟨_, (FrLe.cons rfl (FrLe.cons rfl (FrLe.cons rfl (FrLe.cons rfl (FrLe.cons rfl (FrLe.nil _)))))), h⟩
  refine AW.seq ?_
  refine AW.reg ?_
  refine Ls rfl rfl (X_new (A_alloc rfl ty32) fun x10_70 g1 g2 => ?_)
  replace h := h x10_70 g1 g2
  refine Lnil ?_
  refine thenN ?_
  refine AW.seq ?_
  refine AW.drawn0 (fun i => ([0, 0, 0, 3, 0, 3, 2, 0, 0, 0, 0, 2, 0] : List Nat).getD i 2) [] [0, 1, 2, 4, 3, 5, 6, 7, 8, 9, 10, 11, 12] Tryz.mixed (by decide +kernel) ?_
  refine Dp rfl rfl rfl rfl (V_move rfl rfl) ?_
  obtain ⟨p84_71, hc, h⟩ := h
  refine Dp rfl rfl rfl rfl (V_nil rfl (by rw [← hc]; rfl)) ?_
  refine Dp rfl rfl rfl rfl (V_fld rfl Tryz.underlying173 rfl ty23 (by decide) rfl) ?_
  refine Dp rfl rfl rfl rfl (V_fld rfl Tryz.underlying82 rfl ty9 (by decide) rfl) ?_
  obtain ⟨x86_72, hc, h⟩ := h
  refine Dr rfl rfl rfl rfl (R_ld rfl Tryz.underlying23 rfl rfl hc) ?_
  obtain ⟨x88_73, hc, h⟩ := h
  refine Dr rfl rfl rfl rfl (R_ld rfl Tryz.underlying9 rfl rfl hc) ?_
  refine Dg rfl rfl rfl rfl (X_call rfl Tryz.func17 rfl rfl rfl (ACalls.mono h ?_))
  rintro v σ ⟨x89_74, x89_75a, x89_75b, x89_75c, x89_75d, x89_76, rfl, h⟩
  refine Dp rfl rfl rfl rfl (V_move rfl rfl) ?_
  refine Dp rfl rfl rfl rfl (V_ext rfl rfl rfl) ?_
  refine Dp rfl rfl rfl rfl (V_ext rfl rfl rfl) ?_
  refine Dp rfl rfl rfl rfl (V_ext rfl rfl rfl) ?_
  refine Dg rfl rfl rfl rfl (X_st rfl ty32 rfl rfl rfl rfl (stN_mono h fun σ h => ?_))
  refine Dp rfl rfl rfl rfl (V_asg rfl rfl) ?_
  refine Dend ?_
  refine thenN ?_
  refine AW.seq ?_
  refine AW.reg ?_
  refine Lp (V_move rfl rfl) rfl rfl ?_
  refine Lp (V_eql rfl rfl rfl) rfl rfl ?_
  refine Lp (V_move rfl rfl) rfl rfl ?_
  refine LsplitJ 4 (decide (x89_76 = 0)) decide_eq_true_iff h (fun fr σ => ∃ (x99_78 : Bool), FrLe [(0, .pointer a0), (3, .pointer (some ⟨x3_1, 0, none⟩)), (6, .pointer (some ⟨x6_4, 0, none⟩)), (7, .int .i64 x89_76), (8, .pointer (some ⟨x8_7, 0, none⟩)), (10, .pointer (some ⟨x10_70, 0, none⟩)), (99, .bool x99_78)] fr ∧ j77_multi_work_do B ro a0 x3_1 x6_4 x8_7 x10_70 x89_76 Q x99_78 σ) ?_ ?_ ?_
  · intro h e2 hk2
    refine Lypb (V_fld rfl Tryz.underlying82 rfl ty3 (by decide) rfl) rfl rfl rfl rfl e2 ?_
    obtain ⟨x97_83, hc, h⟩ := h
    refine Lyb rfl rfl rfl rfl e2 (X_ld rfl Tryz.underlying3 rfl rfl hc ?_)
    refine Lypb (V_neq rfl rfl rfl) rfl rfl rfl rfl e2 ?_
    refine Lp (V_pickT rfl (evb e2) rfl) rfl rfl ?_
    exact hk2 _ _ ⟨_, (FrLe.cons rfl (FrLe.cons rfl (FrLe.cons rfl (FrLe.cons rfl (FrLe.cons rfl (FrLe.cons rfl (FrLe.cons rfl (FrLe.nil _)))))))), h⟩
  · intro h e2 hk2
    refine Ln rfl rfl rfl rfl (.inl (by rw [e2]; rfl)) ?_
    refine Ln rfl rfl rfl rfl (.inl (by rw [e2]; rfl)) ?_
    refine Ln rfl rfl rfl rfl (.inl (by rw [e2]; rfl)) ?_
    refine Lp (V_pickF rfl (evb e2) rfl) rfl rfl ?_
    exact hk2 _ _ ⟨_, (FrLe.cons rfl (FrLe.cons rfl (FrLe.cons rfl (FrLe.cons rfl (FrLe.cons rfl (FrLe.cons rfl (FrLe.cons rfl (FrLe.nil _)))))))), h⟩
  rintro fr σ ⟨x99_78, hl, h⟩
  unfold j77_multi_work_do at h
  refine Lfr hl ?_
  refine Lp (V_move rfl rfl) rfl rfl ?_
  refine LsplitJ 6 x99_78 Iff.rfl h (fun fr σ => ∃ (x106_80 : Bool), FrLe [(0, .pointer a0), (3, .pointer (some ⟨x3_1, 0, none⟩)), (6, .pointer (some ⟨x6_4, 0, none⟩)), (7, .int .i64 x89_76), (8, .pointer (some ⟨x8_7, 0, none⟩)), (106, .bool x106_80)] fr ∧ j79_multi_work_do B ro a0 x3_1 x6_4 x8_7 x89_76 Q x106_80 σ) ?_ ?_ ?_
  · intro h e7 hk7
    refine Lypb (V_fld rfl Tryz.underlying82 rfl ty3 (by decide) rfl) rfl rfl rfl rfl e7 ?_
    obtain ⟨x102_81, hc, h⟩ := h
    refine Lyb rfl rfl rfl rfl e7 (X_ld rfl Tryz.underlying3 rfl rfl hc ?_)
    refine Lypb (V_fld rfl Tryz.underlying32 rfl ty3 (by decide) rfl) rfl rfl rfl rfl e7 ?_
    obtain ⟨x104_82, hc, h⟩ := h
    refine Lyb rfl rfl rfl rfl e7 (X_ld rfl Tryz.underlying3 rfl rfl hc ?_)
    refine Lypb (V_neq rfl rfl rfl) rfl rfl rfl rfl e7 ?_
    refine Lp (V_pickT rfl (evb e7) rfl) rfl rfl ?_
    exact hk7 _ _ ⟨_, (FrLe.cons rfl (FrLe.cons rfl (FrLe.cons rfl (FrLe.cons rfl (FrLe.cons rfl (FrLe.cons rfl (FrLe.nil _))))))), h⟩
  · intro h e7 hk7
    refine Ln rfl rfl rfl rfl (.inl (by rw [e7]; rfl)) ?_
    refine Ln rfl rfl rfl rfl (.inl (by rw [e7]; rfl)) ?_
    refine Ln rfl rfl rfl rfl (.inl (by rw [e7]; rfl)) ?_
    refine Ln rfl rfl rfl rfl (.inl (by rw [e7]; rfl)) ?_
    refine Ln rfl rfl rfl rfl (.inl (by rw [e7]; rfl)) ?_
    refine Lp (V_pickF rfl (evb e7) rfl) rfl rfl ?_
    exact hk7 _ _ ⟨_, (FrLe.cons rfl (FrLe.cons rfl (FrLe.cons rfl (FrLe.cons rfl (FrLe.cons rfl (FrLe.cons rfl (FrLe.nil _))))))), h⟩
  rintro fr σ ⟨x106_80, hl, h⟩
  unfold j79_multi_work_do at h
  refine Lfr hl ?_
  refine Lnil ?_
  refine thenN ?_
  refine AW.iff rfl Iff.rfl h (fun h => ?_) (fun h => ?_)
  rotate_left
  · refine AW.skip ?_
    refine blockN ?_
    refine thenN ?_
    exact ⟨_, (FrLe.cons rfl (FrLe.cons rfl (FrLe.cons rfl (FrLe.cons rfl (FrLe.cons rfl (FrLe.nil _)))))), h⟩
  refine AW.reg ?_
  refine Lp (V_asg rfl rfl) rfl rfl ?_
  refine Lnil ?_
  refine blockN ?_
  refine thenN ?_
  exact ⟨_, (FrLe.cons rfl (FrLe.cons rfl (FrLe.cons rfl (FrLe.cons rfl (FrLe.cons rfl (FrLe.nil _)))))), h⟩

def j8_multi_work_within (B : World) (ro : AH) (Q : Int → AH → Prop) (x26_9 : Bool) (σ : AH) : Prop :=
 if x26_9 = true then
  Q 82 σ
 else
 Q 0 σ

def j6_multi_work_within (B : World) (ro : AH) (a0 : Option Addr) (x3_1 : Nat) (x10_3 : Sl) (x10_4 : Int) (Q : Int → AH → Prop) (x21_7 : Bool) (σ : AH) : Prop :=
 if x21_7 = true then
  Q 80 σ
 else
 if ¬ (x10_4 = 0) then
  Q x10_4 σ
 else
 if (x10_3.len : Int) = 0 then
  if True then
   j8_multi_work_within B ro Q true σ
  else
  if (x10_3.len : Int) = 1 then
   ∃ (x46_10 : Int), acell ro σ ⟨x3_1, 0, none⟩ = some (.int .i64 x46_10) ∧
   j8_multi_work_within B ro Q (decide (x46_10 ≤ 2)) σ
  else
  j8_multi_work_within B ro Q false σ
 else
 ∃ p32_11 : Addr, x10_3.a = some p32_11 ∧ (0 : Int) ≤ 0 ∧ 0 < (x10_3.len : Int) ∧
 ∃ p35_12 : Addr, a0 = some p35_12 ∧
 ∃ (x33_13 : ByteArray), acell ro σ (p32_11.add (Int.toNat 0 * 1)) = some (.string x33_13) ∧
 ∃ (x37_14 : ByteArray), acell ro σ (p35_12.add 4) = some (.string x37_14) ∧
 if ¬ (x33_13 = x37_14) then
  j8_multi_work_within B ro Q true σ
 else
 if (x10_3.len : Int) = 1 then
  ∃ (x46_15 : Int), acell ro σ ⟨x3_1, 0, none⟩ = some (.int .i64 x46_15) ∧
  j8_multi_work_within B ro Q (decide (x46_15 ≤ 2)) σ
 else
 j8_multi_work_within B ro Q false σ

def f_multi_work_within (B : World) (ro : AH) (a0 : Option Addr) (a1_0 : Int) (a1_1 : ByteArray) (a1_2 : Sl) (a1_3 : Int) (a1_4 : Bool) (a1_5 : Bool) (σ : AH) (Q : Int → AH → Prop) : Prop :=
 nw ro σ (.cells #[.int .i64 a1_0, .string a1_1, Sl.v a1_2, .int .i64 a1_3, .bool a1_4, .bool a1_5] 82) fun x3_1 σ =>
 ∃ (x9_2 : ByteArray), acell ro σ ((⟨x3_1, 0, none⟩ : Addr).add 1) = some (.string x9_2) ∧
 c_path_Parts B ro x9_2 σ fun x10_3 x10_4 σ =>
 ∃ (x15_5 : Int), acell ro σ ⟨x3_1, 0, none⟩ = some (.int .i64 x15_5) ∧
 if x15_5 < 1 then
  j6_multi_work_within B ro a0 x3_1 x10_3 x10_4 Q true σ
 else
 ∃ (x19_16 : Int), acell ro σ ⟨x3_1, 0, none⟩ = some (.int .i64 x19_16) ∧
 j6_multi_work_within B ro a0 x3_1 x10_3 x10_4 Q (decide (4 < x19_16)) σ

set_option maxRecDepth 100000 in
set_option maxHeartbeats 4000000 in
theorem multi_work_within_ok {B : World} {ro : AH} {a0 : Option Addr} {a1_0 : Int} {a1_1 : ByteArray} {a1_2 : Sl} {a1_3 : Int} {a1_4 : Bool} {a1_5 : Bool} {σ : AH} {Q : Int → AH → Prop} (h : Sep ro σ → f_multi_work_within B ro a0 a1_0 a1_1 a1_2 a1_3 a1_4 a1_5 σ Q) : c_multi_work_within B ro a0 a1_0 a1_1 a1_2 a1_3 a1_4 a1_5 σ Q := by
  refine ACalls.of_sep fun hsep => ?_
  replace h := h hsep
  refine ACalls.of_body (args := [.pointer a0, .agg #[.int .i64 a1_0, .string a1_1, Sl.v a1_2, .int .i64 a1_3, .bool a1_4, .bool a1_5]]) Tryz.func125 rfl (by rw [Tryz.ntmps125]; simp) ?_
  rw [Tryz.ntmps125]
  unfold f_multi_work_within at h
  refine AW.seq ?_
  refine AW.reg ?_
  refine Ls rfl rfl (X_new (A_box rfl rfl) fun x3_1 g1 g2 => ?_)
  replace h := h x3_1 g1 g2
  refine Lp (V_asg rfl rfl) rfl rfl ?_
  refine Lnil ?_
  refine thenN ?_
  refine AW.seq ?_
  refine AW.reg ?_
  refine Lp (V_fld rfl Tryz.underlying82 rfl ty9 (by decide) rfl) rfl rfl ?_
  obtain ⟨x9_2, hc, h⟩ := h
  refine Ls rfl rfl (X_ld rfl Tryz.underlying9 rfl rfl hc ?_)
  refine Ls rfl rfl (X_call rfl Tryz.func106 rfl rfl rfl (ACalls.mono h ?_))
  rintro v σ ⟨x10_3, x10_4, rfl, h⟩
  refine Lp (V_move rfl rfl) rfl rfl ?_
  refine Lp (V_ext rfl rfl rfl) rfl rfl ?_
  refine Lp (V_ext rfl rfl rfl) rfl rfl ?_
  refine Lp (V_asg rfl rfl) rfl rfl ?_
  refine Lp (V_asg rfl rfl) rfl rfl ?_
  refine Lnil ?_
  refine thenN ?_
  refine AW.seq ?_
  refine AW.block ?_
  refine AW.seq ?_
  refine AW.reg ?_
  refine Lp (V_fld rfl Tryz.underlying82 rfl ty3 (by decide) rfl) rfl rfl ?_
  obtain ⟨x15_5, hc, h⟩ := h
  refine Ls rfl rfl (X_ld rfl Tryz.underlying3 rfl rfl hc ?_)
  refine Lp (V_lss rfl rfl rfl) rfl rfl ?_
  refine Lp (V_move rfl rfl) rfl rfl ?_
  refine LsplitJ 4 (decide (x15_5 < 1)) decide_eq_true_iff h (fun fr σ => ∃ (x21_7 : Bool), FrLe [(0, .pointer a0), (3, .pointer (some ⟨x3_1, 0, none⟩)), (5, Sl.v x10_3), (6, .int .i64 x10_4), (21, .bool x21_7)] fr ∧ j6_multi_work_within B ro a0 x3_1 x10_3 x10_4 Q x21_7 σ) ?_ ?_ ?_
  · intro h e3 hk3
    refine Ln rfl rfl rfl rfl (.inl (by rw [e3]; rfl)) ?_
    refine Ln rfl rfl rfl rfl (.inl (by rw [e3]; rfl)) ?_
    refine Ln rfl rfl rfl rfl (.inl (by rw [e3]; rfl)) ?_
    refine Lp (V_pickT rfl (evb e3) rfl) rfl rfl ?_
    exact hk3 _ _ ⟨_, (FrLe.cons rfl (FrLe.cons rfl (FrLe.cons rfl (FrLe.cons rfl (FrLe.cons rfl (FrLe.nil _)))))), h⟩
  · intro h e3 hk3
    refine Lypb (V_fld rfl Tryz.underlying82 rfl ty3 (by decide) rfl) rfl rfl rfl rfl e3 ?_
    obtain ⟨x19_16, hc, h⟩ := h
    refine Lyb rfl rfl rfl rfl e3 (X_ld rfl Tryz.underlying3 rfl rfl hc ?_)
    refine Lypb (V_gtr rfl rfl rfl) rfl rfl rfl rfl e3 ?_
    refine Lp (V_pickF rfl (evb e3) rfl) rfl rfl ?_
    exact hk3 _ _ ⟨_, (FrLe.cons rfl (FrLe.cons rfl (FrLe.cons rfl (FrLe.cons rfl (FrLe.cons rfl (FrLe.nil _)))))), h⟩
  rintro fr σ ⟨x21_7, hl, h⟩
  unfold j6_multi_work_within at h
  refine Lfr hl ?_
  refine Lp (V_asg rfl rfl) rfl rfl ?_
  refine Lnil ?_
  refine thenN ?_
  refine AW.iff rfl Iff.rfl h (fun h => ?_) (fun h => ?_)
  · refine AW.seq ?_
    refine AW.reg ?_
    refine Lp (V_asg rfl rfl) rfl rfl ?_
    refine Lnil ?_
    refine thenN ?_
    refine AW.ret ?_
    refine blockR ?_
    refine thenR ?_
    exact bR1 Tryz.results125 rfl ⟨_, rfl, h⟩
  refine AW.seq ?_
  refine AW.reg ?_
  refine Lp (V_move rfl rfl) rfl rfl ?_
  refine Lp (V_neq rfl rfl rfl) rfl rfl ?_
  refine Lp (V_asg rfl rfl) rfl rfl ?_
  refine Lnil ?_
  refine thenN ?_
  refine AW.iff rfl (bnot_iff decide_eq_true_iff) h (fun h => ?_) (fun h => ?_)
  · refine AW.seq ?_
    refine AW.reg ?_
    refine Lp (V_move rfl rfl) rfl rfl ?_
    refine Lp (V_asg rfl rfl) rfl rfl ?_
    refine Lnil ?_
    refine thenN ?_
    refine AW.ret ?_
    refine blockR ?_
    refine thenR ?_
    exact bR1 Tryz.results125 rfl ⟨_, rfl, h⟩
  refine AW.seqJ (fun fr σ => ∃ (x26_9 : Bool), FrLe [(26, .bool x26_9)] fr ∧ j8_multi_work_within B ro Q x26_9 σ) ?_ ?_
  · rintro fr σ ⟨x26_9, hl, h⟩
    refine AW.weaken ?_ hl (HLe.refl _)
    unfold j8_multi_work_within at h
    refine AW.iff rfl Iff.rfl h (fun h => ?_) (fun h => ?_)
    · refine AW.seq ?_
      refine AW.reg ?_
      refine Lp (V_asg rfl rfl) rfl rfl ?_
      refine Lnil ?_
      refine thenN ?_
      refine AW.ret ?_
      refine blockR ?_
      refine thenR ?_
      exact bR1 Tryz.results125 rfl ⟨_, rfl, h⟩
    refine AW.skip ?_
    refine blockN ?_
    refine thenN ?_
    refine AW.seq ?_
    refine AW.reg ?_
    refine Lp (V_asg rfl rfl) rfl rfl ?_
    refine Lnil ?_
    refine thenN ?_
    refine AW.ret ?_
    exact bR1 Tryz.results125 rfl ⟨_, rfl, h⟩
  refine AW.drawn0 (fun i => ([0, 0, 0, 0, 0, 0, 3, 0, 0, 0, 3, 0, 0, 0, 0, 0, 0, 0, 0, 3, 0, 0, 0, 0] : List Nat).getD i 2) [] [0, 1, 2, 3, 4, 5, 7, 8, 9, 6, 10, 11, 12, 13, 14, 15, 16, 17, 18, 19, 20, 21, 22, 23] Tryz.mixed (by decide +kernel) ?_
  refine Dp rfl rfl rfl rfl (V_move rfl rfl) ?_
  refine Dp rfl rfl rfl rfl (V_lenL rfl rfl Tryz.underlying25 rfl rfl) ?_
  refine Dp rfl rfl rfl rfl (V_eql rfl rfl rfl) ?_
  refine Dp rfl rfl rfl rfl (V_move rfl rfl) ?_
  refine splitP (decide ((x10_3.len : Int) = 0)) decide_eq_true_iff h ?_ ?_
  · intro h e3
    refine Dpn rfl rfl rfl rfl rfl (.inl (by rw [e3]; rfl)) rfl ?_
    refine Dpn rfl rfl rfl rfl rfl (.inl (by rw [e3]; rfl)) rfl ?_
    refine Dpn rfl rfl rfl rfl rfl (.inl (by rw [e3]; rfl)) rfl ?_
    refine Dpn rfl rfl rfl rfl rfl (.inl (by rw [e3]; rfl)) rfl ?_
    refine Dpn rfl rfl rfl rfl rfl (.inl (by rw [e3]; rfl)) rfl ?_
    refine Drn rfl rfl rfl rfl rfl (.inl (by rw [e3]; rfl)) rfl ?_
    refine Drn rfl rfl rfl rfl rfl (.inl (by rw [e3]; rfl)) rfl ?_
    refine Dpn rfl rfl rfl rfl rfl (.inl (by rw [e3]; rfl)) rfl ?_
    refine Dp rfl rfl rfl rfl (V_pickT rfl (evb e3) rfl) ?_
    refine Dp rfl rfl rfl rfl (V_move rfl rfl) ?_
    refine splitP true (by simp) h ?_ ?_
    · intro h e13
      refine Dpn rfl rfl rfl rfl rfl (.inl (by rw [e13]; rfl)) rfl ?_
      refine Dpn rfl rfl rfl rfl rfl (.inl (by rw [e13]; rfl)) rfl ?_
      refine Dpn rfl rfl rfl rfl rfl (.inl (by rw [e13]; rfl)) rfl ?_
      refine Dpn rfl rfl rfl rfl rfl (.inl (by rw [e13]; rfl)) rfl ?_
      refine Dpn rfl rfl rfl rfl rfl (.inr rfl) rfl ?_
      refine Drn rfl rfl rfl rfl rfl (.inr rfl) rfl ?_
      refine Dpn rfl rfl rfl rfl rfl (.inr rfl) rfl ?_
      refine Dpn rfl rfl rfl rfl rfl (.inl (by rw [e13]; rfl)) rfl ?_
      refine Dp rfl rfl rfl rfl (V_pickT rfl (evb e13) rfl) ?_
      refine Dp rfl rfl rfl rfl (V_asg rfl rfl) ?_
      refine Dend ?_
      refine thenN ?_
      exact ⟨_, (FrLe.cons rfl (FrLe.nil _)), h⟩
    intro h e13
    refine Dpy rfl rfl rfl rfl rfl e13 rfl (V_move rfl rfl) ?_
    refine Dpy rfl rfl rfl rfl rfl e13 rfl (V_lenL rfl rfl Tryz.underlying25 rfl rfl) ?_
    refine Dpy rfl rfl rfl rfl rfl e13 rfl (V_eql rfl rfl rfl) ?_
    refine Dpy rfl rfl rfl rfl rfl e13 rfl (V_move rfl rfl) ?_
    refine splitP (decide ((x10_3.len : Int) = 1)) decide_eq_true_iff h ?_ ?_
    rotate_left
    · intro h e17
      refine Dpn rfl rfl rfl rfl rfl (.inl (by rw [e17]; rfl)) rfl ?_
      refine Drn rfl rfl rfl rfl rfl (.inl (by rw [e17]; rfl)) rfl ?_
      refine Dpn rfl rfl rfl rfl rfl (.inl (by rw [e17]; rfl)) rfl ?_
      refine Dpy rfl rfl rfl rfl rfl e13 rfl (V_pickF rfl (evb e17) rfl) ?_
      refine Dp rfl rfl rfl rfl (V_pickF rfl (evb e13) rfl) ?_
      refine Dp rfl rfl rfl rfl (V_asg rfl rfl) ?_
      refine Dend ?_
      refine thenN ?_
      exact ⟨_, (FrLe.cons rfl (FrLe.nil _)), h⟩
    intro h e17
    refine Dpy rfl rfl rfl rfl rfl e17 rfl (V_fld rfl Tryz.underlying82 rfl ty3 (by decide) rfl) ?_
    obtain ⟨x46_10, hc, h⟩ := h
    refine Dry rfl rfl rfl rfl rfl e17 rfl (R_ld rfl Tryz.underlying3 rfl rfl hc) ?_
    refine Dpy rfl rfl rfl rfl rfl e17 rfl (V_leq rfl rfl rfl) ?_
    refine Dpy rfl rfl rfl rfl rfl e13 rfl (V_pickT rfl (evb e17) rfl) ?_
    refine Dp rfl rfl rfl rfl (V_pickF rfl (evb e13) rfl) ?_
    refine Dp rfl rfl rfl rfl (V_asg rfl rfl) ?_
    refine Dend ?_
    refine thenN ?_
    exact ⟨_, (FrLe.cons rfl (FrLe.nil _)), h⟩
  intro h e3
  refine Dpy rfl rfl rfl rfl rfl e3 rfl (V_move rfl rfl) ?_
  obtain ⟨p32_11, ha, h0, h1, h⟩ := h
  refine Dpy rfl rfl rfl rfl rfl e3 rfl (V_ixA rfl Tryz.underlying25 ty9 (ixL rfl ha) rfl h0 h1) ?_
  refine Dpy rfl rfl rfl rfl rfl e3 rfl (V_move rfl rfl) ?_
  obtain ⟨p35_12, hc, h⟩ := h
  refine Dpy rfl rfl rfl rfl rfl e3 rfl (V_nil rfl (by rw [← hc]; rfl)) ?_
  refine Dpy rfl rfl rfl rfl rfl e3 rfl (V_fld rfl Tryz.underlying173 rfl ty9 (by decide) rfl) ?_
  obtain ⟨x33_13, hc, h⟩ := h
  refine Dry rfl rfl rfl rfl rfl e3 rfl (R_ld rfl Tryz.underlying9 rfl rfl hc) ?_
  obtain ⟨x37_14, hc, h⟩ := h
  refine Dry rfl rfl rfl rfl rfl e3 rfl (R_ld rfl Tryz.underlying9 rfl rfl hc) ?_
  refine Dpy rfl rfl rfl rfl rfl e3 rfl (V_neqS rfl rfl rfl) ?_
  refine Dp rfl rfl rfl rfl (V_pickF rfl (evb e3) rfl) ?_
  refine Dp rfl rfl rfl rfl (V_move rfl rfl) ?_
  refine splitP (!(decide (x33_13 = x37_14))) (bnot_iff decide_eq_true_iff) h ?_ ?_
  · intro h e13
    refine Dpn rfl rfl rfl rfl rfl (.inl (by rw [e13]; rfl)) rfl ?_
    refine Dpn rfl rfl rfl rfl rfl (.inl (by rw [e13]; rfl)) rfl ?_
    refine Dpn rfl rfl rfl rfl rfl (.inl (by rw [e13]; rfl)) rfl ?_
    refine Dpn rfl rfl rfl rfl rfl (.inl (by rw [e13]; rfl)) rfl ?_
    refine Dpn rfl rfl rfl rfl rfl (.inr rfl) rfl ?_
    refine Drn rfl rfl rfl rfl rfl (.inr rfl) rfl ?_
    refine Dpn rfl rfl rfl rfl rfl (.inr rfl) rfl ?_
    refine Dpn rfl rfl rfl rfl rfl (.inl (by rw [e13]; rfl)) rfl ?_
    refine Dp rfl rfl rfl rfl (V_pickT rfl (evb e13) rfl) ?_
    refine Dp rfl rfl rfl rfl (V_asg rfl rfl) ?_
    refine Dend ?_
    refine thenN ?_
    exact ⟨_, (FrLe.cons rfl (FrLe.nil _)), h⟩
  intro h e13
  refine Dpy rfl rfl rfl rfl rfl e13 rfl (V_move rfl rfl) ?_
  refine Dpy rfl rfl rfl rfl rfl e13 rfl (V_lenL rfl rfl Tryz.underlying25 rfl rfl) ?_
  refine Dpy rfl rfl rfl rfl rfl e13 rfl (V_eql rfl rfl rfl) ?_
  refine Dpy rfl rfl rfl rfl rfl e13 rfl (V_move rfl rfl) ?_
  refine splitP (decide ((x10_3.len : Int) = 1)) decide_eq_true_iff h ?_ ?_
  rotate_left
  · intro h e17
    refine Dpn rfl rfl rfl rfl rfl (.inl (by rw [e17]; rfl)) rfl ?_
    refine Drn rfl rfl rfl rfl rfl (.inl (by rw [e17]; rfl)) rfl ?_
    refine Dpn rfl rfl rfl rfl rfl (.inl (by rw [e17]; rfl)) rfl ?_
    refine Dpy rfl rfl rfl rfl rfl e13 rfl (V_pickF rfl (evb e17) rfl) ?_
    refine Dp rfl rfl rfl rfl (V_pickF rfl (evb e13) rfl) ?_
    refine Dp rfl rfl rfl rfl (V_asg rfl rfl) ?_
    refine Dend ?_
    refine thenN ?_
    exact ⟨_, (FrLe.cons rfl (FrLe.nil _)), h⟩
  intro h e17
  refine Dpy rfl rfl rfl rfl rfl e17 rfl (V_fld rfl Tryz.underlying82 rfl ty3 (by decide) rfl) ?_
  obtain ⟨x46_15, hc, h⟩ := h
  refine Dry rfl rfl rfl rfl rfl e17 rfl (R_ld rfl Tryz.underlying3 rfl rfl hc) ?_
  refine Dpy rfl rfl rfl rfl rfl e17 rfl (V_leq rfl rfl rfl) ?_
  refine Dpy rfl rfl rfl rfl rfl e13 rfl (V_pickT rfl (evb e17) rfl) ?_
  refine Dp rfl rfl rfl rfl (V_pickF rfl (evb e13) rfl) ?_
  refine Dp rfl rfl rfl rfl (V_asg rfl rfl) ?_
  refine Dend ?_
  refine thenN ?_
  exact ⟨_, (FrLe.cons rfl (FrLe.nil _)), h⟩

end Go.Proofs.YthfpmipeejjogaaGreatDoor.G

/- What homes hold, the walk: Home, Usage. -/
namespace Go.Proofs.YthfpmipeejjogaaGreatDoor.Zt
open Go Go.Proofs.YthfpmipeejjogaaGreatDoor.SL Go.Proofs.YthfpmipeejjogaaGreatDoor.G Go.Proofs.YthfpmipeejjogaaGreatDoor.Pa
set_option linter.unusedSimpArgs false
set_option linter.unusedVariables false
variable {B : World} {ro σ σ' : AH} {tag tag' : Nat → Nat}

/-- a path's parts: what was owned is as it was -/
theorem parts2_ok {s : ByteArray} {Q : Sl → Int → AH → Prop} (r : Nat) (g : Glob ro) (hs : SL.Sep ro σ) (hnone : parts (L s) = none → ∀ sl tag' σ', Step [] ro tag σ tag' σ' → Q sl 20 σ')
    (hsome : ∀ ps, parts (L s) = some ps → ∀ sl tag' σ', Step [] ro tag σ tag' σ' → Row tag' σ' r 9 sl (ps.map Pa.vS) → Q sl 0 σ') : c_path_Parts B ro s σ Q := by
  have base : c_path_Parts B ro s (fun _ => none) (fun sl e σ' => (parts (L s) = none ∧ e = 20) ∨ ∃ ps tag', parts (L s) = some ps ∧ e = 0 ∧ Row tag' σ' r 9 sl (ps.map Pa.vS)) :=
    Pa.parts_ok (tag := fun _ => 0) r g (fun h _ _ => .inl ⟨h, rfl⟩) fun ps h sl tag' σ' _ hr => .inr ⟨ps, tag', h, rfl, hr⟩
  have fr := c_path_Parts_frame (ψ := σ) base (fun b o h => by cases h)
  have e : join (fun _ => none) σ = σ := by funext b; rfl
  rw [e] at fr
  refine c_path_Parts_mono fr ?_
  rintro sl ev σ' hsep ⟨τ, rfl, hd, hq⟩
  have keep : ∀ (tg : Nat → Nat), (∀ b, τ b = none → tg b = tag b) → Step [] ro tag σ tg (join τ σ) := fun tg htg => by
    have hn : ∀ b o, σ b = some o → τ b = none := fun b o ho => by
      cases h : τ b with
      | none => rfl
      | some x => have := hd b x h; rw [ho] at this; cases this
    refine ⟨fun b o ho _ => ⟨htg b (hn b o ho), join_right hd ho⟩, fun b o ho => ⟨htg b (hn b o ho), o, join_right hd ho⟩, hsep⟩
  rcases hq with ⟨h, rfl⟩ | ⟨ps, tg, h, rfl, hr⟩
  · exact hnone h sl tag _ (keep tag fun _ _ => rfl)
  · refine hsome ps h sl (fun b => if (τ b).isSome then tg b else tag b) _ (keep _ fun b hb => by simp [hb]) ?_
    rcases hr with h | ⟨b, cs, ha, ht, hb, hx⟩
    · exact .inl h
    · exact .inr ⟨b, cs, ha, by simp [hb, ht], by unfold join; rw [hb], hx⟩
theorem home_ok {s : ByteArray} {ps : List Str} {Q : ByteArray → Int → AH → Prop} (g : Glob ro) (hps : parts (L s) = some ps) (hQ : ∀ tag' σ', Step [] ro tag σ tag' σ' → Q (S ((homeOf (L s)).getD [])) 0 σ') : c_path_Home B ro s σ Q := by
  refine path_Home_ok fun hs => ?_
  unfold f_path_Home
  refine parts2_ok (tag := tag) 0 g hs (fun h => by rw [hps] at h; cases h) fun ps' h sl tag1 σ1 st1 r1 => ?_
  rw [hps] at h; cases h
  have hln : sl.len = ps.length := by rw [r1.len, List.length_map]
  have hh := homeOf_parts hps
  by_cases h0 : ps = []
  · subst h0
    rw [if_pos (by rw [hln]; rfl)]
    rw [hh] at hQ
    exact hQ tag1 σ1 st1
  · have hpos := List.length_pos_iff.2 h0
    rw [if_neg (by omega)]
    obtain ⟨p, hp, _, hget⟩ := Row.sget r1 st1.sep hpos
    refine ⟨p, hp, by decide, by omega, _, hget 0 hpos, ?_⟩
    rw [hh, List.head?_eq_getElem?, List.getElem?_eq_getElem hpos] at hQ
    exact hQ tag1 σ1 st1

set_option maxRecDepth 100000 in
theorem usage_ok {r T M q0 : Nat} {bs : List Nat} {st : St} {hs : List Str} {s : Sl} {Q : Int → Int → AH → Prop} (g : Glob ro) (hr : r < 64) (hr' : r ∉ [0, 2, 3, 4, 6, 20]) (h : TreeAt tag σ r T M bs st) (hi : Inv st) (hn : st.length ≤ 4294967296)
    (hrow : Row tag σ q0 9 s (hs.map Pa.vS)) (hq0 : q0 % 64 ∉ [0, 2, 3, 4, 20]) (hhl : ∀ x ∈ hs, x.length ≤ 4611686018427387903) (hhn : hs.length ≤ 1024)
    (hQ : ∀ tag' σ', StepS [0, 2, 3, 4, 20] ro tag σ tag' σ' → Q ((usages st hs).1 : Nat) ((usages st hs).2 : Nat) σ') : c_multi_Usage B ro (some ⟨T, 0, none⟩) s σ Q := by
  refine multi_Usage_ok fun hsep => ?_
  unfold f_multi_Usage
  simp only [List.mem_cons, List.not_mem_nil, or_false, not_or] at hr' hq0
  refine nw_cells (tag := tag) 2 hsep fun x4 tag1 σ1 st1 r1 => ?_
  refine nw_cells (tag := tag1) 3 (st1 []).sep fun x5 tag2 σ2 st2 r2 => ?_
  have hsl : s.len = hs.length := by rw [hrow.len, List.length_map]
  have hpaths : ∀ p ∈ st, ∃ ps, parts p.1 = some ps := fun p hp => hi.path _ _ ((lookup_iff hi.keys (k := p.1) (n := p.2)).2 hp)
  let acc (j : Nat) : Nat × Nat := usages st (hs.take j)
  have hacc : ∀ j, j ≤ hs.length → (acc j).1 ≤ j * st.length ∧ (acc j).2 ≤ j * (384 * st.length) := by
    intro j
    induction j with
    | zero => intro _; exact ⟨by simp [acc, usages], by simp [acc, usages]⟩
    | succ j ih =>
      intro hj
      have := ih (by omega)
      have hu := usage_le hi hs[j]
      have e : acc (j + 1) = ((acc j).1 + (usage st hs[j]).1, (acc j).2 + (usage st hs[j]).2) := by
        simp only [acc, usages]
        rw [List.take_add_one, List.getElem?_eq_getElem (by omega), List.foldl_append]; rfl
      rw [e]
      simp only [Nat.add_mul, Nat.one_mul]
      omega
  have hbound : ∀ j, j ≤ hs.length → (acc j).1 ≤ 4398046511104 ∧ (acc j).2 ≤ 1688849860263936 := fun j hj => by
    have h1 := hacc j hj
    have h2 : j * st.length ≤ 1024 * 4294967296 := Nat.mul_le_mul (by omega) hn
    have h3 : j * (384 * st.length) ≤ 1024 * (384 * 4294967296) := Nat.mul_le_mul (by omega) (Nat.mul_le_mul_left _ hn)
    omega
  suffices ∀ (m j : Nat) (tag3 : Nat → Nat) (σ3 : AH), j + m = hs.length → StepS [0, 2, 3, 4, 20] ro tag σ tag3 σ3 → TreeAt tag3 σ3 r T M bs st → Row tag3 σ3 q0 9 s (hs.map Pa.vS) → Row tag3 σ3 2 69 ⟨some ⟨x4, 0, none⟩, 2, 2⟩ [vI 0, vI 0] → Row tag3 σ3 3 69 ⟨some ⟨x5, 0, none⟩, 2, 2⟩ [vI (acc j).1, vI (acc j).2] →
      lfpD (l6_multi_Usage B ro (some ⟨T, 0, none⟩) s x4 x5 Q) (j : Int) σ3 from
    this _ 0 tag2 σ2 (Nat.zero_add _) (((st1 []).s (by simp)).trans ((st2 []).s (by simp))) ((h.keep (st1 []) (by simp)).keep (st2 []) (by simp)) ((hrow.keep (st1 []) (by simp)).keep (st2 []) (by simp)) (r1.keep (st2 []) (by simp)) r2
  intro m
  induction m with
  | zero =>
    intro j tag3 σ3 hj hst hA hrow3 h4 h5
    refine lfpD.intro ?_
    unfold l6_multi_Usage
    rw [if_neg (by omega)]
    unfold j3_multi_Usage
    obtain ⟨p5, hp5, hg5⟩ := h5.ptr hst.sep (by simp)
    cases hp5
    refine ⟨_, _, cellsAt_of 0 fun i v hv => by rw [Nat.zero_add]; have := hg5 i v hv; rwa [Nat.mul_one] at this, ?_⟩
    refine h4.stAll hst.sep (by simp) (by simp [storable]) fun σ4 st4 r4 => ?_
    obtain ⟨p4, hp4, hg4⟩ := r4.ptr st4.sep (by simp)
    cases hp4
    refine ⟨_, _, cellsAt_of 0 fun i v hv => by rw [Nat.zero_add]; have := hg4 i v hv; rwa [Nat.mul_one] at this, ?_⟩
    have e : acc j = usages st hs := by simp only [acc]; rw [List.take_of_length_le (by omega)]
    rw [e]
    exact hQ tag3 σ4 (hst.trans (st4.s (by simp)))
  | succ m ih =>
    intro j tag3 σ3 hj hst hA hrow3 h4 h5
    have hjl : j < hs.length := by omega
    obtain ⟨pp, hpp, _, hget⟩ := Row.sget hrow3 hst.sep hjl
    refine lfpD.intro ?_
    unfold l6_multi_Usage
    rw [if_pos (by omega)]
    refine ⟨pp, hpp, by omega, by omega, S hs[j], by rw [Int.toNat_natCast]; exact hget j hjl, ?_⟩
    have hxl := hhl _ (List.getElem_mem hjl)
    refine ⟨by rw [show (⟨#[47]⟩ : ByteArray).size = 1 from rfl, show (S hs[j]).size = hs[j].length from by rw [← L_len, L_S]]; omega, ?_⟩
    have hcat : (⟨#[47]⟩ : ByteArray) ++ S hs[j] = S (47 :: hs[j]) := by
      rw [show (⟨#[47]⟩ : ByteArray) = S [47] from rfl, S_append]; rfl
    rw [hcat]
    have hu := usage_le hi hs[j]
    have hej : acc (j + 1) = ((acc j).1 + (usage st hs[j]).1, (acc j).2 + (usage st hs[j]).2) := by
      simp only [acc, usages]
      rw [List.take_add_one, List.getElem?_eq_getElem hjl, List.foldl_append]; rfl
    have hbj := hbound (j + 1) (by omega)
    rw [hej] at hbj
    simp only at hbj
    -- the inner loop, over the paths under the home
    have inner : ∀ (l : List Str) (sl : Sl) (m2 i : Nat) (tag5 : Nat → Nat) (σ5 : AH), i + m2 = l.length → l.length ≤ st.length → (∀ k ∈ l, k ∈ st.map (·.1)) → usageK st hs[j] l = usage st hs[j] → StepS [0, 2, 3, 4, 20] ro tag σ tag5 σ5 → TreeAt tag5 σ5 r T M bs st → Row tag5 σ5 q0 9 s (hs.map Pa.vS) → Row tag5 σ5 2 69 ⟨some ⟨x4, 0, none⟩, 2, 2⟩ [vI 0, vI 0] → Row tag5 σ5 20 9 sl (l.map Pa.vS) →
        Row tag5 σ5 3 69 ⟨some ⟨x5, 0, none⟩, 2, 2⟩ [vI ((acc j).1 + (usageK st hs[j] (l.take i)).1 : Nat), vI ((acc j).2 + (usageK st hs[j] (l.take i)).2 : Nat)] →
        lfpD (l13_multi_Usage B ro (some ⟨T, 0, none⟩) s x4 x5 (j : Int) (S hs[j]) sl Q (lfpD (l6_multi_Usage B ro (some ⟨T, 0, none⟩) s x4 x5 Q))) (i : Int) σ5 := by
      intro l sl m2
      induction m2 with
      | zero =>
        intro i tag5 σ5 hil hll hlk hul hst5 hA5 hrow5 h45 h20 h35
        refine lfpD.intro ?_
        unfold l13_multi_Usage
        have hsll : sl.len = l.length := by rw [h20.len, List.length_map]
        rw [if_neg (by omega)]
        unfold j8_multi_Usage
        rw [Pa.inc j (by omega)]
        rw [List.take_of_length_le (by omega), hul] at h35
        exact ih (j + 1) tag5 σ5 (by omega) hst5 hA5 hrow5 h45 (by rw [hej]; exact h35)
      | succ m2 ih2 =>
        intro i tag5 σ5 hil hll hlk hul hst5 hA5 hrow5 h45 h20 h35
        have hil' : i < l.length := by omega
        have hsll : sl.len = l.length := by rw [h20.len, List.length_map]
        obtain ⟨pl, hpl, _, hgetl⟩ := Row.sget h20 hst5.sep hil'
        obtain ⟨n, hnl⟩ := lookup_in (hlk _ (List.getElem_mem hil'))
        obtain ⟨ps, hps⟩ := hi.path _ _ hnl
        have hda := hi.data _ _ hnl
        have hk128 : l[i].length ≤ 128 := (hi.small _ ((lookup_iff hi.keys).1 hnl)).1
        refine lfpD.intro ?_
        unfold l13_multi_Usage
        rw [if_pos (by omega)]
        refine ⟨pl, hpl, by omega, by omega, S l[i], by rw [Int.toNat_natCast]; exact hgetl i hil', ?_⟩
        refine home_ok (tag := tag5) g (by rw [L_S]; exact hps) fun tag6 σ6 st6 => ?_
        rw [L_S]
        have etk : usageK st hs[j] (l.take (i + 1)) = if homeOf l[i] = some hs[j] then ((usageK st hs[j] (l.take i)).1 + 1, (usageK st hs[j] (l.take i)).2 + (l[i].length + n.data.length)) else usageK st hs[j] (l.take i) := by
          rw [List.take_add_one, List.getElem?_eq_getElem hil']
          simp only [Option.toList_some]
          rw [usageK_app, hnl]
        have ul := usageK_le st hs[j] (l.take (i + 1)) (fun k hk => by
          obtain ⟨n', hn'⟩ := lookup_in (hlk k (List.mem_of_mem_take hk))
          exact (hi.small _ ((lookup_iff hi.keys).1 hn')).1) hi.data
        by_cases hh : homeOf l[i] = some hs[j]
        · rw [hh]
          simp only [Option.getD_some]
          rw [if_neg (by
            rintro (h | h)
            · exact h trivial
            · exact homeOf_ne hh (S_inj.1 h))]
          rw [if_pos hh] at etk
          refine get_ok g hr (by omega) (by omega) (hA5.keep st6 (by simp)) (fun p n h => hi.data p n h) (fun hb => by rw [L_S, hps] at hb; cases hb) (fun _ _ hb => by rw [L_S, hnl] at hb; cases hb) (fun n' hn' ds tag7 σ7 st7 hr7 => ?_)
          rw [L_S, hnl] at hn'; cases hn'
          refine nw_st (tag := tag7) 4 st7.sep rfl (by simp [storable]) fun x tag8 σ8 st8 r8 => ?_
          have h38 := ((h35.keep st6 (by simp)).keepC st7 (by decide)).keep (st8 []) (by simp)
          obtain ⟨p5, hp5, hg5⟩ := h38.ptr (st8 []).sep (by simp)
          cases hp5
          refine ⟨_, hg5 0 _ rfl, ?_⟩
          refine h38.st (i := 0) (st8 []).sep rfl (by simp) rfl fun σ9 st9 r9 => ?_
          obtain ⟨p9, hp9, hg9⟩ := r9.ptr st9.sep (by simp)
          cases hp9
          refine ⟨_, hg9 1 _ rfl, ?_⟩
          refine r9.st (i := 1) st9.sep rfl (by simp) rfl fun σa sta ra => ?_
          unfold j15_multi_Usage
          rw [Pa.inc i (by omega)]
          have hdl : (ds.len : Int) = n.data.length := by rw [hr7.len, List.length_map]
          have hsz : ((S l[i]).size : Int) = l[i].length := by rw [← L_len, L_S]
          have k9 : ∀ (R : Nat), R ≠ 3 → R ∉ [3] := fun R h => by simpa using h
          rw [etk] at ul
          simp only at ul
          have lt : (l.take (i + 1)).length ≤ st.length := by rw [List.length_take]; omega
          refine ih2 (i + 1) tag8 σa (by omega) hll hlk hul (hst5.trans ((st6.s (by simp)).trans ((st7.s (by simp)).trans (((st8 []).s (by simp)).trans ((st9.s (by simp)).trans (sta.s (by simp))))))) ?_ ?_ ?_ ?_ ?_
          · exact ((((hA5.keep st6 (by simp)).keepC st7 (by omega) (by omega)).keep (st8 []) (by simp)).keep st9 (by simp; omega)).keep sta (by simp; omega)
          · exact ((((hrow5.keep st6 (by simp)).keepC st7 (by omega)).keep (st8 []) (by simp)).keep st9 (by simp; omega)).keep sta (by simp; omega)
          · exact ((((h45.keep st6 (by simp)).keepC st7 (by omega)).keep (st8 []) (by simp)).keep st9 (by simp)).keep sta (by simp)
          · exact ((((h20.keep st6 (by simp)).keepC st7 (by omega)).keep (st8 []) (by simp)).keep st9 (by simp)).keep sta (by simp)
          · rw [etk]
            have e1 : IntKind.i64.wrap ((((acc j).1 + (usageK st hs[j] (l.take i)).1 : Nat) : Int) + 1) = (((acc j).1 + ((usageK st hs[j] (l.take i)).1 + 1) : Nat) : Int) := by
              rw [w64_eq (by omega) (by omega)]; omega
            have e2 : IntKind.i64.wrap ((((acc j).2 + (usageK st hs[j] (l.take i)).2 : Nat) : Int) + IntKind.i64.wrap (((S l[i]).size : Int) + (ds.len : Int))) = (((acc j).2 + ((usageK st hs[j] (l.take i)).2 + (l[i].length + n.data.length)) : Nat) : Int) := by
              rw [hdl, hsz, w64_eq (n := (l[i].length : Int) + (n.data.length : Int)) (by omega) (by omega), w64_eq (by omega) (by omega)]; omega
            simp only
            rw [← e1, ← e2]
            exact ra
        · rw [if_pos (by
            by_cases h0 : hs[j] = []
            · exact .inr (by rw [h0]; rfl)
            · refine .inl fun h => hh ?_
              have := S_inj.1 h
              cases e : homeOf l[i] with
              | none => rw [e] at this; exact absurd this.symm h0
              | some x => rw [e] at this; simp at this; rw [this])]
          rw [if_neg hh] at etk
          unfold j15_multi_Usage
          rw [Pa.inc i (by omega)]
          exact ih2 (i + 1) tag6 σ6 (by omega) hll hlk hul (hst5.trans (st6.s (by simp))) (hA5.keep st6 (by simp)) (hrow5.keep st6 (by simp)) (h45.keep st6 (by simp)) (h20.keep st6 (by simp)) (by rw [etk]; exact h35.keep st6 (by simp))
    refine pathsAny_ok (q := 20) g hr (by omega) (by decide) hA hpaths (by omega) (fun hbad tag5 σ5 st5 => ?_) fun ps hps sl tag5 σ5 ks st5 hp5 hsrt5 r5 => ?_
    · rw [L_S] at hbad
      have hz : usage st hs[j] = (0, 0) := by
        rw [← usageK_srt hi.keys]
        exact usageK_none st _ _ (by rw [hbad]; simp)
      refine inner [] ⟨none, 0, 0⟩ 0 0 tag5 σ5 rfl (Nat.zero_le _) (fun _ h => by cases h) (by rw [hz]; rfl) (hst.trans ((st5 []).s (by simp))) (hA.keep (st5 []) (by simp)) (hrow3.keep (st5 []) (by simp)) (h4.keep (st5 []) (by simp)) (Row.nil _ _) ?_
      simpa [usageK] using h5.keep (st5 []) (by simp)
    · rw [L_S] at r5
      have hks := srt_keys hA.keys hp5 hsrt5
      refine inner _ sl _ 0 tag5 σ5 (Nat.zero_add _) (by have h1 := List.length_filter_le (fun k => isUnder (47 :: hs[j]) k) ks; have h2 := hp5.length_eq; rw [List.length_map] at h2; omega) (fun k hk => hp5.mem_iff.1 (List.mem_filter.1 hk).1) ?_ (hst.trans (st5.s (by simp))) (hA.keep st5 (by simp; omega)) (hrow3.keep st5 (by simp; omega)) (h4.keep st5 (by simp)) r5 ?_
      · rw [usageK_under, hks, usageK_srt hi.keys]
      · simpa [usageK] using h5.keep st5 (by simp)
end Go.Proofs.YthfpmipeejjogaaGreatDoor.Zt
