/- GMul -/
import Derived.Test.YthfpmipeejjogaaGreatDoorXK
/- Functions as predicate transformers, and the proofs that the code does what they tell: printed by wip/tools/gen.py. -/
namespace Go.Proofs.YthfpmipeejjogaaGreatDoor.G
open Go Go.Proofs.YthfpmipeejjogaaGreatDoor.SL
set_option linter.unusedVariables false
set_option linter.unusedSimpArgs false

def j10_multi_Apply (B : World) (ro : AH) (a0 : Option Addr) (x10_2 : Nat) (x39_6 : Option Addr) (x47_9 : Nat) (Q : Sl → Sl → Int → Int → AH → Prop) (σ : AH) : Prop :=
 ∃ p66_11 : Addr, x39_6 = some p66_11 ∧
 ∃ (x67_12 : Option Nat), cellsAt ro σ p66_11 0 [.map x67_12] ∧
 ∃ p68_13 : Addr, a0 = some p68_13 ∧
 stN p68_13 (fun σ =>
  stN ((⟨x47_9, 0, none⟩ : Addr).add 2) (fun σ =>
   ∃ (x76_14a : Sl) (x76_14b : Sl) (x76_14c : Int), cellsAt ro σ ⟨x47_9, 0, none⟩ 0 [Sl.v x76_14a, Sl.v x76_14b, .int .i64 x76_14c] ∧
   stN ⟨x10_2, 0, none⟩ (fun σ =>
    ∃ (x10_15a : Sl) (x10_15b : Sl) (x10_15c : Int), cellsAt ro σ ⟨x10_2, 0, none⟩ 0 [Sl.v x10_15a, Sl.v x10_15b, .int .i64 x10_15c] ∧
    Q x10_15a x10_15b x10_15c 0 σ) [Sl.v x76_14a, Sl.v x76_14b, .int .i64 x76_14c] 0 σ) [.int .i64 (-1)] 0 σ) [.map x67_12] 0 σ

def l16_multi_Apply (B : World) (ro : AH) (a0 : Option Addr) (a4 : Sl) (x10_2 : Nat) (x39_6 : Option Addr) (x47_9 : Nat) (Q : Sl → Sl → Int → Int → AH → Prop) : (Int) → AH → ((Int) → AH → Prop) → Prop := fun x50_17 σ Y16 =>
 if x50_17 < (a4.len : Int) then
  ∃ p53_18 : Addr, a4.a = some p53_18 ∧ (0 : Int) ≤ x50_17 ∧ x50_17 < (a4.len : Int) ∧
  ∃ (x54_19a : Int) (x54_19b : ByteArray) (x54_19c : Sl) (x54_19d : Int) (x54_19e : Bool) (x54_19f : Bool), cellsAt ro σ (p53_18.add (Int.toNat x50_17 * 6)) 0 [.int .i64 x54_19a, .string x54_19b, Sl.v x54_19c, .int .i64 x54_19d, .bool x54_19e, .bool x54_19f] ∧
  nw ro σ (.cells #[.int .i64 0, .string ByteArray.empty, Sl.v (⟨none, 0, 0⟩ : Sl), .int .i64 0, .bool false, .bool false] 82) fun x16_20 σ =>
  stN ⟨x16_20, 0, none⟩ (fun σ =>
   ∃ (x56_21a : Int) (x56_21b : ByteArray) (x56_21c : Sl) (x56_21d : Int) (x56_21e : Bool) (x56_21f : Bool), cellsAt ro σ ⟨x16_20, 0, none⟩ 0 [.int .i64 x56_21a, .string x56_21b, Sl.v x56_21c, .int .i64 x56_21d, .bool x56_21e, .bool x56_21f] ∧
   c_multi_work_do B ro (some ⟨x47_9, 0, none⟩) x56_21a x56_21b x56_21c x56_21d x56_21e x56_21f σ fun x57_22 σ =>
   if ¬ (x57_22 = 0) then
    stN ⟨x10_2, 0, none⟩ (fun σ =>
     ∃ (x10_23a : Sl) (x10_23b : Sl) (x10_23c : Int), cellsAt ro σ ⟨x10_2, 0, none⟩ 0 [Sl.v x10_23a, Sl.v x10_23b, .int .i64 x10_23c] ∧
     Q x10_23a x10_23b x10_23c x57_22 σ) [Sl.v (⟨none, 0, 0⟩ : Sl), Sl.v (⟨none, 0, 0⟩ : Sl), .int .i64 x50_17] 0 σ
   else
   Y16 (IntKind.i64.wrap (x50_17 + 1)) σ) [.int .i64 x54_19a, .string x54_19b, Sl.v x54_19c, .int .i64 x54_19d, .bool x54_19e, .bool x54_19f] 0 σ
 else
 j10_multi_Apply B ro a0 x10_2 x39_6 x47_9 Q σ

def f_multi_Apply (B : World) (ro : AH) (a0 : Option Addr) (a1 : ByteArray) (a2 : Int) (a3_0 : Int) (a3_1 : Int) (a4 : Sl) (σ : AH) (Q : Sl → Sl → Int → Int → AH → Prop) : Prop :=
 nw ro σ (.cells #[.int .i64 a3_0, .int .i64 a3_1] 69) fun x8_1 σ =>
 nw ro σ (.cells #[Sl.v (⟨none, 0, 0⟩ : Sl), Sl.v (⟨none, 0, 0⟩ : Sl), .int .i64 0] 77) fun x10_2 σ =>
 if ((a4.len : Int) = 0) ∨ (16 < (a4.len : Int)) then
  stN ⟨x10_2, 0, none⟩ (fun σ =>
   ∃ (x10_3a : Sl) (x10_3b : Sl) (x10_3c : Int), cellsAt ro σ ⟨x10_2, 0, none⟩ 0 [Sl.v x10_3a, Sl.v x10_3b, .int .i64 x10_3c] ∧
   Q x10_3a x10_3b x10_3c 80 σ) [Sl.v (⟨none, 0, 0⟩ : Sl), Sl.v (⟨none, 0, 0⟩ : Sl), .int .i64 0] 0 σ
 else
 if (a2 < 1) ∨ (4611686018427387903 < a2) then
  stN ⟨x10_2, 0, none⟩ (fun σ =>
   ∃ (x10_4a : Sl) (x10_4b : Sl) (x10_4c : Int), cellsAt ro σ ⟨x10_2, 0, none⟩ 0 [Sl.v x10_4a, Sl.v x10_4b, .int .i64 x10_4c] ∧
   Q x10_4a x10_4b x10_4c 10 σ) [Sl.v (⟨none, 0, 0⟩ : Sl), Sl.v (⟨none, 0, 0⟩ : Sl), .int .i64 0] 0 σ
 else
 c_ztree_Tree_Encode B ro a0 σ fun x38_5 σ =>
 c_ztree_Decode B ro x38_5 σ fun x39_6 x39_7 σ =>
 ∃ (x45_8a : Int) (x45_8b : Int), cellsAt ro σ ⟨x8_1, 0, none⟩ 0 [.int .i64 x45_8a, .int .i64 x45_8b] ∧
 nw ro σ (.cells #[Sl.v (⟨none, 0, 0⟩ : Sl), Sl.v (⟨none, 0, 0⟩ : Sl), .int .i64 0, .pointer x39_6, .string a1, .int .i64 a2, .int .i64 x45_8a, .int .i64 x45_8b] 173) fun x47_9 σ =>
 lfpD (l16_multi_Apply B ro a0 a4 x10_2 x39_6 x47_9 Q ) (0) σ

set_option maxRecDepth 100000 in
set_option maxHeartbeats 4000000 in
theorem multi_Apply_ok {B : World} {ro : AH} {a0 : Option Addr} {a1 : ByteArray} {a2 : Int} {a3_0 : Int} {a3_1 : Int} {a4 : Sl} {σ : AH} {Q : Sl → Sl → Int → Int → AH → Prop} (h : Sep ro σ → f_multi_Apply B ro a0 a1 a2 a3_0 a3_1 a4 σ Q) : c_multi_Apply B ro a0 a1 a2 a3_0 a3_1 a4 σ Q := by
  refine ACalls.of_sep fun hsep => ?_
  replace h := h hsep
  refine ACalls.of_body (args := [.pointer a0, .string a1, .int .i64 a2, .agg #[.int .i64 a3_0, .int .i64 a3_1], Sl.v a4]) Tryz.func36 rfl (by rw [Tryz.ntmps36]; simp) ?_
  rw [Tryz.ntmps36]
  unfold f_multi_Apply at h
  refine AW.seq ?_
  refine AW.reg ?_
  refine Ls rfl rfl (X_new (A_box rfl rfl) fun x8_1 g1 g2 => ?_)
  replace h := h x8_1 g1 g2
  refine Ls rfl rfl (X_new (A_alloc rfl ty77) fun x10_2 g1 g2 => ?_)
  replace h := h x10_2 g1 g2
  refine Lp (V_asg rfl rfl) rfl rfl ?_
  refine Lnil ?_
  refine thenN ?_
  refine AW.seq ?_
  refine AW.block ?_
  refine AW.seq ?_
  refine AW.reg ?_
  refine Lp (V_move rfl rfl) rfl rfl ?_
  refine Lp (V_lenL rfl rfl Tryz.underlying70 rfl rfl) rfl rfl ?_
  refine Lp (V_eql rfl rfl rfl) rfl rfl ?_
  refine Lp (V_move rfl rfl) rfl rfl ?_
  refine Lsplit 4 (decide ((a4.len : Int) = 0)) [(0, .pointer a0), (1, .string a1), (2, .int .i64 a2), (4, Sl.v a4), (8, .pointer (some ⟨x8_1, 0, none⟩)), (10, .pointer (some ⟨x10_2, 0, none⟩)), (26, .bool ((decide ((a4.len : Int) = 0)) || (decide (16 < (a4.len : Int)))))] ?_ ?_ ?_
  · intro e3 hk3
    refine Ln rfl rfl rfl rfl (.inl (by rw [e3]; rfl)) ?_
    refine Ln rfl rfl rfl rfl (.inl (by rw [e3]; rfl)) ?_
    refine Ln rfl rfl rfl rfl (.inl (by rw [e3]; rfl)) ?_
    refine Lp (V_pickT rfl (evb e3) rfl) rfl rfl ?_
    exact hk3 _ (FrLe.cons rfl (FrLe.cons rfl (FrLe.cons rfl (FrLe.cons rfl (FrLe.cons rfl (FrLe.cons rfl (FrLe.cons (by rw [e3]; rfl) (FrLe.nil _))))))))
  · intro e3 hk3
    refine Lypb (V_move rfl rfl) rfl rfl rfl rfl e3 ?_
    refine Lypb (V_lenL rfl rfl Tryz.underlying70 rfl rfl) rfl rfl rfl rfl e3 ?_
    refine Lypb (V_gtr rfl rfl rfl) rfl rfl rfl rfl e3 ?_
    refine Lp (V_pickF rfl (evb e3) rfl) rfl rfl ?_
    exact hk3 _ (FrLe.cons rfl (FrLe.cons rfl (FrLe.cons rfl (FrLe.cons rfl (FrLe.cons rfl (FrLe.cons rfl (FrLe.cons (by rw [e3]; rfl) (FrLe.nil _))))))))
  intro fr hl
  refine Lfr hl ?_
  refine Lp (V_asg rfl rfl) rfl rfl ?_
  refine Lnil ?_
  refine thenN ?_
  refine AW.iff rfl (bor_iff decide_eq_true_iff decide_eq_true_iff) h (fun h => ?_) (fun h => ?_)
  · refine AW.seq ?_
    refine AW.reg ?_
    refine Lp (V_bld (vs := []) (cs := #[Sl.v (⟨none, 0, 0⟩ : Sl), Sl.v (⟨none, 0, 0⟩ : Sl), .int .i64 0]) rfl Tryz.underlying77 ty77 pl77 rfl rfl) rfl rfl ?_
    refine Ls rfl rfl (X_st rfl ty77 rfl rfl rfl rfl (stN_mono h fun σ h => ?_))
    refine Lp (V_asg rfl rfl) rfl rfl ?_
    refine Lnil ?_
    refine thenN ?_
    refine AW.ret ?_
    refine blockR ?_
    refine thenR ?_
    obtain ⟨x10_3a, x10_3b, x10_3c, hc0, h⟩ := h
    exact bRM Tryz.results36 (rCons (rAgg rfl Tryz.underlying77 rfl ty77 hc0) (rCons (rTmp rfl) rNil)) ⟨_, _, _, _, rfl, h⟩
  refine AW.seq ?_
  refine AW.reg ?_
  refine Lp (V_move rfl rfl) rfl rfl ?_
  refine Lp (V_lss rfl rfl rfl) rfl rfl ?_
  refine Lp (V_move rfl rfl) rfl rfl ?_
  refine Lsplit 3 (decide (a2 < 1)) [(0, .pointer a0), (1, .string a1), (2, .int .i64 a2), (4, Sl.v a4), (8, .pointer (some ⟨x8_1, 0, none⟩)), (10, .pointer (some ⟨x10_2, 0, none⟩)), (34, .bool ((decide (a2 < 1)) || (decide (4611686018427387903 < a2))))] ?_ ?_ ?_
  · intro e2 hk2
    refine Ln rfl rfl rfl rfl (.inl (by rw [e2]; rfl)) ?_
    refine Ln rfl rfl rfl rfl (.inl (by rw [e2]; rfl)) ?_
    refine Lp (V_pickT rfl (evb e2) rfl) rfl rfl ?_
    exact hk2 _ (FrLe.cons rfl (FrLe.cons rfl (FrLe.cons rfl (FrLe.cons rfl (FrLe.cons rfl (FrLe.cons rfl (FrLe.cons (by rw [e2]; rfl) (FrLe.nil _))))))))
  · intro e2 hk2
    refine Lypb (V_move rfl rfl) rfl rfl rfl rfl e2 ?_
    refine Lypb (V_gtr rfl rfl rfl) rfl rfl rfl rfl e2 ?_
    refine Lp (V_pickF rfl (evb e2) rfl) rfl rfl ?_
    exact hk2 _ (FrLe.cons rfl (FrLe.cons rfl (FrLe.cons rfl (FrLe.cons rfl (FrLe.cons rfl (FrLe.cons rfl (FrLe.cons (by rw [e2]; rfl) (FrLe.nil _))))))))
  intro fr hl
  refine Lfr hl ?_
  refine Lp (V_asg rfl rfl) rfl rfl ?_
  refine Lnil ?_
  refine thenN ?_
  refine AW.iff rfl (bor_iff decide_eq_true_iff decide_eq_true_iff) h (fun h => ?_) (fun h => ?_)
  · refine AW.seq ?_
    refine AW.reg ?_
    refine Lp (V_bld (vs := []) (cs := #[Sl.v (⟨none, 0, 0⟩ : Sl), Sl.v (⟨none, 0, 0⟩ : Sl), .int .i64 0]) rfl Tryz.underlying77 ty77 pl77 rfl rfl) rfl rfl ?_
    refine Ls rfl rfl (X_st rfl ty77 rfl rfl rfl rfl (stN_mono h fun σ h => ?_))
    refine Lp (V_asg rfl rfl) rfl rfl ?_
    refine Lnil ?_
    refine thenN ?_
    refine AW.ret ?_
    refine blockR ?_
    refine thenR ?_
    obtain ⟨x10_4a, x10_4b, x10_4c, hc0, h⟩ := h
    exact bRM Tryz.results36 (rCons (rAgg rfl Tryz.underlying77 rfl ty77 hc0) (rCons (rTmp rfl) rNil)) ⟨_, _, _, _, rfl, h⟩
  refine AW.skip ?_
  refine blockN ?_
  refine thenN ?_
  refine AW.seq ?_
  refine AW.reg ?_
  refine Lp (V_move rfl rfl) rfl rfl ?_
  refine Ls rfl rfl (X_call rfl Tryz.func21 rfl rfl rfl (ACalls.mono h ?_))
  rintro v σ ⟨x38_5, rfl, h⟩
  refine Ls rfl rfl (X_call rfl Tryz.func27 rfl rfl rfl (ACalls.mono h ?_))
  rintro v σ ⟨x39_6, x39_7, rfl, h⟩
  refine Lp (V_move rfl rfl) rfl rfl ?_
  refine Lp (V_ext rfl rfl rfl) rfl rfl ?_
  refine Lp (V_ext rfl rfl rfl) rfl rfl ?_
  refine Lp (V_asg rfl rfl) rfl rfl ?_
  refine Lp (V_asg rfl rfl) rfl rfl ?_
  refine Lnil ?_
  refine thenN ?_
  refine AW.seq ?_
  refine AW.reg ?_
  refine Lp (V_move rfl rfl) rfl rfl ?_
  refine Lp (V_move rfl rfl) rfl rfl ?_
  refine Lp (V_move rfl rfl) rfl rfl ?_
  obtain ⟨x45_8a, x45_8b, hc, h⟩ := h
  refine Ls rfl rfl (X_lda rfl Tryz.underlying69 rfl ty69 rfl hc ?_)
  refine Lp (V_bld (vs := [(1, .pointer x39_6), (2, .string a1), (3, .int .i64 a2), (4, .agg #[.int .i64 x45_8a, .int .i64 x45_8b])]) (cs := #[Sl.v (⟨none, 0, 0⟩ : Sl), Sl.v (⟨none, 0, 0⟩ : Sl), .int .i64 0, .pointer x39_6, .string a1, .int .i64 a2, .int .i64 x45_8a, .int .i64 x45_8b]) rfl Tryz.underlying173 ty173 pl173 rfl rfl) rfl rfl ?_
  refine Ls rfl rfl (X_new (A_box rfl rfl) fun x47_9 g1 g2 => ?_)
  replace h := h x47_9 g1 g2
  refine Lp (V_asg rfl rfl) rfl rfl ?_
  refine Lnil ?_
  refine thenN ?_
  refine AW.seqJ (fun fr σ => FrLe [(0, .pointer a0), (10, .pointer (some ⟨x10_2, 0, none⟩)), (12, .pointer x39_6), (14, .pointer (some ⟨x47_9, 0, none⟩))] fr ∧ j10_multi_Apply B ro a0 x10_2 x39_6 x47_9 Q σ) ?_ ?_
  · rintro fr σ ⟨hl, h⟩
    refine AW.weaken ?_ hl (HLe.refl _)
    unfold j10_multi_Apply at h
    refine AW.seq ?_
    refine AW.reg ?_
    refine Lp (V_move rfl rfl) rfl rfl ?_
    refine Lp (V_move rfl rfl) rfl rfl ?_
    obtain ⟨p66_11, hc, h⟩ := h
    refine Lp (V_nil rfl (by rw [← hc]; rfl)) rfl rfl ?_
    obtain ⟨x67_12, hc, h⟩ := h
    refine Ls rfl rfl (X_lda rfl Tryz.underlying128 rfl ty128 rfl hc ?_)
    obtain ⟨p68_13, hc, h⟩ := h
    refine Lp (V_nil rfl (by rw [← hc]; rfl)) rfl rfl ?_
    refine Ls rfl rfl (X_st rfl ty128 rfl rfl rfl rfl (stN_mono h fun σ h => ?_))
    refine Lnil ?_
    refine thenN ?_
    refine AW.seq ?_
    refine AW.reg ?_
    refine Lp (V_move rfl rfl) rfl rfl ?_
    refine Lp (V_nil rfl rfl) rfl rfl ?_
    refine Lp (V_fld rfl Tryz.underlying173 rfl ty77 (by decide) rfl) rfl rfl ?_
    refine Lp (V_fld rfl Tryz.underlying77 rfl ty3 (by decide) rfl) rfl rfl ?_
    refine Ls rfl rfl (X_st rfl ty3 rfl rfl rfl rfl (stN_mono h fun σ h => ?_))
    refine Lnil ?_
    refine thenN ?_
    refine AW.seq ?_
    refine AW.reg ?_
    refine Lp (V_move rfl rfl) rfl rfl ?_
    refine Lp (V_nil rfl rfl) rfl rfl ?_
    refine Lp (V_fld rfl Tryz.underlying173 rfl ty77 (by decide) rfl) rfl rfl ?_
    obtain ⟨x76_14a, x76_14b, x76_14c, hc, h⟩ := h
    refine Ls rfl rfl (X_lda rfl Tryz.underlying77 rfl ty77 rfl hc ?_)
    refine Ls rfl rfl (X_st rfl ty77 rfl rfl rfl rfl (stN_mono h fun σ h => ?_))
    refine Lp (V_asg rfl rfl) rfl rfl ?_
    refine Lnil ?_
    refine thenN ?_
    refine AW.ret ?_
    obtain ⟨x10_15a, x10_15b, x10_15c, hc0, h⟩ := h
    exact bRM Tryz.results36 (rCons (rAgg rfl Tryz.underlying77 rfl ty77 hc0) (rCons (rTmp rfl) rNil)) ⟨_, _, _, _, rfl, h⟩
  refine AW.seq ?_
  refine AW.reg ?_
  refine Lp (V_move rfl rfl) rfl rfl ?_
  refine Lp (V_lenL rfl rfl Tryz.underlying70 rfl rfl) rfl rfl ?_
  refine Lp (V_move rfl rfl) rfl rfl ?_
  refine Lnil ?_
  refine thenN ?_
  refine AW.block ?_
  refine ARound.loop (fr' := [(0, .pointer a0), (10, .pointer (some ⟨x10_2, 0, none⟩)), (12, .pointer x39_6), (14, .pointer (some ⟨x47_9, 0, none⟩)), (48, Sl.v a4), (49, .int .i64 (a4.len : Int)), (50, .int .i64 0)]) ?_ (FrLe.cons rfl (FrLe.cons rfl (FrLe.cons rfl (FrLe.cons rfl (FrLe.cons rfl (FrLe.cons rfl (FrLe.cons rfl (FrLe.nil _))))))))
  refine h (fun x50_17 σ => ARound _ _ _ _ _ _ [(0, .pointer a0), (10, .pointer (some ⟨x10_2, 0, none⟩)), (12, .pointer x39_6), (14, .pointer (some ⟨x47_9, 0, none⟩)), (48, Sl.v a4), (49, .int .i64 (a4.len : Int)), (50, .int .i64 x50_17)] σ) ?_
  rintro x50_17 σ Y16 hY16 h
  show AW _ _ _ _ _ _ _ _
  unfold l16_multi_Apply at h
  refine AW.seq ?_
  refine AW.reg ?_
  refine Lp (V_lss rfl rfl rfl) rfl rfl ?_
  refine Lnil ?_
  refine thenN ?_
  refine AW.seq ?_
  refine AW.iff rfl decide_eq_true_iff h (fun h => ?_) (fun h => ?_)
  rotate_left
  · refine AW.exit ?_
    refine thenE ?_
    refine thenE ?_
    refine blockE ?_
    refine thenN ?_
    exact ⟨(FrLe.cons rfl (FrLe.cons rfl (FrLe.cons rfl (FrLe.cons rfl (FrLe.nil _))))), h⟩
  refine AW.skip ?_
  refine thenN ?_
  refine AW.seq ?_
  refine AW.block ?_
  refine AW.seq ?_
  refine AW.reg ?_
  refine Lp (V_move rfl rfl) rfl rfl ?_
  obtain ⟨p53_18, ha, h0, h1, h⟩ := h
  refine Lp (V_ixA rfl Tryz.underlying70 ty82 (ixL rfl ha) rfl h0 h1) rfl rfl ?_
  obtain ⟨x54_19a, x54_19b, x54_19c, x54_19d, x54_19e, x54_19f, hc, h⟩ := h
  refine Ls rfl rfl (X_lda rfl Tryz.underlying82 rfl ty82 rfl hc ?_)
  refine Ls rfl rfl (X_new (A_alloc rfl ty82) fun x16_20 g1 g2 => ?_)
  replace h := h x16_20 g1 g2
  refine Lp (V_asg rfl rfl) rfl rfl ?_
  refine Ls rfl rfl (X_st rfl ty82 rfl rfl rfl rfl (stN_mono h fun σ h => ?_))
  refine Lnil ?_
  refine thenN ?_
  refine AW.seq ?_
  refine AW.reg ?_
  refine Lp (V_move rfl rfl) rfl rfl ?_
  obtain ⟨x56_21a, x56_21b, x56_21c, x56_21d, x56_21e, x56_21f, hc, h⟩ := h
  refine Ls rfl rfl (X_lda rfl Tryz.underlying82 rfl ty82 rfl hc ?_)
  refine Ls rfl rfl (X_call rfl Tryz.func96 rfl rfl rfl (ACalls.mono h ?_))
  rintro v σ ⟨x57_22, rfl, h⟩
  refine Lp (V_asg rfl rfl) rfl rfl ?_
  refine Lnil ?_
  refine thenN ?_
  refine AW.seq ?_
  refine AW.reg ?_
  refine Lp (V_move rfl rfl) rfl rfl ?_
  refine Lp (V_neq rfl rfl rfl) rfl rfl ?_
  refine Lnil ?_
  refine thenN ?_
  refine AW.iff rfl (bnot_iff decide_eq_true_iff) h (fun h => ?_) (fun h => ?_)
  rotate_left
  · refine AW.skip ?_
    refine blockN ?_
    refine thenN ?_
    refine AW.reg ?_
    refine Lp (V_add rfl rfl rfl) rfl rfl ?_
    refine Lp (V_move rfl rfl) rfl rfl ?_
    refine Lnil ?_
    refine thenN ?_
    refine ARound.head (fr' := [(0, .pointer a0), (10, .pointer (some ⟨x10_2, 0, none⟩)), (12, .pointer x39_6), (14, .pointer (some ⟨x47_9, 0, none⟩)), (48, Sl.v a4), (49, .int .i64 (a4.len : Int)), (50, .int .i64 (IntKind.i64.wrap (x50_17 + 1)))]) ?_ (FrLe.cons rfl (FrLe.cons rfl (FrLe.cons rfl (FrLe.cons rfl (FrLe.cons rfl (FrLe.cons rfl (FrLe.cons rfl (FrLe.nil _))))))))
    exact hY16 _ _ h
  refine AW.seq ?_
  refine AW.reg ?_
  refine Lp (V_move rfl rfl) rfl rfl ?_
  refine Lp (V_bld (vs := [(2, .int .i64 x50_17)]) (cs := #[Sl.v (⟨none, 0, 0⟩ : Sl), Sl.v (⟨none, 0, 0⟩ : Sl), .int .i64 x50_17]) rfl Tryz.underlying77 ty77 pl77 rfl rfl) rfl rfl ?_
  refine Lp (V_move rfl rfl) rfl rfl ?_
  refine Ls rfl rfl (X_st rfl ty77 rfl rfl rfl rfl (stN_mono h fun σ h => ?_))
  refine Lp (V_asg rfl rfl) rfl rfl ?_
  refine Lnil ?_
  refine thenN ?_
  refine AW.ret ?_
  refine blockR ?_
  refine thenR ?_
  refine thenR ?_
  refine blockR ?_
  refine thenR ?_
  obtain ⟨x10_23a, x10_23b, x10_23c, hc0, h⟩ := h
  exact bRM Tryz.results36 (rCons (rAgg rfl Tryz.underlying77 rfl ty77 hc0) (rCons (rTmp rfl) rNil)) ⟨_, _, _, _, rfl, h⟩

def j3_multi_Usage (B : World) (ro : AH) (x4_1 : Nat) (x5_2 : Nat) (Q : Int → Int → AH → Prop) (σ : AH) : Prop :=
 ∃ (x70_4a : Int) (x70_4b : Int), cellsAt ro σ ⟨x5_2, 0, none⟩ 0 [.int .i64 x70_4a, .int .i64 x70_4b] ∧
 stN ⟨x4_1, 0, none⟩ (fun σ =>
  ∃ (x4_5a : Int) (x4_5b : Int), cellsAt ro σ ⟨x4_1, 0, none⟩ 0 [.int .i64 x4_5a, .int .i64 x4_5b] ∧
  Q x4_5a x4_5b σ) [.int .i64 x70_4a, .int .i64 x70_4b] 0 σ

def j8_multi_Usage (B : World) (ro : AH) (a0 : Option Addr) (a1 : Sl) (x4_1 : Nat) (x5_2 : Nat) (x19_7 : Int) (Q : Int → Int → AH → Prop) (Y6 : (Int) → AH → Prop) (σ : AH) : Prop :=
 Y6 (IntKind.i64.wrap (x19_7 + 1)) σ

def j15_multi_Usage (B : World) (ro : AH) (a0 : Option Addr) (a1 : Sl) (x4_1 : Nat) (x5_2 : Nat) (x19_7 : Int) (x22_10 : ByteArray) (x27_11 : Sl) (x32_14 : Int) (Q : Int → Int → AH → Prop) (Y6 : (Int) → AH → Prop) (Y13 : (Int) → AH → Prop) (σ : AH) : Prop :=
 Y13 (IntKind.i64.wrap (x32_14 + 1)) σ

def l13_multi_Usage (B : World) (ro : AH) (a0 : Option Addr) (a1 : Sl) (x4_1 : Nat) (x5_2 : Nat) (x19_7 : Int) (x22_10 : ByteArray) (x27_11 : Sl) (Q : Int → Int → AH → Prop) (Y6 : (Int) → AH → Prop) : (Int) → AH → ((Int) → AH → Prop) → Prop := fun x32_14 σ Y13 =>
 if x32_14 < (x27_11.len : Int) then
  ∃ p34_16 : Addr, x27_11.a = some p34_16 ∧ (0 : Int) ≤ x32_14 ∧ x32_14 < (x27_11.len : Int) ∧
  ∃ (x35_17 : ByteArray), acell ro σ (p34_16.add (Int.toNat x32_14 * 1)) = some (.string x35_17) ∧
  c_path_Home B ro x35_17 σ fun x38_18 x38_19 σ =>
  if (¬ (x38_18 = x22_10)) ∨ (x22_10 = (⟨#[]⟩ : ByteArray)) then
   j15_multi_Usage B ro a0 a1 x4_1 x5_2 x19_7 x22_10 x27_11 x32_14 Q Y6 Y13 σ
  else
  c_ztree_Tree_Get B ro a0 x35_17 σ fun x51_20 x51_21a x51_21b x51_21c x51_21d x51_22 σ =>
  nw ro σ (.cells #[.int .i64 0, .int .i64 0, .int .i64 0, .int .i64 0] 32) fun x15_23 σ =>
  stN ⟨x15_23, 0, none⟩ (fun σ =>
   ∃ (x56_24 : Int), acell ro σ ⟨x5_2, 0, none⟩ = some (.int .i64 x56_24) ∧
   stN ⟨x5_2, 0, none⟩ (fun σ =>
    ∃ (x60_25 : Int), acell ro σ ((⟨x5_2, 0, none⟩ : Addr).add 1) = some (.int .i64 x60_25) ∧
    stN ((⟨x5_2, 0, none⟩ : Addr).add 1) (fun σ =>
     j15_multi_Usage B ro a0 a1 x4_1 x5_2 x19_7 x22_10 x27_11 x32_14 Q Y6 Y13 σ) [.int .i64 (IntKind.i64.wrap (x60_25 + (IntKind.i64.wrap ((x35_17.size : Int) + (x51_20.len : Int)))))] 0 σ) [.int .i64 (IntKind.i64.wrap (x56_24 + 1))] 0 σ) [.int .i64 x51_21a, .int .i64 x51_21b, .int .i64 x51_21c, .int .i64 x51_21d] 0 σ
 else
 j8_multi_Usage B ro a0 a1 x4_1 x5_2 x19_7 Q Y6 σ

def l6_multi_Usage (B : World) (ro : AH) (a0 : Option Addr) (a1 : Sl) (x4_1 : Nat) (x5_2 : Nat) (Q : Int → Int → AH → Prop) : (Int) → AH → ((Int) → AH → Prop) → Prop := fun x19_7 σ Y6 =>
 if x19_7 < (a1.len : Int) then
  ∃ p21_9 : Addr, a1.a = some p21_9 ∧ (0 : Int) ≤ x19_7 ∧ x19_7 < (a1.len : Int) ∧
  ∃ (x22_10 : ByteArray), acell ro σ (p21_9.add (Int.toNat x19_7 * 1)) = some (.string x22_10) ∧
  (⟨#[47]⟩ : ByteArray).size + x22_10.size ≤ 9223372036854775807 ∧
  c_ztree_Tree_Paths B ro a0 ((⟨#[47]⟩ : ByteArray) ++ x22_10) σ fun x27_11 x27_12 σ =>
  lfpD (l13_multi_Usage B ro a0 a1 x4_1 x5_2 x19_7 x22_10 x27_11 Q Y6 ) (0) σ
 else
 j3_multi_Usage B ro x4_1 x5_2 Q σ

def f_multi_Usage (B : World) (ro : AH) (a0 : Option Addr) (a1 : Sl) (σ : AH) (Q : Int → Int → AH → Prop) : Prop :=
 nw ro σ (.cells #[.int .i64 0, .int .i64 0] 69) fun x4_1 σ =>
 nw ro σ (.cells #[.int .i64 0, .int .i64 0] 69) fun x5_2 σ =>
 lfpD (l6_multi_Usage B ro a0 a1 x4_1 x5_2 Q ) (0) σ

set_option maxRecDepth 100000 in
set_option maxHeartbeats 4000000 in
theorem multi_Usage_ok {B : World} {ro : AH} {a0 : Option Addr} {a1 : Sl} {σ : AH} {Q : Int → Int → AH → Prop} (h : Sep ro σ → f_multi_Usage B ro a0 a1 σ Q) : c_multi_Usage B ro a0 a1 σ Q := by
  refine ACalls.of_sep fun hsep => ?_
  replace h := h hsep
  refine ACalls.of_body (args := [.pointer a0, Sl.v a1]) Tryz.func39 rfl (by rw [Tryz.ntmps39]; simp) ?_
  rw [Tryz.ntmps39]
  unfold f_multi_Usage at h
  refine AW.seq ?_
  refine AW.reg ?_
  refine Ls rfl rfl (X_new (A_alloc rfl ty69) fun x4_1 g1 g2 => ?_)
  replace h := h x4_1 g1 g2
  refine Lnil ?_
  refine thenN ?_
  refine AW.seq ?_
  refine AW.reg ?_
  refine Ls rfl rfl (X_new (A_alloc rfl ty69) fun x5_2 g1 g2 => ?_)
  replace h := h x5_2 g1 g2
  refine Lnil ?_
  refine thenN ?_
  refine AW.seqJ (fun fr σ => FrLe [(4, .pointer (some ⟨x4_1, 0, none⟩)), (5, .pointer (some ⟨x5_2, 0, none⟩))] fr ∧ j3_multi_Usage B ro x4_1 x5_2 Q σ) ?_ ?_
  · rintro fr σ ⟨hl, h⟩
    refine AW.weaken ?_ hl (HLe.refl _)
    unfold j3_multi_Usage at h
    refine AW.seq ?_
    refine AW.reg ?_
    obtain ⟨x70_4a, x70_4b, hc, h⟩ := h
    refine Ls rfl rfl (X_lda rfl Tryz.underlying69 rfl ty69 rfl hc ?_)
    refine Ls rfl rfl (X_st rfl ty69 rfl rfl rfl rfl (stN_mono h fun σ h => ?_))
    refine Lnil ?_
    refine thenN ?_
    refine AW.ret ?_
    obtain ⟨x4_5a, x4_5b, hc0, h⟩ := h
    exact bRM1 Tryz.results39 (rCons (rAgg rfl Tryz.underlying69 rfl ty69 hc0) rNil) ⟨_, _, rfl, h⟩
  refine AW.seq ?_
  refine AW.reg ?_
  refine Lp (V_move rfl rfl) rfl rfl ?_
  refine Lp (V_lenL rfl rfl Tryz.underlying25 rfl rfl) rfl rfl ?_
  refine Lp (V_move rfl rfl) rfl rfl ?_
  refine Lnil ?_
  refine thenN ?_
  refine AW.block ?_
  refine ARound.loop (fr' := [(0, .pointer a0), (4, .pointer (some ⟨x4_1, 0, none⟩)), (5, .pointer (some ⟨x5_2, 0, none⟩)), (17, Sl.v a1), (18, .int .i64 (a1.len : Int)), (19, .int .i64 0)]) ?_ (FrLe.cons rfl (FrLe.cons rfl (FrLe.cons rfl (FrLe.cons rfl (FrLe.cons rfl (FrLe.cons rfl (FrLe.nil _)))))))
  refine h (fun x19_7 σ => ARound _ _ _ _ _ _ [(0, .pointer a0), (4, .pointer (some ⟨x4_1, 0, none⟩)), (5, .pointer (some ⟨x5_2, 0, none⟩)), (17, Sl.v a1), (18, .int .i64 (a1.len : Int)), (19, .int .i64 x19_7)] σ) ?_
  rintro x19_7 σ Y6 hY6 h
  show AW _ _ _ _ _ _ _ _
  unfold l6_multi_Usage at h
  refine AW.seq ?_
  refine AW.reg ?_
  refine Lp (V_lss rfl rfl rfl) rfl rfl ?_
  refine Lnil ?_
  refine thenN ?_
  refine AW.seq ?_
  refine AW.iff rfl decide_eq_true_iff h (fun h => ?_) (fun h => ?_)
  rotate_left
  · refine AW.exit ?_
    refine thenE ?_
    refine thenE ?_
    refine blockE ?_
    refine thenN ?_
    exact ⟨(FrLe.cons rfl (FrLe.cons rfl (FrLe.nil _))), h⟩
  refine AW.skip ?_
  refine thenN ?_
  refine AW.seqJ (fun fr σ => FrLe [(0, .pointer a0), (4, .pointer (some ⟨x4_1, 0, none⟩)), (5, .pointer (some ⟨x5_2, 0, none⟩)), (17, Sl.v a1), (18, .int .i64 (a1.len : Int)), (19, .int .i64 x19_7)] fr ∧ j8_multi_Usage B ro a0 a1 x4_1 x5_2 x19_7 Q Y6 σ) ?_ ?_
  · rintro fr σ ⟨hl, h⟩
    refine AW.weaken ?_ hl (HLe.refl _)
    unfold j8_multi_Usage at h
    refine AW.reg ?_
    refine Lp (V_add rfl rfl rfl) rfl rfl ?_
    refine Lp (V_move rfl rfl) rfl rfl ?_
    refine Lnil ?_
    refine thenN ?_
    refine ARound.head (fr' := [(0, .pointer a0), (4, .pointer (some ⟨x4_1, 0, none⟩)), (5, .pointer (some ⟨x5_2, 0, none⟩)), (17, Sl.v a1), (18, .int .i64 (a1.len : Int)), (19, .int .i64 (IntKind.i64.wrap (x19_7 + 1)))]) ?_ (FrLe.cons rfl (FrLe.cons rfl (FrLe.cons rfl (FrLe.cons rfl (FrLe.cons rfl (FrLe.cons rfl (FrLe.nil _)))))))
    exact hY6 _ _ h
  refine AW.block ?_
  refine AW.seq ?_
  refine AW.reg ?_
  obtain ⟨p21_9, ha, h0, h1, h⟩ := h
  refine Lp (V_ixA rfl Tryz.underlying25 ty9 (ixL rfl ha) rfl h0 h1) rfl rfl ?_
  obtain ⟨x22_10, hc, h⟩ := h
  refine Ls rfl rfl (X_ld rfl Tryz.underlying9 rfl rfl hc ?_)
  refine Lp (V_asg rfl rfl) rfl rfl ?_
  refine Lnil ?_
  refine thenN ?_
  refine AW.seq ?_
  refine AW.reg ?_
  refine Lp (V_move rfl rfl) rfl rfl ?_
  refine Lp (V_move rfl rfl) rfl rfl ?_
  obtain ⟨hc, h⟩ := h
  refine Lp (V_cat rfl rfl rfl hc) rfl rfl ?_
  refine Ls rfl rfl (X_call rfl Tryz.func15 rfl rfl rfl (ACalls.mono h ?_))
  rintro v σ ⟨x27_11, x27_12, rfl, h⟩
  refine Lp (V_move rfl rfl) rfl rfl ?_
  refine Lp (V_ext rfl rfl rfl) rfl rfl ?_
  refine Lp (V_ext rfl rfl rfl) rfl rfl ?_
  refine Lp (V_asg rfl rfl) rfl rfl ?_
  refine Lp (V_asg rfl rfl) rfl rfl ?_
  refine Lnil ?_
  refine thenN ?_
  refine AW.seq ?_
  refine AW.reg ?_
  refine Lp (V_move rfl rfl) rfl rfl ?_
  refine Lp (V_lenL rfl rfl Tryz.underlying25 rfl rfl) rfl rfl ?_
  refine Lp (V_move rfl rfl) rfl rfl ?_
  refine Lnil ?_
  refine thenN ?_
  refine AW.block ?_
  refine ARound.loop (fr' := [(0, .pointer a0), (4, .pointer (some ⟨x4_1, 0, none⟩)), (5, .pointer (some ⟨x5_2, 0, none⟩)), (7, .string x22_10), (17, Sl.v a1), (18, .int .i64 (a1.len : Int)), (19, .int .i64 x19_7), (30, Sl.v x27_11), (31, .int .i64 (x27_11.len : Int)), (32, .int .i64 0)]) ?_ (FrLe.cons rfl (FrLe.cons rfl (FrLe.cons rfl (FrLe.cons rfl (FrLe.cons rfl (FrLe.cons rfl (FrLe.cons rfl (FrLe.cons rfl (FrLe.cons rfl (FrLe.cons rfl (FrLe.nil _)))))))))))
  refine h (fun x32_14 σ => ARound _ _ _ _ _ _ [(0, .pointer a0), (4, .pointer (some ⟨x4_1, 0, none⟩)), (5, .pointer (some ⟨x5_2, 0, none⟩)), (7, .string x22_10), (17, Sl.v a1), (18, .int .i64 (a1.len : Int)), (19, .int .i64 x19_7), (30, Sl.v x27_11), (31, .int .i64 (x27_11.len : Int)), (32, .int .i64 x32_14)] σ) ?_
  rintro x32_14 σ Y13 hY13 h
  show AW _ _ _ _ _ _ _ _
  unfold l13_multi_Usage at h
  refine AW.seq ?_
  refine AW.reg ?_
  refine Lp (V_lss rfl rfl rfl) rfl rfl ?_
  refine Lnil ?_
  refine thenN ?_
  refine AW.seq ?_
  refine AW.iff rfl decide_eq_true_iff h (fun h => ?_) (fun h => ?_)
  rotate_left
  · refine AW.exit ?_
    refine thenE ?_
    refine thenE ?_
    refine blockE ?_
    refine blockN ?_
    refine thenN ?_
    exact ⟨(FrLe.cons rfl (FrLe.cons rfl (FrLe.cons rfl (FrLe.cons rfl (FrLe.cons rfl (FrLe.cons rfl (FrLe.nil _))))))), h⟩
  refine AW.skip ?_
  refine thenN ?_
  refine AW.seqJ (fun fr σ => FrLe [(0, .pointer a0), (4, .pointer (some ⟨x4_1, 0, none⟩)), (5, .pointer (some ⟨x5_2, 0, none⟩)), (7, .string x22_10), (17, Sl.v a1), (18, .int .i64 (a1.len : Int)), (19, .int .i64 x19_7), (30, Sl.v x27_11), (31, .int .i64 (x27_11.len : Int)), (32, .int .i64 x32_14)] fr ∧ j15_multi_Usage B ro a0 a1 x4_1 x5_2 x19_7 x22_10 x27_11 x32_14 Q Y6 Y13 σ) ?_ ?_
  · rintro fr σ ⟨hl, h⟩
    refine AW.weaken ?_ hl (HLe.refl _)
    unfold j15_multi_Usage at h
    refine AW.reg ?_
    refine Lp (V_add rfl rfl rfl) rfl rfl ?_
    refine Lp (V_move rfl rfl) rfl rfl ?_
    refine Lnil ?_
    refine thenN ?_
    refine ARound.head (fr' := [(0, .pointer a0), (4, .pointer (some ⟨x4_1, 0, none⟩)), (5, .pointer (some ⟨x5_2, 0, none⟩)), (7, .string x22_10), (17, Sl.v a1), (18, .int .i64 (a1.len : Int)), (19, .int .i64 x19_7), (30, Sl.v x27_11), (31, .int .i64 (x27_11.len : Int)), (32, .int .i64 (IntKind.i64.wrap (x32_14 + 1)))]) ?_ (FrLe.cons rfl (FrLe.cons rfl (FrLe.cons rfl (FrLe.cons rfl (FrLe.cons rfl (FrLe.cons rfl (FrLe.cons rfl (FrLe.cons rfl (FrLe.cons rfl (FrLe.cons rfl (FrLe.nil _)))))))))))
    exact hY13 _ _ h
  refine AW.block ?_
  refine AW.seq ?_
  refine AW.reg ?_
  obtain ⟨p34_16, ha, h0, h1, h⟩ := h
  refine Lp (V_ixA rfl Tryz.underlying25 ty9 (ixL rfl ha) rfl h0 h1) rfl rfl ?_
  obtain ⟨x35_17, hc, h⟩ := h
  refine Ls rfl rfl (X_ld rfl Tryz.underlying9 rfl rfl hc ?_)
  refine Lp (V_asg rfl rfl) rfl rfl ?_
  refine Lnil ?_
  refine thenN ?_
  refine AW.seq ?_
  refine AW.seq ?_
  refine AW.reg ?_
  refine Lp (V_move rfl rfl) rfl rfl ?_
  refine Ls rfl rfl (X_call rfl Tryz.func97 rfl rfl rfl (ACalls.mono h ?_))
  rintro v σ ⟨x38_18, x38_19, rfl, h⟩
  refine Lp (V_move rfl rfl) rfl rfl ?_
  refine Lp (V_ext rfl rfl rfl) rfl rfl ?_
  refine Lp (V_ext rfl rfl rfl) rfl rfl ?_
  refine Lp (V_asg rfl rfl) rfl rfl ?_
  refine Lp (V_asg rfl rfl) rfl rfl ?_
  refine Lnil ?_
  refine thenN ?_
  refine AW.seq ?_
  refine AW.reg ?_
  refine Lp (V_move rfl rfl) rfl rfl ?_
  refine Lp (V_move rfl rfl) rfl rfl ?_
  refine Lp (V_neqS rfl rfl rfl) rfl rfl ?_
  refine Lp (V_move rfl rfl) rfl rfl ?_
  refine Lsplit 3 (!(decide (x38_18 = x22_10))) [(0, .pointer a0), (4, .pointer (some ⟨x4_1, 0, none⟩)), (5, .pointer (some ⟨x5_2, 0, none⟩)), (7, .string x22_10), (11, .string x35_17), (17, Sl.v a1), (18, .int .i64 (a1.len : Int)), (19, .int .i64 x19_7), (30, Sl.v x27_11), (31, .int .i64 (x27_11.len : Int)), (32, .int .i64 x32_14), (47, .bool ((!(decide (x38_18 = x22_10))) || (decide (x22_10 = (⟨#[]⟩ : ByteArray)))))] ?_ ?_ ?_
  · intro e3 hk3
    refine Ln rfl rfl rfl rfl (.inl (by rw [e3]; rfl)) ?_
    refine Ln rfl rfl rfl rfl (.inl (by rw [e3]; rfl)) ?_
    refine Lp (V_pickT rfl (evb e3) rfl) rfl rfl ?_
    exact hk3 _ (FrLe.cons rfl (FrLe.cons rfl (FrLe.cons rfl (FrLe.cons rfl (FrLe.cons rfl (FrLe.cons rfl (FrLe.cons rfl (FrLe.cons rfl (FrLe.cons rfl (FrLe.cons rfl (FrLe.cons rfl (FrLe.cons (by rw [e3]; rfl) (FrLe.nil _)))))))))))))
  · intro e3 hk3
    refine Lypb (V_move rfl rfl) rfl rfl rfl rfl e3 ?_
    refine Lypb (V_eqlS rfl rfl rfl) rfl rfl rfl rfl e3 ?_
    refine Lp (V_pickF rfl (evb e3) rfl) rfl rfl ?_
    exact hk3 _ (FrLe.cons rfl (FrLe.cons rfl (FrLe.cons rfl (FrLe.cons rfl (FrLe.cons rfl (FrLe.cons rfl (FrLe.cons rfl (FrLe.cons rfl (FrLe.cons rfl (FrLe.cons rfl (FrLe.cons rfl (FrLe.cons (by rw [e3]; rfl) (FrLe.nil _)))))))))))))
  intro fr hl
  refine Lfr hl ?_
  refine Lnil ?_
  refine thenN ?_
  refine AW.iff rfl (bor_iff (bnot_iff decide_eq_true_iff) decide_eq_true_iff) h (fun h => ?_) (fun h => ?_)
  · refine AW.exit ?_
    refine thenE ?_
    refine blockE ?_
    refine thenN ?_
    exact ⟨(FrLe.cons rfl (FrLe.cons rfl (FrLe.cons rfl (FrLe.cons rfl (FrLe.cons rfl (FrLe.cons rfl (FrLe.cons rfl (FrLe.cons rfl (FrLe.cons rfl (FrLe.cons rfl (FrLe.nil _))))))))))), h⟩
  refine AW.skip ?_
  refine thenN ?_
  refine AW.seq ?_
  refine AW.reg ?_
  refine Lp (V_move rfl rfl) rfl rfl ?_
  refine Lp (V_move rfl rfl) rfl rfl ?_
  refine Ls rfl rfl (X_call rfl Tryz.func17 rfl rfl rfl (ACalls.mono h ?_))
  rintro v σ ⟨x51_20, x51_21a, x51_21b, x51_21c, x51_21d, x51_22, rfl, h⟩
  refine Lp (V_move rfl rfl) rfl rfl ?_
  refine Lp (V_ext rfl rfl rfl) rfl rfl ?_
  refine Lp (V_ext rfl rfl rfl) rfl rfl ?_
  refine Lp (V_ext rfl rfl rfl) rfl rfl ?_
  refine Ls rfl rfl (X_new (A_alloc rfl ty32) fun x15_23 g1 g2 => ?_)
  replace h := h x15_23 g1 g2
  refine Lp (V_asg rfl rfl) rfl rfl ?_
  refine Ls rfl rfl (X_st rfl ty32 rfl rfl rfl rfl (stN_mono h fun σ h => ?_))
  refine Lp (V_asg rfl rfl) rfl rfl ?_
  refine Lnil ?_
  refine thenN ?_
  refine AW.seq ?_
  refine AW.reg ?_
  refine Lp (V_fld rfl Tryz.underlying69 rfl ty3 (by decide) rfl) rfl rfl ?_
  obtain ⟨x56_24, hc, h⟩ := h
  refine Ls rfl rfl (X_ld rfl Tryz.underlying3 rfl rfl hc ?_)
  refine Lp (V_add rfl rfl rfl) rfl rfl ?_
  refine Lp (V_fld rfl Tryz.underlying69 rfl ty3 (by decide) rfl) rfl rfl ?_
  refine Ls rfl rfl (X_st rfl ty3 rfl rfl rfl rfl (stN_mono h fun σ h => ?_))
  refine Lnil ?_
  refine thenN ?_
  refine AW.reg ?_
  refine Lp (V_fld rfl Tryz.underlying69 rfl ty3 (by decide) rfl) rfl rfl ?_
  obtain ⟨x60_25, hc, h⟩ := h
  refine Ls rfl rfl (X_ld rfl Tryz.underlying3 rfl rfl hc ?_)
  refine Lp (V_move rfl rfl) rfl rfl ?_
  refine Lp (V_lenS rfl rfl Tryz.underlying9 rfl rfl) rfl rfl ?_
  refine Lp (V_move rfl rfl) rfl rfl ?_
  refine Lp (V_lenL rfl rfl Tryz.underlying30 rfl rfl) rfl rfl ?_
  refine Lp (V_add rfl rfl rfl) rfl rfl ?_
  refine Lp (V_add rfl rfl rfl) rfl rfl ?_
  refine Lp (V_fld rfl Tryz.underlying69 rfl ty3 (by decide) rfl) rfl rfl ?_
  refine Ls rfl rfl (X_st rfl ty3 rfl rfl rfl rfl (stN_mono h fun σ h => ?_))
  refine Lnil ?_
  refine blockN ?_
  refine thenN ?_
  exact ⟨(FrLe.cons rfl (FrLe.cons rfl (FrLe.cons rfl (FrLe.cons rfl (FrLe.cons rfl (FrLe.cons rfl (FrLe.cons rfl (FrLe.cons rfl (FrLe.cons rfl (FrLe.cons rfl (FrLe.nil _))))))))))), h⟩

def j3_multi_Put (B : World) (ro : AH) (x10_1 : Option Addr) (Q : Sl → Int → AH → Prop) (σ : AH) : Prop :=
 c_wire_Writer_Out B ro x10_1 σ fun x65_4 x65_5 σ =>
 Q x65_4 x65_5 σ

def j16_multi_Put (B : World) (ro : AH) (a0 : Sl) (x6_10 : Nat) (x10_1 : Option Addr) (x18_7 : Int) (Q : Sl → Int → AH → Prop) (Y6 : (Int) → AH → Prop) (x39_17 : Bool) (σ : AH) : Prop :=
 if x39_17 = true then
  Q (⟨none, 0, 0⟩ : Sl) 80 σ
 else
 ∃ (x42_18 : Int), acell ro σ ⟨x6_10, 0, none⟩ = some (.int .i64 x42_18) ∧
 nw ro σ (.cells #[.int .i64 x42_18] 3) fun x43_19 σ =>
 c_wire_Writer_Nums B ro x10_1 (⟨some ⟨x43_19, 0, none⟩, 1, 1⟩ : Sl) σ fun σ =>
 ∃ (x47_20 : ByteArray), acell ro σ ((⟨x6_10, 0, none⟩ : Addr).add 1) = some (.string x47_20) ∧
 nw ro σ (.cells #[.string x47_20] 9) fun x48_21 σ =>
 c_wire_Writer_Texts B ro x10_1 (⟨some ⟨x48_21, 0, none⟩, 1, 1⟩ : Sl) σ fun σ =>
 ∃ (x52_22 : Sl), acell ro σ ((⟨x6_10, 0, none⟩ : Addr).add 2) = some (Sl.v x52_22) ∧
 nw ro σ (.cells #[Sl.v x52_22] 30) fun x53_23 σ =>
 c_wire_Writer_Blobs B ro x10_1 (⟨some ⟨x53_23, 0, none⟩, 1, 1⟩ : Sl) σ fun σ =>
 lent σ fun ψ σ =>
  ∃ (x57_24 : Int), acell (join ro ψ) (fun _ => none) ((⟨x6_10, 0, none⟩ : Addr).add 3) = some (.int .i64 x57_24) ∧
  ∃ (x59_25a : Int) (x59_25b : ByteArray) (x59_25c : Sl) (x59_25d : Int) (x59_25e : Bool) (x59_25f : Bool), cellsAt (join ro ψ) σ ⟨x6_10, 0, none⟩ 0 [.int .i64 x59_25a, .string x59_25b, Sl.v x59_25c, .int .i64 x59_25d, .bool x59_25e, .bool x59_25f] ∧
  c_multi_flags B (join ro ψ) x59_25a x59_25b x59_25c x59_25d x59_25e x59_25f σ fun x60_26 σ =>
  nw (join ro ψ) σ (.cells #[.int .i64 (IntKind.i64.wrap (x57_24 + 1)), .int .i64 x60_26] 3) fun x61_27 σ =>
  c_wire_Writer_Nums B (join ro ψ) x10_1 (⟨some ⟨x61_27, 0, none⟩, 2, 2⟩ : Sl) σ fun σ =>
  (Disj ψ σ → (fun σ => 
   Y6 (IntKind.i64.wrap (x18_7 + 1)) σ) (join ψ σ))

def j14_multi_Put (B : World) (ro : AH) (a0 : Sl) (x6_10 : Nat) (x10_1 : Option Addr) (x18_7 : Int) (Q : Sl → Int → AH → Prop) (Y6 : (Int) → AH → Prop) (x34_15 : Bool) (σ : AH) : Prop :=
 if x34_15 = true then
  j16_multi_Put B ro a0 x6_10 x10_1 x18_7 Q Y6 true σ
 else
 ∃ (x37_28 : Int), acell ro σ ((⟨x6_10, 0, none⟩ : Addr).add 3) = some (.int .i64 x37_28) ∧
 j16_multi_Put B ro a0 x6_10 x10_1 x18_7 Q Y6 (decide (4611686018427387903 ≤ x37_28)) σ

def j12_multi_Put (B : World) (ro : AH) (a0 : Sl) (x6_10 : Nat) (x10_1 : Option Addr) (x18_7 : Int) (Q : Sl → Int → AH → Prop) (Y6 : (Int) → AH → Prop) (x29_13 : Bool) (σ : AH) : Prop :=
 if x29_13 = true then
  j14_multi_Put B ro a0 x6_10 x10_1 x18_7 Q Y6 true σ
 else
 ∃ (x32_29 : Int), acell ro σ ((⟨x6_10, 0, none⟩ : Addr).add 3) = some (.int .i64 x32_29) ∧
 j14_multi_Put B ro a0 x6_10 x10_1 x18_7 Q Y6 (decide (x32_29 < (-1))) σ

def l6_multi_Put (B : World) (ro : AH) (a0 : Sl) (x10_1 : Option Addr) (Q : Sl → Int → AH → Prop) : (Int) → AH → ((Int) → AH → Prop) → Prop := fun x18_7 σ Y6 =>
 if x18_7 < (a0.len : Int) then
  ∃ p20_8 : Addr, a0.a = some p20_8 ∧ (0 : Int) ≤ x18_7 ∧ x18_7 < (a0.len : Int) ∧
  ∃ (x21_9a : Int) (x21_9b : ByteArray) (x21_9c : Sl) (x21_9d : Int) (x21_9e : Bool) (x21_9f : Bool), cellsAt ro σ (p20_8.add (Int.toNat x18_7 * 6)) 0 [.int .i64 x21_9a, .string x21_9b, Sl.v x21_9c, .int .i64 x21_9d, .bool x21_9e, .bool x21_9f] ∧
  nw ro σ (.cells #[.int .i64 0, .string ByteArray.empty, Sl.v (⟨none, 0, 0⟩ : Sl), .int .i64 0, .bool false, .bool false] 82) fun x6_10 σ =>
  stN ⟨x6_10, 0, none⟩ (fun σ =>
   ∃ (x23_11 : Int), acell ro σ ⟨x6_10, 0, none⟩ = some (.int .i64 x23_11) ∧
   if x23_11 < 1 then
    j12_multi_Put B ro a0 x6_10 x10_1 x18_7 Q Y6 true σ
   else
   ∃ (x27_30 : Int), acell ro σ ⟨x6_10, 0, none⟩ = some (.int .i64 x27_30) ∧
   j12_multi_Put B ro a0 x6_10 x10_1 x18_7 Q Y6 (decide (4 < x27_30)) σ) [.int .i64 x21_9a, .string x21_9b, Sl.v x21_9c, .int .i64 x21_9d, .bool x21_9e, .bool x21_9f] 0 σ
 else
 j3_multi_Put B ro x10_1 Q σ

def f_multi_Put (B : World) (ro : AH) (a0 : Sl) (σ : AH) (Q : Sl → Int → AH → Prop) : Prop :=
 if 16 < (a0.len : Int) then
  Q (⟨none, 0, 0⟩ : Sl) 80 σ
 else
 c_wire_NewWriter B ro σ fun x10_1 σ =>
 nw ro σ (.cells #[.int .i64 (a0.len : Int)] 3) fun x14_2 σ =>
 c_wire_Writer_Nums B ro x10_1 (⟨some ⟨x14_2, 0, none⟩, 1, 1⟩ : Sl) σ fun σ =>
 lfpD (l6_multi_Put B ro a0 x10_1 Q ) (0) σ

set_option maxRecDepth 100000 in
set_option maxHeartbeats 4000000 in
theorem multi_Put_ok {B : World} {ro : AH} {a0 : Sl} {σ : AH} {Q : Sl → Int → AH → Prop} (h : Sep ro σ → f_multi_Put B ro a0 σ Q) : c_multi_Put B ro a0 σ Q := by
  refine ACalls.of_sep fun hsep => ?_
  replace h := h hsep
  refine ACalls.of_body (args := [Sl.v a0]) Tryz.func50 rfl (by rw [Tryz.ntmps50]; simp) ?_
  rw [Tryz.ntmps50]
  unfold f_multi_Put at h
  refine AW.seq ?_
  refine AW.reg ?_
  refine Lp (V_asg rfl rfl) rfl rfl ?_
  refine Lp (V_asg rfl rfl) rfl rfl ?_
  refine Lnil ?_
  refine thenN ?_
  refine AW.seq ?_
  refine AW.seq ?_
  refine AW.reg ?_
  refine Lp (V_move rfl rfl) rfl rfl ?_
  refine Lp (V_lenL rfl rfl Tryz.underlying70 rfl rfl) rfl rfl ?_
  refine Lp (V_gtr rfl rfl rfl) rfl rfl ?_
  refine Lnil ?_
  refine thenN ?_
  refine AW.iff rfl decide_eq_true_iff h (fun h => ?_) (fun h => ?_)
  · refine AW.seq ?_
    refine AW.reg ?_
    refine Lp (V_asg rfl rfl) rfl rfl ?_
    refine Lp (V_asg rfl rfl) rfl rfl ?_
    refine Lnil ?_
    refine thenN ?_
    refine AW.ret ?_
    refine thenR ?_
    exact bR2 Tryz.results50 rfl rfl ⟨_, _, rfl, h⟩
  refine AW.skip ?_
  refine thenN ?_
  refine AW.seq ?_
  refine AW.reg ?_
  refine Ls rfl rfl (X_call rfl Tryz.func66 rfl rfl rfl (ACalls.mono h ?_))
  rintro v σ ⟨x10_1, rfl, h⟩
  refine Lp (V_asg rfl rfl) rfl rfl ?_
  refine Lnil ?_
  refine thenN ?_
  refine AW.seq ?_
  refine AW.reg ?_
  refine Lp (V_move rfl rfl) rfl rfl ?_
  refine Lp (V_move rfl rfl) rfl rfl ?_
  refine Lp (V_lenL rfl rfl Tryz.underlying70 rfl rfl) rfl rfl ?_
  refine Ls rfl rfl (X_new (A_bsl (vs := [(0, .int .i64 (a0.len : Int))]) (cs := #[.int .i64 (a0.len : Int)]) rfl Tryz.underlying58 ty3 (by decide) rfl rfl) fun x14_2 g1 g2 => ?_)
  replace h := h x14_2 g1 g2
  refine Ls rfl rfl (X_call rfl Tryz.func69 rfl rfl rfl (ACalls.mono h ?_))
  rintro v σ ⟨rfl, h⟩
  refine Lnil ?_
  refine thenN ?_
  refine AW.seqJ (fun fr σ => FrLe [(4, .pointer x10_1)] fr ∧ j3_multi_Put B ro x10_1 Q σ) ?_ ?_
  · rintro fr σ ⟨hl, h⟩
    refine AW.weaken ?_ hl (HLe.refl _)
    unfold j3_multi_Put at h
    refine AW.seq ?_
    refine AW.reg ?_
    refine Lp (V_move rfl rfl) rfl rfl ?_
    refine Ls rfl rfl (X_call rfl Tryz.func70 rfl rfl rfl (ACalls.mono h ?_))
    rintro v σ ⟨x65_4, x65_5, rfl, h⟩
    refine Lp (V_ext rfl rfl rfl) rfl rfl ?_
    refine Lp (V_ext rfl rfl rfl) rfl rfl ?_
    refine Lp (V_asg rfl rfl) rfl rfl ?_
    refine Lp (V_asg rfl rfl) rfl rfl ?_
    refine Lnil ?_
    refine thenN ?_
    refine AW.ret ?_
    exact bR2 Tryz.results50 rfl rfl ⟨_, _, rfl, h⟩
  refine AW.seq ?_
  refine AW.reg ?_
  refine Lp (V_move rfl rfl) rfl rfl ?_
  refine Lp (V_lenL rfl rfl Tryz.underlying70 rfl rfl) rfl rfl ?_
  refine Lp (V_move rfl rfl) rfl rfl ?_
  refine Lnil ?_
  refine thenN ?_
  refine AW.block ?_
  refine ARound.loop (fr' := [(4, .pointer x10_1), (16, Sl.v a0), (17, .int .i64 (a0.len : Int)), (18, .int .i64 0)]) ?_ (FrLe.cons rfl (FrLe.cons rfl (FrLe.cons rfl (FrLe.cons rfl (FrLe.nil _)))))
  refine h (fun x18_7 σ => ARound _ _ _ _ _ _ [(4, .pointer x10_1), (16, Sl.v a0), (17, .int .i64 (a0.len : Int)), (18, .int .i64 x18_7)] σ) ?_
  rintro x18_7 σ Y6 hY6 h
  show AW _ _ _ _ _ _ _ _
  unfold l6_multi_Put at h
  refine AW.seq ?_
  refine AW.reg ?_
  refine Lp (V_lss rfl rfl rfl) rfl rfl ?_
  refine Lnil ?_
  refine thenN ?_
  refine AW.seq ?_
  refine AW.iff rfl decide_eq_true_iff h (fun h => ?_) (fun h => ?_)
  rotate_left
  · refine AW.exit ?_
    refine thenE ?_
    refine thenE ?_
    refine blockE ?_
    refine thenN ?_
    exact ⟨(FrLe.cons rfl (FrLe.nil _)), h⟩
  refine AW.skip ?_
  refine thenN ?_
  refine AW.seq ?_
  refine AW.block ?_
  refine AW.seq ?_
  refine AW.reg ?_
  obtain ⟨p20_8, ha, h0, h1, h⟩ := h
  refine Lp (V_ixA rfl Tryz.underlying70 ty82 (ixL rfl ha) rfl h0 h1) rfl rfl ?_
  obtain ⟨x21_9a, x21_9b, x21_9c, x21_9d, x21_9e, x21_9f, hc, h⟩ := h
  refine Ls rfl rfl (X_lda rfl Tryz.underlying82 rfl ty82 rfl hc ?_)
  refine Ls rfl rfl (X_new (A_alloc rfl ty82) fun x6_10 g1 g2 => ?_)
  replace h := h x6_10 g1 g2
  refine Ls rfl rfl (X_st rfl ty82 rfl rfl rfl rfl (stN_mono h fun σ h => ?_))
  refine Lnil ?_
  refine thenN ?_
  refine AW.seq ?_
  refine AW.seq ?_
  refine AW.reg ?_
  refine Lp (V_fld rfl Tryz.underlying82 rfl ty3 (by decide) rfl) rfl rfl ?_
  obtain ⟨x23_11, hc, h⟩ := h
  refine Ls rfl rfl (X_ld rfl Tryz.underlying3 rfl rfl hc ?_)
  refine Lp (V_lss rfl rfl rfl) rfl rfl ?_
  refine Lp (V_move rfl rfl) rfl rfl ?_
  refine LsplitJ 4 (decide (x23_11 < 1)) decide_eq_true_iff h (fun fr σ => ∃ (x29_13 : Bool), FrLe [(4, .pointer x10_1), (6, .pointer (some ⟨x6_10, 0, none⟩)), (16, Sl.v a0), (17, .int .i64 (a0.len : Int)), (18, .int .i64 x18_7), (29, .bool x29_13)] fr ∧ j12_multi_Put B ro a0 x6_10 x10_1 x18_7 Q Y6 x29_13 σ) ?_ ?_ ?_
  · intro h e3 hk3
    refine Ln rfl rfl rfl rfl (.inl (by rw [e3]; rfl)) ?_
    refine Ln rfl rfl rfl rfl (.inl (by rw [e3]; rfl)) ?_
    refine Ln rfl rfl rfl rfl (.inl (by rw [e3]; rfl)) ?_
    refine Lp (V_pickT rfl (evb e3) rfl) rfl rfl ?_
    exact hk3 _ _ ⟨_, (FrLe.cons rfl (FrLe.cons rfl (FrLe.cons rfl (FrLe.cons rfl (FrLe.cons rfl (FrLe.cons rfl (FrLe.nil _))))))), h⟩
  · intro h e3 hk3
    refine Lypb (V_fld rfl Tryz.underlying82 rfl ty3 (by decide) rfl) rfl rfl rfl rfl e3 ?_
    obtain ⟨x27_30, hc, h⟩ := h
    refine Lyb rfl rfl rfl rfl e3 (X_ld rfl Tryz.underlying3 rfl rfl hc ?_)
    refine Lypb (V_gtr rfl rfl rfl) rfl rfl rfl rfl e3 ?_
    refine Lp (V_pickF rfl (evb e3) rfl) rfl rfl ?_
    exact hk3 _ _ ⟨_, (FrLe.cons rfl (FrLe.cons rfl (FrLe.cons rfl (FrLe.cons rfl (FrLe.cons rfl (FrLe.cons rfl (FrLe.nil _))))))), h⟩
  rintro fr σ ⟨x29_13, hl, h⟩
  unfold j12_multi_Put at h
  refine Lfr hl ?_
  refine Lp (V_move rfl rfl) rfl rfl ?_
  refine LsplitJ 4 x29_13 Iff.rfl h (fun fr σ => ∃ (x34_15 : Bool), FrLe [(4, .pointer x10_1), (6, .pointer (some ⟨x6_10, 0, none⟩)), (16, Sl.v a0), (17, .int .i64 (a0.len : Int)), (18, .int .i64 x18_7), (34, .bool x34_15)] fr ∧ j14_multi_Put B ro a0 x6_10 x10_1 x18_7 Q Y6 x34_15 σ) ?_ ?_ ?_
  · intro h e8 hk8
    refine Ln rfl rfl rfl rfl (.inl (by rw [e8]; rfl)) ?_
    refine Ln rfl rfl rfl rfl (.inl (by rw [e8]; rfl)) ?_
    refine Ln rfl rfl rfl rfl (.inl (by rw [e8]; rfl)) ?_
    refine Lp (V_pickT rfl (evb e8) rfl) rfl rfl ?_
    exact hk8 _ _ ⟨_, (FrLe.cons rfl (FrLe.cons rfl (FrLe.cons rfl (FrLe.cons rfl (FrLe.cons rfl (FrLe.cons rfl (FrLe.nil _))))))), h⟩
  · intro h e8 hk8
    refine Lypb (V_fld rfl Tryz.underlying82 rfl ty3 (by decide) rfl) rfl rfl rfl rfl e8 ?_
    obtain ⟨x32_29, hc, h⟩ := h
    refine Lyb rfl rfl rfl rfl e8 (X_ld rfl Tryz.underlying3 rfl rfl hc ?_)
    refine Lypb (V_lss rfl rfl rfl) rfl rfl rfl rfl e8 ?_
    refine Lp (V_pickF rfl (evb e8) rfl) rfl rfl ?_
    exact hk8 _ _ ⟨_, (FrLe.cons rfl (FrLe.cons rfl (FrLe.cons rfl (FrLe.cons rfl (FrLe.cons rfl (FrLe.cons rfl (FrLe.nil _))))))), h⟩
  rintro fr σ ⟨x34_15, hl, h⟩
  unfold j14_multi_Put at h
  refine Lfr hl ?_
  refine Lp (V_move rfl rfl) rfl rfl ?_
  refine LsplitJ 4 x34_15 Iff.rfl h (fun fr σ => ∃ (x39_17 : Bool), FrLe [(4, .pointer x10_1), (6, .pointer (some ⟨x6_10, 0, none⟩)), (16, Sl.v a0), (17, .int .i64 (a0.len : Int)), (18, .int .i64 x18_7), (39, .bool x39_17)] fr ∧ j16_multi_Put B ro a0 x6_10 x10_1 x18_7 Q Y6 x39_17 σ) ?_ ?_ ?_
  · intro h e13 hk13
    refine Ln rfl rfl rfl rfl (.inl (by rw [e13]; rfl)) ?_
    refine Ln rfl rfl rfl rfl (.inl (by rw [e13]; rfl)) ?_
    refine Ln rfl rfl rfl rfl (.inl (by rw [e13]; rfl)) ?_
    refine Lp (V_pickT rfl (evb e13) rfl) rfl rfl ?_
    exact hk13 _ _ ⟨_, (FrLe.cons rfl (FrLe.cons rfl (FrLe.cons rfl (FrLe.cons rfl (FrLe.cons rfl (FrLe.cons rfl (FrLe.nil _))))))), h⟩
  · intro h e13 hk13
    refine Lypb (V_fld rfl Tryz.underlying82 rfl ty3 (by decide) rfl) rfl rfl rfl rfl e13 ?_
    obtain ⟨x37_28, hc, h⟩ := h
    refine Lyb rfl rfl rfl rfl e13 (X_ld rfl Tryz.underlying3 rfl rfl hc ?_)
    refine Lypb (V_geq rfl rfl rfl) rfl rfl rfl rfl e13 ?_
    refine Lp (V_pickF rfl (evb e13) rfl) rfl rfl ?_
    exact hk13 _ _ ⟨_, (FrLe.cons rfl (FrLe.cons rfl (FrLe.cons rfl (FrLe.cons rfl (FrLe.cons rfl (FrLe.cons rfl (FrLe.nil _))))))), h⟩
  rintro fr σ ⟨x39_17, hl, h⟩
  unfold j16_multi_Put at h
  refine Lfr hl ?_
  refine Lnil ?_
  refine thenN ?_
  refine AW.iff rfl Iff.rfl h (fun h => ?_) (fun h => ?_)
  · refine AW.seq ?_
    refine AW.reg ?_
    refine Lp (V_asg rfl rfl) rfl rfl ?_
    refine Lp (V_asg rfl rfl) rfl rfl ?_
    refine Lnil ?_
    refine thenN ?_
    refine AW.ret ?_
    refine thenR ?_
    refine blockR ?_
    refine thenR ?_
    refine thenR ?_
    refine blockR ?_
    refine thenR ?_
    exact bR2 Tryz.results50 rfl rfl ⟨_, _, rfl, h⟩
  refine AW.skip ?_
  refine thenN ?_
  refine AW.seq ?_
  refine AW.reg ?_
  refine Lp (V_move rfl rfl) rfl rfl ?_
  refine Lp (V_fld rfl Tryz.underlying82 rfl ty3 (by decide) rfl) rfl rfl ?_
  obtain ⟨x42_18, hc, h⟩ := h
  refine Ls rfl rfl (X_ld rfl Tryz.underlying3 rfl rfl hc ?_)
  refine Ls rfl rfl (X_new (A_bsl (vs := [(0, .int .i64 x42_18)]) (cs := #[.int .i64 x42_18]) rfl Tryz.underlying58 ty3 (by decide) rfl rfl) fun x43_19 g1 g2 => ?_)
  replace h := h x43_19 g1 g2
  refine Ls rfl rfl (X_call rfl Tryz.func69 rfl rfl rfl (ACalls.mono h ?_))
  rintro v σ ⟨rfl, h⟩
  refine Lnil ?_
  refine thenN ?_
  refine AW.seq ?_
  refine AW.reg ?_
  refine Lp (V_move rfl rfl) rfl rfl ?_
  refine Lp (V_fld rfl Tryz.underlying82 rfl ty9 (by decide) rfl) rfl rfl ?_
  obtain ⟨x47_20, hc, h⟩ := h
  refine Ls rfl rfl (X_ld rfl Tryz.underlying9 rfl rfl hc ?_)
  refine Ls rfl rfl (X_new (A_bsl (vs := [(0, .string x47_20)]) (cs := #[.string x47_20]) rfl Tryz.underlying25 ty9 (by decide) rfl rfl) fun x48_21 g1 g2 => ?_)
  replace h := h x48_21 g1 g2
  refine Ls rfl rfl (X_call rfl Tryz.func67 rfl rfl rfl (ACalls.mono h ?_))
  rintro v σ ⟨rfl, h⟩
  refine Lnil ?_
  refine thenN ?_
  refine AW.seq ?_
  refine AW.reg ?_
  refine Lp (V_move rfl rfl) rfl rfl ?_
  refine Lp (V_fld rfl Tryz.underlying82 rfl ty30 (by decide) rfl) rfl rfl ?_
  obtain ⟨x52_22, hc, h⟩ := h
  refine Ls rfl rfl (X_ld rfl Tryz.underlying30 rfl rfl hc ?_)
  refine Ls rfl rfl (X_new (A_bsl (vs := [(0, Sl.v x52_22)]) (cs := #[Sl.v x52_22]) rfl Tryz.underlying208 ty30 (by decide) rfl rfl) fun x53_23 g1 g2 => ?_)
  replace h := h x53_23 g1 g2
  refine Ls rfl rfl (X_call rfl Tryz.func68 rfl rfl rfl (ACalls.mono h ?_))
  rintro v σ ⟨rfl, h⟩
  refine Lnil ?_
  refine thenN ?_
  refine AW.drawnL (fun i => ([0, 0, 0, 0, 3, 2, 1, 2] : List Nat).getD i 2) [(4, 5), (4, 6), (4, 7)] [0, 1, 2, 3, 4, 5, 6, 7] Tryz.mixed h (by decide +kernel) ?_
  clear h
  intro ψ σ h
  refine Dp rfl rfl rfl rfl (V_move rfl rfl) ?_
  refine Dp rfl rfl rfl rfl (V_fld rfl Tryz.underlying82 rfl ty3 (by decide) rfl) ?_
  obtain ⟨x57_24, hc, h⟩ := h
  refine Dp rfl rfl rfl rfl (V_ld rfl Tryz.underlying3 rfl rfl hc) ?_
  refine Dp rfl rfl rfl rfl (V_add rfl rfl rfl) ?_
  obtain ⟨x59_25a, x59_25b, x59_25c, x59_25d, x59_25e, x59_25f, hc, h⟩ := h
  refine Dr rfl rfl rfl rfl (R_lda rfl Tryz.underlying82 rfl ty82 rfl hc) ?_
  refine Dg rfl rfl rfl rfl (X_call rfl Tryz.func105 rfl rfl rfl (ACalls.mono h ?_))
  rintro v σ ⟨x60_26, rfl, h⟩
  refine Da rfl rfl rfl rfl (A_bsl (vs := [(0, .int .i64 (IntKind.i64.wrap (x57_24 + 1))), (1, .int .i64 x60_26)]) (cs := #[.int .i64 (IntKind.i64.wrap (x57_24 + 1)), .int .i64 x60_26]) rfl Tryz.underlying58 ty3 (by decide) rfl rfl) fun x61_27 g1 g2 => ?_
  replace h := h x61_27 g1 g2
  refine Dg rfl rfl rfl rfl (X_call rfl Tryz.func69 rfl rfl rfl (ACalls.mono h ?_))
  rintro v σ ⟨rfl, h⟩
  refine ⟨_, FrEq.refl _, fun hdj => ?_⟩
  replace h := h hdj
  refine blockN ?_
  refine thenN ?_
  refine AW.reg ?_
  refine Lp (V_add rfl rfl rfl) rfl rfl ?_
  refine Lp (V_move rfl rfl) rfl rfl ?_
  refine Lnil ?_
  refine thenN ?_
  refine ARound.head (fr' := [(4, .pointer x10_1), (16, Sl.v a0), (17, .int .i64 (a0.len : Int)), (18, .int .i64 (IntKind.i64.wrap (x18_7 + 1)))]) ?_ (FrLe.cons rfl (FrLe.cons rfl (FrLe.cons rfl (FrLe.cons rfl (FrLe.nil _)))))
  exact hY6 _ _ h

def j6_multi_Get (B : World) (ro : AH) (x6_4 : Sl) (Q : Sl → Int → AH → Prop) (x67_7 : Bool) (σ : AH) : Prop :=
 if x67_7 = true then
  Q (⟨none, 0, 0⟩ : Sl) 13 σ
 else
 Q x6_4 0 σ

def j3_multi_Get (B : World) (ro : AH) (x10_1 : Option Addr) (Q : Sl → Int → AH → Prop) (x6_4 : Sl) (σ : AH) : Prop :=
 c_wire_Reader_Err B ro x10_1 σ fun x61_5 σ =>
 if ¬ (x61_5 = 0) then
  j6_multi_Get B ro x6_4 Q true σ
 else
 c_wire_Reader_Left B ro x10_1 σ fun x65_8 σ =>
 j6_multi_Get B ro x6_4 Q (decide (0 < x65_8)) σ

def j21_multi_Get (B : World) (ro : AH) (x6_10 : Sl) (x7_16 : Nat) (x10_1 : Option Addr) (x12_2 : Int) (x16_11 : Int) (x29_17 : Int) (Q : Sl → Int → AH → Prop) (Y9 : (Sl × Int) → AH → Prop) (x50_22 : Bool) (σ : AH) : Prop :=
 if (x50_22 = true) ∨ (3 < x29_17) then
  Q (⟨none, 0, 0⟩ : Sl) 13 σ
 else
 ∃ (x56_23a : Int) (x56_23b : ByteArray) (x56_23c : Sl) (x56_23d : Int) (x56_23e : Bool) (x56_23f : Bool), cellsAt ro σ ⟨x7_16, 0, none⟩ 0 [.int .i64 x56_23a, .string x56_23b, Sl.v x56_23c, .int .i64 x56_23d, .bool x56_23e, .bool x56_23f] ∧
 nw ro σ (.cells #[.int .i64 x56_23a, .string x56_23b, Sl.v x56_23c, .int .i64 x56_23d, .bool x56_23e, .bool x56_23f] 82) fun x57_24 σ =>
 awp Tryz.prog ro (Builtin.append_ #[70, 70] 70 #[Sl.v x6_10, Sl.v (⟨some ⟨x57_24, 0, none⟩, 1, 1⟩ : Sl)]) (fun v σ => ∃ (x58_25 : Sl), v = Sl.v x58_25 ∧
  Y9 (x58_25, IntKind.i64.wrap (x16_11 + 1)) σ) σ

def j19_multi_Get (B : World) (ro : AH) (x6_10 : Sl) (x7_16 : Nat) (x10_1 : Option Addr) (x12_2 : Int) (x16_11 : Int) (x29_17 : Int) (Q : Sl → Int → AH → Prop) (Y9 : (Sl × Int) → AH → Prop) (x45_20 : Bool) (σ : AH) : Prop :=
 if x45_20 = true then
  j21_multi_Get B ro x6_10 x7_16 x10_1 x12_2 x16_11 x29_17 Q Y9 true σ
 else
 ∃ (x48_26 : Int), acell ro σ ⟨x7_16, 0, none⟩ = some (.int .i64 x48_26) ∧
 j21_multi_Get B ro x6_10 x7_16 x10_1 x12_2 x16_11 x29_17 Q Y9 (decide (4 < x48_26)) σ

def l9_multi_Get (B : World) (ro : AH) (x10_1 : Option Addr) (x12_2 : Int) (Q : Sl → Int → AH → Prop) : (Sl × Int) → AH → ((Sl × Int) → AH → Prop) → Prop := fun ⟨x6_10, x16_11⟩ σ Y9 =>
 if x16_11 < x12_2 then
  c_wire_Reader_Num B ro x10_1 σ fun x19_12 σ =>
  c_wire_Reader_Text B ro x10_1 σ fun x21_13 σ =>
  c_wire_Reader_Blob B ro x10_1 σ fun x23_14 σ =>
  c_wire_Reader_Num B ro x10_1 σ fun x25_15 σ =>
  nw ro σ (.cells #[.int .i64 0, .string ByteArray.empty, Sl.v (⟨none, 0, 0⟩ : Sl), .int .i64 0, .bool false, .bool false] 82) fun x7_16 σ =>
  stN ⟨x7_16, 0, none⟩ (fun σ =>
   c_wire_Reader_Num B ro x10_1 σ fun x29_17 σ =>
   stN ((⟨x7_16, 0, none⟩ : Addr).add 4) (fun σ =>
    stN ((⟨x7_16, 0, none⟩ : Addr).add 5) (fun σ =>
     c_wire_Reader_Err B ro x10_1 σ fun x39_18 σ =>
     if ¬ (x39_18 = 0) then
      j19_multi_Get B ro x6_10 x7_16 x10_1 x12_2 x16_11 x29_17 Q Y9 true σ
     else
     ∃ (x43_27 : Int), acell ro σ ⟨x7_16, 0, none⟩ = some (.int .i64 x43_27) ∧
     j19_multi_Get B ro x6_10 x7_16 x10_1 x12_2 x16_11 x29_17 Q Y9 (decide (x43_27 < 1)) σ) [.bool (!(decide ((bitAnd .i64 x29_17 2) = 0)))] 0 σ) [.bool (!(decide ((bitAnd .i64 x29_17 1) = 0)))] 0 σ) [.int .i64 x19_12, .string x21_13, Sl.v x23_14, .int .i64 (IntKind.i64.wrap (x25_15 - 1)), .bool false, .bool false] 0 σ
 else
 j3_multi_Get B ro x10_1 Q x6_10 σ

def f_multi_Get (B : World) (ro : AH) (a0 : Sl) (σ : AH) (Q : Sl → Int → AH → Prop) : Prop :=
 c_wire_NewReader B ro a0 σ fun x10_1 σ =>
 c_wire_Reader_Num B ro x10_1 σ fun x12_2 σ =>
 if 16 < x12_2 then
  Q (⟨none, 0, 0⟩ : Sl) 13 σ
 else
 lfpD (l9_multi_Get B ro x10_1 x12_2 Q ) ((⟨none, 0, 0⟩ : Sl), 0) σ

set_option maxRecDepth 100000 in
set_option maxHeartbeats 4000000 in
theorem multi_Get_ok {B : World} {ro : AH} {a0 : Sl} {σ : AH} {Q : Sl → Int → AH → Prop} (h : Sep ro σ → f_multi_Get B ro a0 σ Q) : c_multi_Get B ro a0 σ Q := by
  refine ACalls.of_sep fun hsep => ?_
  replace h := h hsep
  refine ACalls.of_body (args := [Sl.v a0]) Tryz.func52 rfl (by rw [Tryz.ntmps52]; simp) ?_
  rw [Tryz.ntmps52]
  unfold f_multi_Get at h
  refine AW.seq ?_
  refine AW.reg ?_
  refine Lp (V_asg rfl rfl) rfl rfl ?_
  refine Lp (V_asg rfl rfl) rfl rfl ?_
  refine Lnil ?_
  refine thenN ?_
  refine AW.seq ?_
  refine AW.reg ?_
  refine Lp (V_move rfl rfl) rfl rfl ?_
  refine Ls rfl rfl (X_call rfl Tryz.func74 rfl rfl rfl (ACalls.mono h ?_))
  rintro v σ ⟨x10_1, rfl, h⟩
  refine Lp (V_asg rfl rfl) rfl rfl ?_
  refine Lnil ?_
  refine thenN ?_
  refine AW.seq ?_
  refine AW.reg ?_
  refine Lp (V_move rfl rfl) rfl rfl ?_
  refine Ls rfl rfl (X_call rfl Tryz.func78 rfl rfl rfl (ACalls.mono h ?_))
  rintro v σ ⟨x12_2, rfl, h⟩
  refine Lp (V_asg rfl rfl) rfl rfl ?_
  refine Lnil ?_
  refine thenN ?_
  refine AW.seq ?_
  refine AW.seq ?_
  refine AW.reg ?_
  refine Lp (V_move rfl rfl) rfl rfl ?_
  refine Lp (V_gtr rfl rfl rfl) rfl rfl ?_
  refine Lnil ?_
  refine thenN ?_
  refine AW.iff rfl decide_eq_true_iff h (fun h => ?_) (fun h => ?_)
  · refine AW.seq ?_
    refine AW.reg ?_
    refine Lp (V_asg rfl rfl) rfl rfl ?_
    refine Lp (V_asg rfl rfl) rfl rfl ?_
    refine Lnil ?_
    refine thenN ?_
    refine AW.ret ?_
    refine thenR ?_
    exact bR2 Tryz.results52 rfl rfl ⟨_, _, rfl, h⟩
  refine AW.skip ?_
  refine thenN ?_
  refine AW.seq ?_
  refine AW.reg ?_
  refine Lp (V_asg rfl rfl) rfl rfl ?_
  refine Lnil ?_
  refine thenN ?_
  refine AW.seqJ (fun fr σ => ∃ (x6_4 : Sl), FrLe [(4, .pointer x10_1), (6, Sl.v x6_4)] fr ∧ j3_multi_Get B ro x10_1 Q x6_4 σ) ?_ ?_
  · rintro fr σ ⟨x6_4, hl, h⟩
    refine AW.weaken ?_ hl (HLe.refl _)
    unfold j3_multi_Get at h
    refine AW.seq ?_
    refine AW.seq ?_
    refine AW.reg ?_
    refine Lp (V_move rfl rfl) rfl rfl ?_
    refine Ls rfl rfl (X_call rfl Tryz.func79 rfl rfl rfl (ACalls.mono h ?_))
    rintro v σ ⟨x61_5, rfl, h⟩
    refine Lp (V_neq rfl rfl rfl) rfl rfl ?_
    refine Lp (V_move rfl rfl) rfl rfl ?_
    refine LsplitJ 4 (!(decide (x61_5 = 0))) (bnot_iff decide_eq_true_iff) h (fun fr σ => ∃ (x67_7 : Bool), FrLe [(6, Sl.v x6_4), (67, .bool x67_7)] fr ∧ j6_multi_Get B ro x6_4 Q x67_7 σ) ?_ ?_ ?_
    · intro h e3 hk3
      refine Ln rfl rfl rfl rfl (.inl (by rw [e3]; rfl)) ?_
      refine Ln rfl rfl rfl rfl (.inl (by rw [e3]; rfl)) ?_
      refine Ln rfl rfl rfl rfl (.inl (by rw [e3]; rfl)) ?_
      refine Lp (V_pickT rfl (evb e3) rfl) rfl rfl ?_
      exact hk3 _ _ ⟨_, (FrLe.cons rfl (FrLe.cons rfl (FrLe.nil _))), h⟩
    · intro h e3 hk3
      refine Lypb (V_move rfl rfl) rfl rfl rfl rfl e3 ?_
      refine Lyb rfl rfl rfl rfl e3 (X_call rfl Tryz.func75 rfl rfl rfl (ACalls.mono h ?_))
      rintro v σ ⟨x65_8, rfl, h⟩
      refine Lypb (V_gtr rfl rfl rfl) rfl rfl rfl rfl e3 ?_
      refine Lp (V_pickF rfl (evb e3) rfl) rfl rfl ?_
      exact hk3 _ _ ⟨_, (FrLe.cons rfl (FrLe.cons rfl (FrLe.nil _))), h⟩
    rintro fr σ ⟨x67_7, hl, h⟩
    unfold j6_multi_Get at h
    refine Lfr hl ?_
    refine Lnil ?_
    refine thenN ?_
    refine AW.iff rfl Iff.rfl h (fun h => ?_) (fun h => ?_)
    · refine AW.seq ?_
      refine AW.reg ?_
      refine Lp (V_asg rfl rfl) rfl rfl ?_
      refine Lp (V_asg rfl rfl) rfl rfl ?_
      refine Lnil ?_
      refine thenN ?_
      refine AW.ret ?_
      refine thenR ?_
      exact bR2 Tryz.results52 rfl rfl ⟨_, _, rfl, h⟩
    refine AW.skip ?_
    refine thenN ?_
    refine AW.seq ?_
    refine AW.reg ?_
    refine Lp (V_move rfl rfl) rfl rfl ?_
    refine Lp (V_asg rfl rfl) rfl rfl ?_
    refine Lp (V_asg rfl rfl) rfl rfl ?_
    refine Lnil ?_
    refine thenN ?_
    refine AW.ret ?_
    exact bR2 Tryz.results52 rfl rfl ⟨_, _, rfl, h⟩
  refine AW.seq ?_
  refine AW.reg ?_
  refine Lp (V_move rfl rfl) rfl rfl ?_
  refine Lp (V_move rfl rfl) rfl rfl ?_
  refine Lnil ?_
  refine thenN ?_
  refine AW.block ?_
  refine ARound.loop (fr' := [(4, .pointer x10_1), (15, .int .i64 x12_2), (6, Sl.v (⟨none, 0, 0⟩ : Sl)), (16, .int .i64 0)]) ?_ (FrLe.cons rfl (FrLe.cons rfl (FrLe.cons rfl (FrLe.cons rfl (FrLe.nil _)))))
  refine h (fun ⟨x6_10, x16_11⟩ σ => ARound _ _ _ _ _ _ [(4, .pointer x10_1), (15, .int .i64 x12_2), (6, Sl.v x6_10), (16, .int .i64 x16_11)] σ) ?_
  rintro ⟨x6_10, x16_11⟩ σ Y9 hY9 h
  show AW _ _ _ _ _ _ _ _
  unfold l9_multi_Get at h
  dsimp only at h
  refine AW.seq ?_
  refine AW.reg ?_
  refine Lp (V_lss rfl rfl rfl) rfl rfl ?_
  refine Lnil ?_
  refine thenN ?_
  refine AW.seq ?_
  refine AW.iff rfl decide_eq_true_iff h (fun h => ?_) (fun h => ?_)
  rotate_left
  · refine AW.exit ?_
    refine thenE ?_
    refine thenE ?_
    refine blockE ?_
    refine thenN ?_
    exact ⟨_, (FrLe.cons rfl (FrLe.cons rfl (FrLe.nil _))), h⟩
  refine AW.skip ?_
  refine thenN ?_
  refine AW.seq ?_
  refine AW.block ?_
  refine AW.seq ?_
  refine AW.reg ?_
  refine Lp (V_move rfl rfl) rfl rfl ?_
  refine Ls rfl rfl (X_call rfl Tryz.func78 rfl rfl rfl (ACalls.mono h ?_))
  rintro v σ ⟨x19_12, rfl, h⟩
  refine Lp (V_move rfl rfl) rfl rfl ?_
  refine Ls rfl rfl (X_call rfl Tryz.func76 rfl rfl rfl (ACalls.mono h ?_))
  rintro v σ ⟨x21_13, rfl, h⟩
  refine Lp (V_move rfl rfl) rfl rfl ?_
  refine Ls rfl rfl (X_call rfl Tryz.func77 rfl rfl rfl (ACalls.mono h ?_))
  rintro v σ ⟨x23_14, rfl, h⟩
  refine Lp (V_move rfl rfl) rfl rfl ?_
  refine Ls rfl rfl (X_call rfl Tryz.func78 rfl rfl rfl (ACalls.mono h ?_))
  rintro v σ ⟨x25_15, rfl, h⟩
  refine Lp (V_sub rfl rfl rfl) rfl rfl ?_
  refine Lp (V_bld (vs := [(0, .int .i64 x19_12), (1, .string x21_13), (2, Sl.v x23_14), (3, .int .i64 (IntKind.i64.wrap (x25_15 - 1)))]) (cs := #[.int .i64 x19_12, .string x21_13, Sl.v x23_14, .int .i64 (IntKind.i64.wrap (x25_15 - 1)), .bool false, .bool false]) rfl Tryz.underlying82 ty82 pl82 rfl rfl) rfl rfl ?_
  refine Ls rfl rfl (X_new (A_alloc rfl ty82) fun x7_16 g1 g2 => ?_)
  replace h := h x7_16 g1 g2
  refine Ls rfl rfl (X_st rfl ty82 rfl rfl rfl rfl (stN_mono h fun σ h => ?_))
  refine Lnil ?_
  refine thenN ?_
  refine AW.seq ?_
  refine AW.reg ?_
  refine Lp (V_move rfl rfl) rfl rfl ?_
  refine Ls rfl rfl (X_call rfl Tryz.func78 rfl rfl rfl (ACalls.mono h ?_))
  rintro v σ ⟨x29_17, rfl, h⟩
  refine Lp (V_asg rfl rfl) rfl rfl ?_
  refine Lnil ?_
  refine thenN ?_
  refine AW.seq ?_
  refine AW.reg ?_
  refine Lp (V_move rfl rfl) rfl rfl ?_
  refine Lp (V_and rfl rfl rfl) rfl rfl ?_
  refine Lp (V_neq rfl rfl rfl) rfl rfl ?_
  refine Lp (V_move rfl rfl) rfl rfl ?_
  refine Lp (V_and rfl rfl rfl) rfl rfl ?_
  refine Lp (V_neq rfl rfl rfl) rfl rfl ?_
  refine Lp (V_fld rfl Tryz.underlying82 rfl ty4 (by decide) rfl) rfl rfl ?_
  refine Ls rfl rfl (X_st rfl ty4 rfl rfl rfl rfl (stN_mono h fun σ h => ?_))
  refine Lp (V_fld rfl Tryz.underlying82 rfl ty4 (by decide) rfl) rfl rfl ?_
  refine Ls rfl rfl (X_st rfl ty4 rfl rfl rfl rfl (stN_mono h fun σ h => ?_))
  refine Lnil ?_
  refine thenN ?_
  refine AW.seq ?_
  refine AW.seq ?_
  refine AW.reg ?_
  refine Lp (V_move rfl rfl) rfl rfl ?_
  refine Ls rfl rfl (X_call rfl Tryz.func79 rfl rfl rfl (ACalls.mono h ?_))
  rintro v σ ⟨x39_18, rfl, h⟩
  refine Lp (V_neq rfl rfl rfl) rfl rfl ?_
  refine Lp (V_move rfl rfl) rfl rfl ?_
  refine LsplitJ 4 (!(decide (x39_18 = 0))) (bnot_iff decide_eq_true_iff) h (fun fr σ => ∃ (x45_20 : Bool), FrLe [(4, .pointer x10_1), (6, Sl.v x6_10), (7, .pointer (some ⟨x7_16, 0, none⟩)), (8, .int .i64 x29_17), (15, .int .i64 x12_2), (16, .int .i64 x16_11), (45, .bool x45_20)] fr ∧ j19_multi_Get B ro x6_10 x7_16 x10_1 x12_2 x16_11 x29_17 Q Y9 x45_20 σ) ?_ ?_ ?_
  · intro h e3 hk3
    refine Ln rfl rfl rfl rfl (.inl (by rw [e3]; rfl)) ?_
    refine Ln rfl rfl rfl rfl (.inl (by rw [e3]; rfl)) ?_
    refine Ln rfl rfl rfl rfl (.inl (by rw [e3]; rfl)) ?_
    refine Lp (V_pickT rfl (evb e3) rfl) rfl rfl ?_
    exact hk3 _ _ ⟨_, (FrLe.cons rfl (FrLe.cons rfl (FrLe.cons rfl (FrLe.cons rfl (FrLe.cons rfl (FrLe.cons rfl (FrLe.cons rfl (FrLe.nil _)))))))), h⟩
  · intro h e3 hk3
    refine Lypb (V_fld rfl Tryz.underlying82 rfl ty3 (by decide) rfl) rfl rfl rfl rfl e3 ?_
    obtain ⟨x43_27, hc, h⟩ := h
    refine Lyb rfl rfl rfl rfl e3 (X_ld rfl Tryz.underlying3 rfl rfl hc ?_)
    refine Lypb (V_lss rfl rfl rfl) rfl rfl rfl rfl e3 ?_
    refine Lp (V_pickF rfl (evb e3) rfl) rfl rfl ?_
    exact hk3 _ _ ⟨_, (FrLe.cons rfl (FrLe.cons rfl (FrLe.cons rfl (FrLe.cons rfl (FrLe.cons rfl (FrLe.cons rfl (FrLe.cons rfl (FrLe.nil _)))))))), h⟩
  rintro fr σ ⟨x45_20, hl, h⟩
  unfold j19_multi_Get at h
  refine Lfr hl ?_
  refine Lp (V_move rfl rfl) rfl rfl ?_
  refine LsplitJ 4 x45_20 Iff.rfl h (fun fr σ => ∃ (x50_22 : Bool), FrLe [(4, .pointer x10_1), (6, Sl.v x6_10), (7, .pointer (some ⟨x7_16, 0, none⟩)), (8, .int .i64 x29_17), (15, .int .i64 x12_2), (16, .int .i64 x16_11), (50, .bool x50_22)] fr ∧ j21_multi_Get B ro x6_10 x7_16 x10_1 x12_2 x16_11 x29_17 Q Y9 x50_22 σ) ?_ ?_ ?_
  · intro h e8 hk8
    refine Ln rfl rfl rfl rfl (.inl (by rw [e8]; rfl)) ?_
    refine Ln rfl rfl rfl rfl (.inl (by rw [e8]; rfl)) ?_
    refine Ln rfl rfl rfl rfl (.inl (by rw [e8]; rfl)) ?_
    refine Lp (V_pickT rfl (evb e8) rfl) rfl rfl ?_
    exact hk8 _ _ ⟨_, (FrLe.cons rfl (FrLe.cons rfl (FrLe.cons rfl (FrLe.cons rfl (FrLe.cons rfl (FrLe.cons rfl (FrLe.cons rfl (FrLe.nil _)))))))), h⟩
  · intro h e8 hk8
    refine Lypb (V_fld rfl Tryz.underlying82 rfl ty3 (by decide) rfl) rfl rfl rfl rfl e8 ?_
    obtain ⟨x48_26, hc, h⟩ := h
    refine Lyb rfl rfl rfl rfl e8 (X_ld rfl Tryz.underlying3 rfl rfl hc ?_)
    refine Lypb (V_gtr rfl rfl rfl) rfl rfl rfl rfl e8 ?_
    refine Lp (V_pickF rfl (evb e8) rfl) rfl rfl ?_
    exact hk8 _ _ ⟨_, (FrLe.cons rfl (FrLe.cons rfl (FrLe.cons rfl (FrLe.cons rfl (FrLe.cons rfl (FrLe.cons rfl (FrLe.cons rfl (FrLe.nil _)))))))), h⟩
  rintro fr σ ⟨x50_22, hl, h⟩
  unfold j21_multi_Get at h
  refine Lfr hl ?_
  refine Lp (V_move rfl rfl) rfl rfl ?_
  refine Lsplit 3 x50_22 [(4, .pointer x10_1), (6, Sl.v x6_10), (7, .pointer (some ⟨x7_16, 0, none⟩)), (15, .int .i64 x12_2), (16, .int .i64 x16_11), (54, .bool (x50_22 || (decide (3 < x29_17))))] ?_ ?_ ?_
  · intro e13 hk13
    refine Ln rfl rfl rfl rfl (.inl (by rw [e13]; rfl)) ?_
    refine Ln rfl rfl rfl rfl (.inl (by rw [e13]; rfl)) ?_
    refine Lp (V_pickT rfl (evb e13) rfl) rfl rfl ?_
    exact hk13 _ (FrLe.cons rfl (FrLe.cons rfl (FrLe.cons rfl (FrLe.cons rfl (FrLe.cons rfl (FrLe.cons (by rw [e13]; rfl) (FrLe.nil _)))))))
  · intro e13 hk13
    refine Lypb (V_move rfl rfl) rfl rfl rfl rfl e13 ?_
    refine Lypb (V_gtr rfl rfl rfl) rfl rfl rfl rfl e13 ?_
    refine Lp (V_pickF rfl (evb e13) rfl) rfl rfl ?_
    exact hk13 _ (FrLe.cons rfl (FrLe.cons rfl (FrLe.cons rfl (FrLe.cons rfl (FrLe.cons rfl (FrLe.cons (by rw [e13]; rfl) (FrLe.nil _)))))))
  intro fr hl
  refine Lfr hl ?_
  refine Lnil ?_
  refine thenN ?_
  refine AW.iff rfl (bor_iff Iff.rfl decide_eq_true_iff) h (fun h => ?_) (fun h => ?_)
  · refine AW.seq ?_
    refine AW.reg ?_
    refine Lp (V_asg rfl rfl) rfl rfl ?_
    refine Lp (V_asg rfl rfl) rfl rfl ?_
    refine Lnil ?_
    refine thenN ?_
    refine AW.ret ?_
    refine thenR ?_
    refine blockR ?_
    refine thenR ?_
    refine thenR ?_
    refine blockR ?_
    refine thenR ?_
    exact bR2 Tryz.results52 rfl rfl ⟨_, _, rfl, h⟩
  refine AW.skip ?_
  refine thenN ?_
  refine AW.reg ?_
  refine Lp (V_move rfl rfl) rfl rfl ?_
  obtain ⟨x56_23a, x56_23b, x56_23c, x56_23d, x56_23e, x56_23f, hc, h⟩ := h
  refine Ls rfl rfl (X_lda rfl Tryz.underlying82 rfl ty82 rfl hc ?_)
  refine Ls rfl rfl (X_new (A_bsl (vs := [(0, .agg #[.int .i64 x56_23a, .string x56_23b, Sl.v x56_23c, .int .i64 x56_23d, .bool x56_23e, .bool x56_23f])]) (cs := #[.int .i64 x56_23a, .string x56_23b, Sl.v x56_23c, .int .i64 x56_23d, .bool x56_23e, .bool x56_23f]) rfl Tryz.underlying70 ty82 (by decide) rfl rfl) fun x57_24 g1 g2 => ?_)
  replace h := h x57_24 g1 g2
  refine Ls rfl rfl (X_bi (s := Builtin.append_ #[70, 70] 70 #[Sl.v x6_10, Sl.v (⟨some ⟨x57_24, 0, none⟩, 1, 1⟩ : Sl)]) rfl rfl (fun _ => rfl) (awp_mono _ h ?_))
  rintro v σ ⟨x58_25, rfl, h⟩
  refine Lp (V_asg rfl rfl) rfl rfl ?_
  refine Lnil ?_
  refine blockN ?_
  refine thenN ?_
  refine AW.reg ?_
  refine Lp (V_add rfl rfl rfl) rfl rfl ?_
  refine Lp (V_move rfl rfl) rfl rfl ?_
  refine Lnil ?_
  refine thenN ?_
  refine ARound.head (fr' := [(4, .pointer x10_1), (15, .int .i64 x12_2), (6, Sl.v x58_25), (16, .int .i64 (IntKind.i64.wrap (x16_11 + 1)))]) ?_ (FrLe.cons rfl (FrLe.cons rfl (FrLe.cons rfl (FrLe.cons rfl (FrLe.nil _)))))
  exact hY9 _ _ h

def j17_multi_work_do (B : World) (ro : AH) (Q : Int → AH → Prop) (σ : AH) : Prop :=
 Q 0 σ

def j10_multi_work_do (B : World) (ro : AH) (a0 : Option Addr) (x3_1 : Nat) (x6_4 : Nat) (x8_7 : Nat) (Q : Int → AH → Prop) (σ : AH) : Prop :=
 ∃ p148_11 : Addr, a0 = some p148_11 ∧
 ∃ (x151_12 : Sl), acell ro σ p148_11 = some (Sl.v x151_12) ∧
 ∃ (x152_13a : ByteArray) (x152_13b : Int), cellsAt ro σ ⟨x6_4, 0, none⟩ 0 [.string x152_13a, .int .i64 x152_13b] ∧
 nw ro σ (.cells #[.string x152_13a, .int .i64 x152_13b] 84) fun x153_14 σ =>
 awp Tryz.prog ro (Builtin.append_ #[74, 74] 74 #[Sl.v x151_12, Sl.v (⟨some ⟨x153_14, 0, none⟩, 1, 1⟩ : Sl)]) (fun v σ => ∃ (x154_15 : Sl), v = Sl.v x154_15 ∧
  ∃ p155_16 : Addr, a0 = some p155_16 ∧
  stN p155_16 (fun σ =>
   ∃ (x159_18 : Int), acell ro σ ⟨x3_1, 0, none⟩ = some (.int .i64 x159_18) ∧
   if ¬ (x159_18 = 4) then
    ∃ p163_19 : Addr, a0 = some p163_19 ∧
    ∃ (x166_20 : Sl), acell ro σ (p163_19.add 1) = some (Sl.v x166_20) ∧
    ∃ (x167_21a : Int) (x167_21b : ByteArray), cellsAt ro σ ⟨x8_7, 0, none⟩ 0 [.int .i64 x167_21a, .string x167_21b] ∧
    nw ro σ (.cells #[.int .i64 x167_21a, .string x167_21b] 108) fun x168_22 σ =>
    awp Tryz.prog ro (Builtin.append_ #[75, 75] 75 #[Sl.v x166_20, Sl.v (⟨some ⟨x168_22, 0, none⟩, 1, 1⟩ : Sl)]) (fun v σ => ∃ (x169_23 : Sl), v = Sl.v x169_23 ∧
     ∃ p170_24 : Addr, a0 = some p170_24 ∧
     stN (p170_24.add 1) (fun σ =>
      j17_multi_work_do B ro Q σ) [Sl.v x169_23] 0 σ) σ
   else
   j17_multi_work_do B ro Q σ) [Sl.v x154_15] 0 σ) σ

def j35_multi_work_do (B : World) (ro : AH) (a0 : Option Addr) (x3_1 : Nat) (x6_4 : Nat) (x8_7 : Nat) (Q : Int → AH → Prop) (x145_36 : Bool) (σ : AH) : Prop :=
 if x145_36 = true then
  Q 81 σ
 else
 j10_multi_work_do B ro a0 x3_1 x6_4 x8_7 Q σ

def j26_multi_work_do (B : World) (ro : AH) (a0 : Option Addr) (x3_1 : Nat) (x6_4 : Nat) (x8_7 : Nat) (Q : Int → AH → Prop) (x117_27 : Bool) (σ : AH) : Prop :=
 if x117_27 = true then
  ∃ p119_28 : Addr, a0 = some p119_28 ∧
  ∃ p123_29 : Addr, a0 = some p123_29 ∧
  ∃ (x121_30 : Option Addr), acell ro σ (p119_28.add 3) = some (.pointer x121_30) ∧
  ∃ (x125_31 : ByteArray), acell ro σ (p123_29.add 4) = some (.string x125_31) ∧
  nw ro σ (.cells #[.string x125_31] 9) fun x126_32 σ =>
  c_multi_Usage B ro x121_30 (⟨some ⟨x126_32, 0, none⟩, 1, 1⟩ : Sl) σ fun x127_33a x127_33b σ =>
  nw ro σ (.cells #[.int .i64 0, .int .i64 0] 69) fun x11_34 σ =>
  stN ⟨x11_34, 0, none⟩ (fun σ =>
   ∃ p131_37 : Addr, a0 = some p131_37 ∧
   ∃ (x129_38 : Int), acell ro σ ⟨x11_34, 0, none⟩ = some (.int .i64 x129_38) ∧
   ∃ (x134_39 : Int), acell ro σ (p131_37.add 6) = some (.int .i64 x134_39) ∧
   if x134_39 < x129_38 then
    j35_multi_work_do B ro a0 x3_1 x6_4 x8_7 Q true σ
   else
   ∃ p140_40 : Addr, a0 = some p140_40 ∧
   ∃ (x138_41 : Int), acell ro σ ((⟨x11_34, 0, none⟩ : Addr).add 1) = some (.int .i64 x138_41) ∧
   ∃ (x143_42 : Int), acell ro σ ((p140_40.add 6).add 1) = some (.int .i64 x143_42) ∧
   j35_multi_work_do B ro a0 x3_1 x6_4 x8_7 Q (decide (x143_42 < x138_41)) σ) [.int .i64 x127_33a, .int .i64 x127_33b] 0 σ
 else
 j10_multi_work_do B ro a0 x3_1 x6_4 x8_7 Q σ

def j8_multi_work_do (B : World) (ro : AH) (a0 : Option Addr) (x3_1 : Nat) (x6_4 : Nat) (x8_7 : Nat) (Q : Int → AH → Prop) (x7_9 : Int) (σ : AH) : Prop :=
 if ¬ (x7_9 = 0) then
  Q x7_9 σ
 else
 ∃ (x111_25 : Int), acell ro σ ⟨x3_1, 0, none⟩ = some (.int .i64 x111_25) ∧
 if x111_25 = 1 then
  j26_multi_work_do B ro a0 x3_1 x6_4 x8_7 Q true σ
 else
 ∃ (x115_43 : Int), acell ro σ ⟨x3_1, 0, none⟩ = some (.int .i64 x115_43) ∧
 j26_multi_work_do B ro a0 x3_1 x6_4 x8_7 Q (decide (x115_43 = 3)) σ

def j45_multi_work_do (B : World) (ro : AH) (a0 : Option Addr) (x3_1 : Nat) (x6_4 : Nat) (x8_7 : Nat) (Q : Int → AH → Prop) (x9_46 : Int) (σ : AH) : Prop :=
 ∃ p35_47 : Addr, a0 = some p35_47 ∧
 ∃ (x37_48 : Option Addr), acell ro σ (p35_47.add 3) = some (.pointer x37_48) ∧
 ∃ (x39_49 : ByteArray), acell ro σ ((⟨x3_1, 0, none⟩ : Addr).add 1) = some (.string x39_49) ∧
 ∃ (x41_50 : Sl), acell ro σ ((⟨x3_1, 0, none⟩ : Addr).add 2) = some (Sl.v x41_50) ∧
 ∃ (x44_51 : Bool), acell ro σ ((⟨x3_1, 0, none⟩ : Addr).add 5) = some (.bool x44_51) ∧
 c_ztree_Tree_Create B ro x37_48 x39_49 x41_50 x9_46 x44_51 σ fun x45_52 x45_53 σ =>
 stN ⟨x6_4, 0, none⟩ (fun σ =>
  ∃ (x50_54 : ByteArray), acell ro σ ⟨x6_4, 0, none⟩ = some (.string x50_54) ∧
  stN ((⟨x8_7, 0, none⟩ : Addr).add 1) (fun σ =>
   j8_multi_work_do B ro a0 x3_1 x6_4 x8_7 Q x45_53 σ) [.string x50_54] 0 σ) [.string x45_52] 0 σ

def j79_multi_work_do (B : World) (ro : AH) (a0 : Option Addr) (x3_1 : Nat) (x6_4 : Nat) (x8_7 : Nat) (x89_76 : Int) (Q : Int → AH → Prop) (x106_80 : Bool) (σ : AH) : Prop :=
 if x106_80 = true then
  j8_multi_work_do B ro a0 x3_1 x6_4 x8_7 Q 72 σ
 else
 j8_multi_work_do B ro a0 x3_1 x6_4 x8_7 Q x89_76 σ

def j77_multi_work_do (B : World) (ro : AH) (a0 : Option Addr) (x3_1 : Nat) (x6_4 : Nat) (x8_7 : Nat) (x10_70 : Nat) (x89_76 : Int) (Q : Int → AH → Prop) (x99_78 : Bool) (σ : AH) : Prop :=
 if x99_78 = true then
  ∃ (x102_81 : Int), acell ro σ ((⟨x3_1, 0, none⟩ : Addr).add 3) = some (.int .i64 x102_81) ∧
  ∃ (x104_82 : Int), acell ro σ ⟨x10_70, 0, none⟩ = some (.int .i64 x104_82) ∧
  j79_multi_work_do B ro a0 x3_1 x6_4 x8_7 x89_76 Q (!(decide (x102_81 = x104_82))) σ
 else
 j79_multi_work_do B ro a0 x3_1 x6_4 x8_7 x89_76 Q false σ

def f_multi_work_do (B : World) (ro : AH) (a0 : Option Addr) (a1_0 : Int) (a1_1 : ByteArray) (a1_2 : Sl) (a1_3 : Int) (a1_4 : Bool) (a1_5 : Bool) (σ : AH) (Q : Int → AH → Prop) : Prop :=
 nw ro σ (.cells #[.int .i64 a1_0, .string a1_1, Sl.v a1_2, .int .i64 a1_3, .bool a1_4, .bool a1_5] 82) fun x3_1 σ =>
 ∃ (x13_2a : Int) (x13_2b : ByteArray) (x13_2c : Sl) (x13_2d : Int) (x13_2e : Bool) (x13_2f : Bool), cellsAt ro σ ⟨x3_1, 0, none⟩ 0 [.int .i64 x13_2a, .string x13_2b, Sl.v x13_2c, .int .i64 x13_2d, .bool x13_2e, .bool x13_2f] ∧
 c_multi_work_within B ro a0 x13_2a x13_2b x13_2c x13_2d x13_2e x13_2f σ fun x14_3 σ =>
 if ¬ (x14_3 = 0) then
  Q x14_3 σ
 else
 nw ro σ (.cells #[.string ByteArray.empty, .int .i64 0] 84) fun x6_4 σ =>
 ∃ (x19_5 : Int), acell ro σ ⟨x3_1, 0, none⟩ = some (.int .i64 x19_5) ∧
 ∃ (x21_6 : ByteArray), acell ro σ ((⟨x3_1, 0, none⟩ : Addr).add 1) = some (.string x21_6) ∧
 nw ro σ (.cells #[.int .i64 0, .string ByteArray.empty] 108) fun x8_7 σ =>
 stN ⟨x8_7, 0, none⟩ (fun σ =>
  ∃ (x24_44 : Int), acell ro σ ⟨x3_1, 0, none⟩ = some (.int .i64 x24_44) ∧
  if x24_44 = 1 then
   ∃ (x28_55 : Bool), acell ro σ ((⟨x3_1, 0, none⟩ : Addr).add 4) = some (.bool x28_55) ∧
   if x28_55 = true then
    ∃ p30_56 : Addr, a0 = some p30_56 ∧
    ∃ (x32_57 : Int), acell ro σ (p30_56.add 5) = some (.int .i64 x32_57) ∧
    j45_multi_work_do B ro a0 x3_1 x6_4 x8_7 Q x32_57 σ
   else
   j45_multi_work_do B ro a0 x3_1 x6_4 x8_7 Q 0 σ
  else
  if x24_44 = 2 then
   ∃ p55_58 : Addr, a0 = some p55_58 ∧
   ∃ (x57_59 : Option Addr), acell ro σ (p55_58.add 3) = some (.pointer x57_59) ∧
   ∃ (x59_60 : ByteArray), acell ro σ ((⟨x3_1, 0, none⟩ : Addr).add 1) = some (.string x59_60) ∧
   ∃ (x61_61 : Int), acell ro σ ((⟨x3_1, 0, none⟩ : Addr).add 3) = some (.int .i64 x61_61) ∧
   c_ztree_Tree_Delete B ro x57_59 x59_60 x61_61 σ fun x62_62 σ =>
   j8_multi_work_do B ro a0 x3_1 x6_4 x8_7 Q x62_62 σ
  else
  if x24_44 = 3 then
   ∃ p67_63 : Addr, a0 = some p67_63 ∧
   ∃ (x69_64 : Option Addr), acell ro σ (p67_63.add 3) = some (.pointer x69_64) ∧
   ∃ (x71_65 : ByteArray), acell ro σ ((⟨x3_1, 0, none⟩ : Addr).add 1) = some (.string x71_65) ∧
   ∃ (x73_66 : Sl), acell ro σ ((⟨x3_1, 0, none⟩ : Addr).add 2) = some (Sl.v x73_66) ∧
   ∃ (x75_67 : Int), acell ro σ ((⟨x3_1, 0, none⟩ : Addr).add 3) = some (.int .i64 x75_67) ∧
   c_ztree_Tree_Set B ro x69_64 x71_65 x73_66 x75_67 σ fun x76_68 x76_69 σ =>
   stN ((⟨x6_4, 0, none⟩ : Addr).add 1) (fun σ =>
    j8_multi_work_do B ro a0 x3_1 x6_4 x8_7 Q x76_69 σ) [.int .i64 x76_68] 0 σ
  else
  if x24_44 = 4 then
   nw ro σ (.cells #[.int .i64 0, .int .i64 0, .int .i64 0, .int .i64 0] 32) fun x10_70 σ =>
   ∃ p84_71 : Addr, a0 = some p84_71 ∧
   ∃ (x86_72 : Option Addr), acell ro σ (p84_71.add 3) = some (.pointer x86_72) ∧
   ∃ (x88_73 : ByteArray), acell ro σ ((⟨x3_1, 0, none⟩ : Addr).add 1) = some (.string x88_73) ∧
   c_ztree_Tree_Get B ro x86_72 x88_73 σ fun x89_74 x89_75a x89_75b x89_75c x89_75d x89_76 σ =>
   stN ⟨x10_70, 0, none⟩ (fun σ =>
    if x89_76 = 0 then
     ∃ (x97_83 : Int), acell ro σ ((⟨x3_1, 0, none⟩ : Addr).add 3) = some (.int .i64 x97_83) ∧
     j77_multi_work_do B ro a0 x3_1 x6_4 x8_7 x10_70 x89_76 Q (!(decide (x97_83 = (-1)))) σ
    else
    j77_multi_work_do B ro a0 x3_1 x6_4 x8_7 x10_70 x89_76 Q false σ) [.int .i64 x89_75a, .int .i64 x89_75b, .int .i64 x89_75c, .int .i64 x89_75d] 0 σ
  else
  j8_multi_work_do B ro a0 x3_1 x6_4 x8_7 Q 0 σ) [.int .i64 x19_5, .string x21_6] 0 σ

set_option maxRecDepth 100000 in
set_option maxHeartbeats 4000000 in
theorem multi_work_do_ok {B : World} {ro : AH} {a0 : Option Addr} {a1_0 : Int} {a1_1 : ByteArray} {a1_2 : Sl} {a1_3 : Int} {a1_4 : Bool} {a1_5 : Bool} {σ : AH} {Q : Int → AH → Prop} (h : Sep ro σ → f_multi_work_do B ro a0 a1_0 a1_1 a1_2 a1_3 a1_4 a1_5 σ Q) : c_multi_work_do B ro a0 a1_0 a1_1 a1_2 a1_3 a1_4 a1_5 σ Q := by
  refine ACalls.of_sep fun hsep => ?_
  replace h := h hsep
  refine ACalls.of_body (args := [.pointer a0, .agg #[.int .i64 a1_0, .string a1_1, Sl.v a1_2, .int .i64 a1_3, .bool a1_4, .bool a1_5]]) Tryz.func96 rfl (by rw [Tryz.ntmps96]; simp) ?_
  rw [Tryz.ntmps96]
  unfold f_multi_work_do at h
  refine AW.seq ?_
  refine AW.reg ?_
  refine Ls rfl rfl (X_new (A_box rfl rfl) fun x3_1 g1 g2 => ?_)
  replace h := h x3_1 g1 g2
  refine Lp (V_asg rfl rfl) rfl rfl ?_
  refine Lnil ?_
  refine thenN ?_
  refine AW.seq ?_
  refine AW.seq ?_
  refine AW.reg ?_
  refine Lp (V_move rfl rfl) rfl rfl ?_
  obtain ⟨x13_2a, x13_2b, x13_2c, x13_2d, x13_2e, x13_2f, hc, h⟩ := h
  refine Ls rfl rfl (X_lda rfl Tryz.underlying82 rfl ty82 rfl hc ?_)
  refine Ls rfl rfl (X_call rfl Tryz.func125 rfl rfl rfl (ACalls.mono h ?_))
  rintro v σ ⟨x14_3, rfl, h⟩
  refine Lp (V_asg rfl rfl) rfl rfl ?_
  refine Lnil ?_
  refine thenN ?_
  refine AW.seq ?_
  refine AW.reg ?_
  refine Lp (V_move rfl rfl) rfl rfl ?_
  refine Lp (V_neq rfl rfl rfl) rfl rfl ?_
  refine Lnil ?_
  refine thenN ?_
  refine AW.iff rfl (bnot_iff decide_eq_true_iff) h (fun h => ?_) (fun h => ?_)
  · refine AW.seq ?_
    refine AW.reg ?_
    refine Lp (V_move rfl rfl) rfl rfl ?_
    refine Lp (V_asg rfl rfl) rfl rfl ?_
    refine Lnil ?_
    refine thenN ?_
    refine AW.ret ?_
    refine thenR ?_
    exact bR1 Tryz.results96 rfl ⟨_, rfl, h⟩
  refine AW.skip ?_
  refine thenN ?_
  refine AW.seq ?_
  refine AW.reg ?_
  refine Ls rfl rfl (X_new (A_alloc rfl ty84) fun x6_4 g1 g2 => ?_)
  replace h := h x6_4 g1 g2
  refine Lnil ?_
  refine thenN ?_
  refine AW.seq ?_
  refine AW.reg ?_
  refine Lp (V_asg rfl rfl) rfl rfl ?_
  refine Lnil ?_
  refine thenN ?_
  refine AW.seq ?_
  refine AW.reg ?_
  refine Lp (V_fld rfl Tryz.underlying82 rfl ty3 (by decide) rfl) rfl rfl ?_
  obtain ⟨x19_5, hc, h⟩ := h
  refine Ls rfl rfl (X_ld rfl Tryz.underlying3 rfl rfl hc ?_)
  refine Lp (V_fld rfl Tryz.underlying82 rfl ty9 (by decide) rfl) rfl rfl ?_
  obtain ⟨x21_6, hc, h⟩ := h
  refine Ls rfl rfl (X_ld rfl Tryz.underlying9 rfl rfl hc ?_)
  refine Lp (V_bld (vs := [(0, .int .i64 x19_5), (1, .string x21_6)]) (cs := #[.int .i64 x19_5, .string x21_6]) rfl Tryz.underlying108 ty108 pl108 rfl rfl) rfl rfl ?_
  refine Ls rfl rfl (X_new (A_alloc rfl ty108) fun x8_7 g1 g2 => ?_)
  replace h := h x8_7 g1 g2
  refine Ls rfl rfl (X_st rfl ty108 rfl rfl rfl rfl (stN_mono h fun σ h => ?_))
  refine Lnil ?_
  refine thenN ?_
  refine AW.seqJ (fun fr σ => ∃ (x7_9 : Int), FrLe [(0, .pointer a0), (3, .pointer (some ⟨x3_1, 0, none⟩)), (6, .pointer (some ⟨x6_4, 0, none⟩)), (8, .pointer (some ⟨x8_7, 0, none⟩)), (7, .int .i64 x7_9)] fr ∧ j8_multi_work_do B ro a0 x3_1 x6_4 x8_7 Q x7_9 σ) ?_ ?_
  · rintro fr σ ⟨x7_9, hl, h⟩
    refine AW.weaken ?_ hl (HLe.refl _)
    unfold j8_multi_work_do at h
    refine AW.seq ?_
    refine AW.seq ?_
    refine AW.reg ?_
    refine Lp (V_move rfl rfl) rfl rfl ?_
    refine Lp (V_neq rfl rfl rfl) rfl rfl ?_
    refine Lnil ?_
    refine thenN ?_
    refine AW.iff rfl (bnot_iff decide_eq_true_iff) h (fun h => ?_) (fun h => ?_)
    · refine AW.seq ?_
      refine AW.reg ?_
      refine Lp (V_move rfl rfl) rfl rfl ?_
      refine Lp (V_asg rfl rfl) rfl rfl ?_
      refine Lnil ?_
      refine thenN ?_
      refine AW.ret ?_
      refine thenR ?_
      exact bR1 Tryz.results96 rfl ⟨_, rfl, h⟩
    refine AW.skip ?_
    refine thenN ?_
    refine AW.seqJ (fun fr σ => FrLe [(0, .pointer a0), (3, .pointer (some ⟨x3_1, 0, none⟩)), (6, .pointer (some ⟨x6_4, 0, none⟩)), (8, .pointer (some ⟨x8_7, 0, none⟩))] fr ∧ j10_multi_work_do B ro a0 x3_1 x6_4 x8_7 Q σ) ?_ ?_
    · rintro fr σ ⟨hl, h⟩
      refine AW.weaken ?_ hl (HLe.refl _)
      unfold j10_multi_work_do at h
      refine AW.seq ?_
      refine AW.drawn0 (fun i => ([0, 0, 0, 0, 0, 3, 3, 1, 2, 0, 0, 0, 2] : List Nat).getD i 2) [(6, 7), (6, 8)] [0, 1, 2, 3, 4, 5, 6, 7, 8, 9, 10, 11, 12] Tryz.mixed (by decide +kernel) ?_
      refine Dp rfl rfl rfl rfl (V_move rfl rfl) ?_
      refine Dp rfl rfl rfl rfl (V_move rfl rfl) ?_
      obtain ⟨p148_11, hc, h⟩ := h
      refine Dp rfl rfl rfl rfl (V_nil rfl (by rw [← hc]; rfl)) ?_
      refine Dp rfl rfl rfl rfl (V_fld rfl Tryz.underlying173 rfl ty77 (by decide) rfl) ?_
      refine Dp rfl rfl rfl rfl (V_fld rfl Tryz.underlying77 rfl ty74 (by decide) rfl) ?_
      obtain ⟨x151_12, hc, h⟩ := h
      refine Dr rfl rfl rfl rfl (R_ld rfl Tryz.underlying74 rfl rfl hc) ?_
      obtain ⟨x152_13a, x152_13b, hc, h⟩ := h
      refine Dr rfl rfl rfl rfl (R_lda rfl Tryz.underlying84 rfl ty84 rfl hc) ?_
      refine Da rfl rfl rfl rfl (A_bsl (vs := [(0, .agg #[.string x152_13a, .int .i64 x152_13b])]) (cs := #[.string x152_13a, .int .i64 x152_13b]) rfl Tryz.underlying74 ty84 (by decide) rfl rfl) fun x153_14 g1 g2 => ?_
      replace h := h x153_14 g1 g2
      refine Dg rfl rfl rfl rfl (X_bi (s := Builtin.append_ #[74, 74] 74 #[Sl.v x151_12, Sl.v (⟨some ⟨x153_14, 0, none⟩, 1, 1⟩ : Sl)]) rfl rfl (fun _ => rfl) (awp_mono _ h ?_))
      rintro v σ ⟨x154_15, rfl, h⟩
      obtain ⟨p155_16, hc, h⟩ := h
      refine Dp rfl rfl rfl rfl (V_nil rfl (by rw [← hc]; rfl)) ?_
      refine Dp rfl rfl rfl rfl (V_fld rfl Tryz.underlying173 rfl ty77 (by decide) rfl) ?_
      refine Dp rfl rfl rfl rfl (V_fld rfl Tryz.underlying77 rfl ty74 (by decide) rfl) ?_
      refine Dg rfl rfl rfl rfl (X_st rfl ty74 rfl rfl rfl rfl (stN_mono h fun σ h => ?_))
      refine Dend ?_
      refine thenN ?_
      refine AW.seqJ (fun fr σ => FrLe [] fr ∧ j17_multi_work_do B ro Q σ) ?_ ?_
      · rintro fr σ ⟨hl, h⟩
        refine AW.weaken ?_ hl (HLe.refl _)
        unfold j17_multi_work_do at h
        refine AW.seq ?_
        refine AW.reg ?_
        refine Lp (V_asg rfl rfl) rfl rfl ?_
        refine Lnil ?_
        refine thenN ?_
        refine AW.ret ?_
        exact bR1 Tryz.results96 rfl ⟨_, rfl, h⟩
      refine AW.seq ?_
      refine AW.reg ?_
      refine Lp (V_fld rfl Tryz.underlying82 rfl ty3 (by decide) rfl) rfl rfl ?_
      obtain ⟨x159_18, hc, h⟩ := h
      refine Ls rfl rfl (X_ld rfl Tryz.underlying3 rfl rfl hc ?_)
      refine Lp (V_neq rfl rfl rfl) rfl rfl ?_
      refine Lnil ?_
      refine thenN ?_
      refine AW.iff rfl (bnot_iff decide_eq_true_iff) h (fun h => ?_) (fun h => ?_)
      rotate_left
      · refine AW.skip ?_
        refine thenN ?_
        exact ⟨(FrLe.nil _), h⟩
      refine AW.drawn0 (fun i => ([0, 0, 0, 0, 0, 3, 3, 1, 2, 0, 0, 0, 2] : List Nat).getD i 2) [(6, 7), (6, 8)] [0, 1, 2, 3, 4, 5, 6, 7, 8, 9, 10, 11, 12] Tryz.mixed (by decide +kernel) ?_
      refine Dp rfl rfl rfl rfl (V_move rfl rfl) ?_
      refine Dp rfl rfl rfl rfl (V_move rfl rfl) ?_
      obtain ⟨p163_19, hc, h⟩ := h
      refine Dp rfl rfl rfl rfl (V_nil rfl (by rw [← hc]; rfl)) ?_
      refine Dp rfl rfl rfl rfl (V_fld rfl Tryz.underlying173 rfl ty77 (by decide) rfl) ?_
      refine Dp rfl rfl rfl rfl (V_fld rfl Tryz.underlying77 rfl ty75 (by decide) rfl) ?_
      obtain ⟨x166_20, hc, h⟩ := h
      refine Dr rfl rfl rfl rfl (R_ld rfl Tryz.underlying75 rfl rfl hc) ?_
      obtain ⟨x167_21a, x167_21b, hc, h⟩ := h
      refine Dr rfl rfl rfl rfl (R_lda rfl Tryz.underlying108 rfl ty108 rfl hc) ?_
      refine Da rfl rfl rfl rfl (A_bsl (vs := [(0, .agg #[.int .i64 x167_21a, .string x167_21b])]) (cs := #[.int .i64 x167_21a, .string x167_21b]) rfl Tryz.underlying75 ty108 (by decide) rfl rfl) fun x168_22 g1 g2 => ?_
      replace h := h x168_22 g1 g2
      refine Dg rfl rfl rfl rfl (X_bi (s := Builtin.append_ #[75, 75] 75 #[Sl.v x166_20, Sl.v (⟨some ⟨x168_22, 0, none⟩, 1, 1⟩ : Sl)]) rfl rfl (fun _ => rfl) (awp_mono _ h ?_))
      rintro v σ ⟨x169_23, rfl, h⟩
      obtain ⟨p170_24, hc, h⟩ := h
      refine Dp rfl rfl rfl rfl (V_nil rfl (by rw [← hc]; rfl)) ?_
      refine Dp rfl rfl rfl rfl (V_fld rfl Tryz.underlying173 rfl ty77 (by decide) rfl) ?_
      refine Dp rfl rfl rfl rfl (V_fld rfl Tryz.underlying77 rfl ty75 (by decide) rfl) ?_
      refine Dg rfl rfl rfl rfl (X_st rfl ty75 rfl rfl rfl rfl (stN_mono h fun σ h => ?_))
      refine Dend ?_
      refine thenN ?_
      exact ⟨(FrLe.nil _), h⟩
    refine AW.seq ?_
    refine AW.reg ?_
    refine Lp (V_fld rfl Tryz.underlying82 rfl ty3 (by decide) rfl) rfl rfl ?_
    obtain ⟨x111_25, hc, h⟩ := h
    refine Ls rfl rfl (X_ld rfl Tryz.underlying3 rfl rfl hc ?_)
    refine Lp (V_eql rfl rfl rfl) rfl rfl ?_
    refine Lp (V_move rfl rfl) rfl rfl ?_
    refine LsplitJ 4 (decide (x111_25 = 1)) decide_eq_true_iff h (fun fr σ => ∃ (x117_27 : Bool), FrLe [(0, .pointer a0), (3, .pointer (some ⟨x3_1, 0, none⟩)), (6, .pointer (some ⟨x6_4, 0, none⟩)), (8, .pointer (some ⟨x8_7, 0, none⟩)), (117, .bool x117_27)] fr ∧ j26_multi_work_do B ro a0 x3_1 x6_4 x8_7 Q x117_27 σ) ?_ ?_ ?_
    · intro h e3 hk3
      refine Ln rfl rfl rfl rfl (.inl (by rw [e3]; rfl)) ?_
      refine Ln rfl rfl rfl rfl (.inl (by rw [e3]; rfl)) ?_
      refine Ln rfl rfl rfl rfl (.inl (by rw [e3]; rfl)) ?_
      refine Lp (V_pickT rfl (evb e3) rfl) rfl rfl ?_
      exact hk3 _ _ ⟨_, (FrLe.cons rfl (FrLe.cons rfl (FrLe.cons rfl (FrLe.cons rfl (FrLe.cons rfl (FrLe.nil _)))))), h⟩
    · intro h e3 hk3
      refine Lypb (V_fld rfl Tryz.underlying82 rfl ty3 (by decide) rfl) rfl rfl rfl rfl e3 ?_
      obtain ⟨x115_43, hc, h⟩ := h
      refine Lyb rfl rfl rfl rfl e3 (X_ld rfl Tryz.underlying3 rfl rfl hc ?_)
      refine Lypb (V_eql rfl rfl rfl) rfl rfl rfl rfl e3 ?_
      refine Lp (V_pickF rfl (evb e3) rfl) rfl rfl ?_
      exact hk3 _ _ ⟨_, (FrLe.cons rfl (FrLe.cons rfl (FrLe.cons rfl (FrLe.cons rfl (FrLe.cons rfl (FrLe.nil _)))))), h⟩
    rintro fr σ ⟨x117_27, hl, h⟩
    unfold j26_multi_work_do at h
    refine Lfr hl ?_
    refine Lnil ?_
    refine thenN ?_
    refine AW.iff rfl Iff.rfl h (fun h => ?_) (fun h => ?_)
    rotate_left
    · refine AW.skip ?_
      refine thenN ?_
      exact ⟨(FrLe.cons rfl (FrLe.cons rfl (FrLe.cons rfl (FrLe.cons rfl (FrLe.nil _))))), h⟩
    refine AW.seq ?_
    refine AW.drawn0 (fun i => ([0, 0, 0, 3, 0, 0, 0, 3, 1, 2, 1, 2] : List Nat).getD i 2) [(7, 8), (7, 9)] [0, 1, 2, 4, 5, 6, 3, 7, 8, 9, 10, 11] Tryz.mixed (by decide +kernel) ?_
    refine Dp rfl rfl rfl rfl (V_move rfl rfl) ?_
    obtain ⟨p119_28, hc, h⟩ := h
    refine Dp rfl rfl rfl rfl (V_nil rfl (by rw [← hc]; rfl)) ?_
    refine Dp rfl rfl rfl rfl (V_fld rfl Tryz.underlying173 rfl ty23 (by decide) rfl) ?_
    refine Dp rfl rfl rfl rfl (V_move rfl rfl) ?_
    obtain ⟨p123_29, hc, h⟩ := h
    refine Dp rfl rfl rfl rfl (V_nil rfl (by rw [← hc]; rfl)) ?_
    refine Dp rfl rfl rfl rfl (V_fld rfl Tryz.underlying173 rfl ty9 (by decide) rfl) ?_
    obtain ⟨x121_30, hc, h⟩ := h
    refine Dr rfl rfl rfl rfl (R_ld rfl Tryz.underlying23 rfl rfl hc) ?_
    obtain ⟨x125_31, hc, h⟩ := h
    refine Dr rfl rfl rfl rfl (R_ld rfl Tryz.underlying9 rfl rfl hc) ?_
    refine Da rfl rfl rfl rfl (A_bsl (vs := [(0, .string x125_31)]) (cs := #[.string x125_31]) rfl Tryz.underlying25 ty9 (by decide) rfl rfl) fun x126_32 g1 g2 => ?_
    replace h := h x126_32 g1 g2
    refine Dg rfl rfl rfl rfl (X_call rfl Tryz.func39 rfl rfl rfl (ACalls.mono h ?_))
    rintro v σ ⟨x127_33a, x127_33b, rfl, h⟩
    refine Da rfl rfl rfl rfl (A_alloc rfl ty69) fun x11_34 g1 g2 => ?_
    replace h := h x11_34 g1 g2
    refine Dg rfl rfl rfl rfl (X_st rfl ty69 rfl rfl rfl rfl (stN_mono h fun σ h => ?_))
    refine Dend ?_
    refine thenN ?_
    refine AW.seqJ (fun fr σ => ∃ (x145_36 : Bool), FrLe [(0, .pointer a0), (3, .pointer (some ⟨x3_1, 0, none⟩)), (6, .pointer (some ⟨x6_4, 0, none⟩)), (8, .pointer (some ⟨x8_7, 0, none⟩)), (145, .bool x145_36)] fr ∧ j35_multi_work_do B ro a0 x3_1 x6_4 x8_7 Q x145_36 σ) ?_ ?_
    · rintro fr σ ⟨x145_36, hl, h⟩
      refine AW.weaken ?_ hl (HLe.refl _)
      unfold j35_multi_work_do at h
      refine AW.iff rfl Iff.rfl h (fun h => ?_) (fun h => ?_)
      rotate_left
      · refine AW.skip ?_
        refine thenN ?_
        exact ⟨(FrLe.cons rfl (FrLe.cons rfl (FrLe.cons rfl (FrLe.cons rfl (FrLe.nil _))))), h⟩
      refine AW.seq ?_
      refine AW.reg ?_
      refine Lp (V_asg rfl rfl) rfl rfl ?_
      refine Lnil ?_
      refine thenN ?_
      refine AW.ret ?_
      refine thenR ?_
      exact bR1 Tryz.results96 rfl ⟨_, rfl, h⟩
    refine AW.drawn0 (fun i => ([0, 3, 0, 0, 0, 0, 3, 0, 0, 0, 3, 0, 0, 0, 0, 3, 0, 0] : List Nat).getD i 2) [] [0, 2, 3, 4, 5, 1, 6, 7, 8, 9, 11, 12, 13, 14, 10, 15, 16, 17] Tryz.mixed (by decide +kernel) ?_
    refine Dp rfl rfl rfl rfl (V_fld rfl Tryz.underlying69 rfl ty3 (by decide) rfl) ?_
    refine Dp rfl rfl rfl rfl (V_move rfl rfl) ?_
    obtain ⟨p131_37, hc, h⟩ := h
    refine Dp rfl rfl rfl rfl (V_nil rfl (by rw [← hc]; rfl)) ?_
    refine Dp rfl rfl rfl rfl (V_fld rfl Tryz.underlying173 rfl ty69 (by decide) rfl) ?_
    refine Dp rfl rfl rfl rfl (V_fld rfl Tryz.underlying69 rfl ty3 (by decide) rfl) ?_
    obtain ⟨x129_38, hc, h⟩ := h
    refine Dr rfl rfl rfl rfl (R_ld rfl Tryz.underlying3 rfl rfl hc) ?_
    obtain ⟨x134_39, hc, h⟩ := h
    refine Dr rfl rfl rfl rfl (R_ld rfl Tryz.underlying3 rfl rfl hc) ?_
    refine Dp rfl rfl rfl rfl (V_gtr rfl rfl rfl) ?_
    refine Dp rfl rfl rfl rfl (V_move rfl rfl) ?_
    refine splitP (decide (x134_39 < x129_38)) decide_eq_true_iff h ?_ ?_
    · intro h e8
      refine Dpn rfl rfl rfl rfl rfl (.inl (by rw [e8]; rfl)) rfl ?_
      refine Dpn rfl rfl rfl rfl rfl (.inl (by rw [e8]; rfl)) rfl ?_
      refine Dpn rfl rfl rfl rfl rfl (.inl (by rw [e8]; rfl)) rfl ?_
      refine Dpn rfl rfl rfl rfl rfl (.inl (by rw [e8]; rfl)) rfl ?_
      refine Dpn rfl rfl rfl rfl rfl (.inl (by rw [e8]; rfl)) rfl ?_
      refine Drn rfl rfl rfl rfl rfl (.inl (by rw [e8]; rfl)) rfl ?_
      refine Drn rfl rfl rfl rfl rfl (.inl (by rw [e8]; rfl)) rfl ?_
      refine Dpn rfl rfl rfl rfl rfl (.inl (by rw [e8]; rfl)) rfl ?_
      refine Dp rfl rfl rfl rfl (V_pickT rfl (evb e8) rfl) ?_
      refine Dend ?_
      refine thenN ?_
      exact ⟨_, (FrLe.cons rfl (FrLe.cons rfl (FrLe.cons rfl (FrLe.cons rfl (FrLe.cons rfl (FrLe.nil _)))))), h⟩
    intro h e8
    refine Dpy rfl rfl rfl rfl rfl e8 rfl (V_fld rfl Tryz.underlying69 rfl ty3 (by decide) rfl) ?_
    refine Dpy rfl rfl rfl rfl rfl e8 rfl (V_move rfl rfl) ?_
    obtain ⟨p140_40, hc, h⟩ := h
    refine Dpy rfl rfl rfl rfl rfl e8 rfl (V_nil rfl (by rw [← hc]; rfl)) ?_
    refine Dpy rfl rfl rfl rfl rfl e8 rfl (V_fld rfl Tryz.underlying173 rfl ty69 (by decide) rfl) ?_
    refine Dpy rfl rfl rfl rfl rfl e8 rfl (V_fld rfl Tryz.underlying69 rfl ty3 (by decide) rfl) ?_
    obtain ⟨x138_41, hc, h⟩ := h
    refine Dry rfl rfl rfl rfl rfl e8 rfl (R_ld rfl Tryz.underlying3 rfl rfl hc) ?_
    obtain ⟨x143_42, hc, h⟩ := h
    refine Dry rfl rfl rfl rfl rfl e8 rfl (R_ld rfl Tryz.underlying3 rfl rfl hc) ?_
    refine Dpy rfl rfl rfl rfl rfl e8 rfl (V_gtr rfl rfl rfl) ?_
    refine Dp rfl rfl rfl rfl (V_pickF rfl (evb e8) rfl) ?_
    refine Dend ?_
    refine thenN ?_
    exact ⟨_, (FrLe.cons rfl (FrLe.cons rfl (FrLe.cons rfl (FrLe.cons rfl (FrLe.cons rfl (FrLe.nil _)))))), h⟩
  refine AW.seq ?_
  refine AW.reg ?_
  refine Lp (V_fld rfl Tryz.underlying82 rfl ty3 (by decide) rfl) rfl rfl ?_
  obtain ⟨x24_44, hc, h⟩ := h
  refine Ls rfl rfl (X_ld rfl Tryz.underlying3 rfl rfl hc ?_)
  refine Lnil ?_
  refine thenN ?_
  refine AW.block ?_
  refine AW.seq ?_
  refine AW.reg ?_
  refine Lp (V_eql rfl rfl rfl) rfl rfl ?_
  refine Lp (V_asg rfl rfl) rfl rfl ?_
  refine Lnil ?_
  refine thenN ?_
  refine AW.iff rfl decide_eq_true_iff h (fun h => ?_) (fun h => ?_)
  · refine AW.seq ?_
    refine AW.reg ?_
    refine Lp (V_asg rfl rfl) rfl rfl ?_
    refine Lnil ?_
    refine thenN ?_
    refine AW.seqJ (fun fr σ => ∃ (x9_46 : Int), FrLe [(0, .pointer a0), (3, .pointer (some ⟨x3_1, 0, none⟩)), (6, .pointer (some ⟨x6_4, 0, none⟩)), (8, .pointer (some ⟨x8_7, 0, none⟩)), (9, .int .i64 x9_46)] fr ∧ j45_multi_work_do B ro a0 x3_1 x6_4 x8_7 Q x9_46 σ) ?_ ?_
    rotate_left
    · refine AW.seq ?_
      refine AW.reg ?_
      refine Lp (V_fld rfl Tryz.underlying82 rfl ty4 (by decide) rfl) rfl rfl ?_
      obtain ⟨x28_55, hc, h⟩ := h
      refine Ls rfl rfl (X_ld rfl Tryz.underlying4 rfl rfl hc ?_)
      refine Lnil ?_
      refine thenN ?_
      refine AW.iff rfl Iff.rfl h (fun h => ?_) (fun h => ?_)
      rotate_left
      · refine AW.skip ?_
        refine thenN ?_
        exact ⟨_, (FrLe.cons rfl (FrLe.cons rfl (FrLe.cons rfl (FrLe.cons rfl (FrLe.cons rfl (FrLe.nil _)))))), h⟩
      refine AW.reg ?_
      refine Lp (V_move rfl rfl) rfl rfl ?_
      obtain ⟨p30_56, hc, h⟩ := h
      refine Lp (V_nil rfl (by rw [← hc]; rfl)) rfl rfl ?_
      refine Lp (V_fld rfl Tryz.underlying173 rfl ty3 (by decide) rfl) rfl rfl ?_
      obtain ⟨x32_57, hc, h⟩ := h
      refine Ls rfl rfl (X_ld rfl Tryz.underlying3 rfl rfl hc ?_)
      refine Lp (V_asg rfl rfl) rfl rfl ?_
      refine Lnil ?_
      refine thenN ?_
      exact ⟨_, (FrLe.cons rfl (FrLe.cons rfl (FrLe.cons rfl (FrLe.cons rfl (FrLe.cons rfl (FrLe.nil _)))))), h⟩
    rintro fr σ ⟨x9_46, hl, h⟩
    refine AW.weaken ?_ hl (HLe.refl _)
    unfold j45_multi_work_do at h
    refine AW.seq ?_
    refine AW.drawn0 (fun i => ([0, 0, 0, 3, 0, 3, 0, 3, 0, 0, 3, 2, 0, 0, 0, 0, 2, 0] : List Nat).getD i 2) [] [0, 1, 2, 4, 6, 8, 9, 3, 5, 7, 10, 11, 12, 13, 14, 15, 16, 17] Tryz.mixed (by decide +kernel) ?_
    refine Dp rfl rfl rfl rfl (V_move rfl rfl) ?_
    obtain ⟨p35_47, hc, h⟩ := h
    refine Dp rfl rfl rfl rfl (V_nil rfl (by rw [← hc]; rfl)) ?_
    refine Dp rfl rfl rfl rfl (V_fld rfl Tryz.underlying173 rfl ty23 (by decide) rfl) ?_
    refine Dp rfl rfl rfl rfl (V_fld rfl Tryz.underlying82 rfl ty9 (by decide) rfl) ?_
    refine Dp rfl rfl rfl rfl (V_fld rfl Tryz.underlying82 rfl ty30 (by decide) rfl) ?_
    refine Dp rfl rfl rfl rfl (V_move rfl rfl) ?_
    refine Dp rfl rfl rfl rfl (V_fld rfl Tryz.underlying82 rfl ty4 (by decide) rfl) ?_
    obtain ⟨x37_48, hc, h⟩ := h
    refine Dr rfl rfl rfl rfl (R_ld rfl Tryz.underlying23 rfl rfl hc) ?_
    obtain ⟨x39_49, hc, h⟩ := h
    refine Dr rfl rfl rfl rfl (R_ld rfl Tryz.underlying9 rfl rfl hc) ?_
    obtain ⟨x41_50, hc, h⟩ := h
    refine Dr rfl rfl rfl rfl (R_ld rfl Tryz.underlying30 rfl rfl hc) ?_
    obtain ⟨x44_51, hc, h⟩ := h
    refine Dr rfl rfl rfl rfl (R_ld rfl Tryz.underlying4 rfl rfl hc) ?_
    refine Dg rfl rfl rfl rfl (X_call rfl Tryz.func22 rfl rfl rfl (ACalls.mono h ?_))
    rintro v σ ⟨x45_52, x45_53, rfl, h⟩
    refine Dp rfl rfl rfl rfl (V_move rfl rfl) ?_
    refine Dp rfl rfl rfl rfl (V_ext rfl rfl rfl) ?_
    refine Dp rfl rfl rfl rfl (V_ext rfl rfl rfl) ?_
    refine Dp rfl rfl rfl rfl (V_fld rfl Tryz.underlying84 rfl ty9 (by decide) rfl) ?_
    refine Dg rfl rfl rfl rfl (X_st rfl ty9 rfl rfl rfl rfl (stN_mono h fun σ h => ?_))
    refine Dp rfl rfl rfl rfl (V_asg rfl rfl) ?_
    refine Dend ?_
    refine thenN ?_
    refine AW.reg ?_
    refine Lp (V_fld rfl Tryz.underlying84 rfl ty9 (by decide) rfl) rfl rfl ?_
    obtain ⟨x50_54, hc, h⟩ := h
    refine Ls rfl rfl (X_ld rfl Tryz.underlying9 rfl rfl hc ?_)
    refine Lp (V_fld rfl Tryz.underlying108 rfl ty9 (by decide) rfl) rfl rfl ?_
    refine Ls rfl rfl (X_st rfl ty9 rfl rfl rfl rfl (stN_mono h fun σ h => ?_))
    refine Lnil ?_
    refine blockN ?_
    refine thenN ?_
    exact ⟨_, (FrLe.cons rfl (FrLe.cons rfl (FrLe.cons rfl (FrLe.cons rfl (FrLe.cons rfl (FrLe.nil _)))))), h⟩
  refine AW.seq ?_
  refine AW.reg ?_
  refine Lp (V_eql rfl rfl rfl) rfl rfl ?_
  refine Lp (V_asg rfl rfl) rfl rfl ?_
  refine Lnil ?_
  refine thenN ?_
  refine AW.iff rfl decide_eq_true_iff h (fun h => ?_) (fun h => ?_)
  · refine AW.drawn0 (fun i => ([0, 0, 0, 3, 0, 3, 0, 3, 2, 0] : List Nat).getD i 2) [] [0, 1, 2, 4, 6, 3, 5, 7, 8, 9] Tryz.mixed (by decide +kernel) ?_
    refine Dp rfl rfl rfl rfl (V_move rfl rfl) ?_
    obtain ⟨p55_58, hc, h⟩ := h
    refine Dp rfl rfl rfl rfl (V_nil rfl (by rw [← hc]; rfl)) ?_
    refine Dp rfl rfl rfl rfl (V_fld rfl Tryz.underlying173 rfl ty23 (by decide) rfl) ?_
    refine Dp rfl rfl rfl rfl (V_fld rfl Tryz.underlying82 rfl ty9 (by decide) rfl) ?_
    refine Dp rfl rfl rfl rfl (V_fld rfl Tryz.underlying82 rfl ty3 (by decide) rfl) ?_
    obtain ⟨x57_59, hc, h⟩ := h
    refine Dr rfl rfl rfl rfl (R_ld rfl Tryz.underlying23 rfl rfl hc) ?_
    obtain ⟨x59_60, hc, h⟩ := h
    refine Dr rfl rfl rfl rfl (R_ld rfl Tryz.underlying9 rfl rfl hc) ?_
    obtain ⟨x61_61, hc, h⟩ := h
    refine Dr rfl rfl rfl rfl (R_ld rfl Tryz.underlying3 rfl rfl hc) ?_
    refine Dg rfl rfl rfl rfl (X_call rfl Tryz.func24 rfl rfl rfl (ACalls.mono h ?_))
    rintro v σ ⟨x62_62, rfl, h⟩
    refine Dp rfl rfl rfl rfl (V_asg rfl rfl) ?_
    refine Dend ?_
    refine blockN ?_
    refine thenN ?_
    exact ⟨_, (FrLe.cons rfl (FrLe.cons rfl (FrLe.cons rfl (FrLe.cons rfl (FrLe.cons rfl (FrLe.nil _)))))), h⟩
  refine AW.seq ?_
  refine AW.reg ?_
  refine Lp (V_eql rfl rfl rfl) rfl rfl ?_
  refine Lp (V_asg rfl rfl) rfl rfl ?_
  refine Lnil ?_
  refine thenN ?_
  refine AW.iff rfl decide_eq_true_iff h (fun h => ?_) (fun h => ?_)
  · refine AW.drawn0 (fun i => ([0, 0, 0, 3, 0, 3, 0, 3, 0, 3, 2, 0, 0, 0, 0, 2, 0] : List Nat).getD i 2) [] [0, 1, 2, 4, 6, 8, 3, 5, 7, 9, 10, 11, 12, 13, 14, 15, 16] Tryz.mixed (by decide +kernel) ?_
    refine Dp rfl rfl rfl rfl (V_move rfl rfl) ?_
    obtain ⟨p67_63, hc, h⟩ := h
    refine Dp rfl rfl rfl rfl (V_nil rfl (by rw [← hc]; rfl)) ?_
    refine Dp rfl rfl rfl rfl (V_fld rfl Tryz.underlying173 rfl ty23 (by decide) rfl) ?_
    refine Dp rfl rfl rfl rfl (V_fld rfl Tryz.underlying82 rfl ty9 (by decide) rfl) ?_
    refine Dp rfl rfl rfl rfl (V_fld rfl Tryz.underlying82 rfl ty30 (by decide) rfl) ?_
    refine Dp rfl rfl rfl rfl (V_fld rfl Tryz.underlying82 rfl ty3 (by decide) rfl) ?_
    obtain ⟨x69_64, hc, h⟩ := h
    refine Dr rfl rfl rfl rfl (R_ld rfl Tryz.underlying23 rfl rfl hc) ?_
    obtain ⟨x71_65, hc, h⟩ := h
    refine Dr rfl rfl rfl rfl (R_ld rfl Tryz.underlying9 rfl rfl hc) ?_
    obtain ⟨x73_66, hc, h⟩ := h
    refine Dr rfl rfl rfl rfl (R_ld rfl Tryz.underlying30 rfl rfl hc) ?_
    obtain ⟨x75_67, hc, h⟩ := h
    refine Dr rfl rfl rfl rfl (R_ld rfl Tryz.underlying3 rfl rfl hc) ?_
    refine Dg rfl rfl rfl rfl (X_call rfl Tryz.func25 rfl rfl rfl (ACalls.mono h ?_))
    rintro v σ ⟨x76_68, x76_69, rfl, h⟩
    refine Dp rfl rfl rfl rfl (V_move rfl rfl) ?_
    refine Dp rfl rfl rfl rfl (V_ext rfl rfl rfl) ?_
    refine Dp rfl rfl rfl rfl (V_ext rfl rfl rfl) ?_
    refine Dp rfl rfl rfl rfl (V_fld rfl Tryz.underlying84 rfl ty3 (by decide) rfl) ?_
    refine Dg rfl rfl rfl rfl (X_st rfl ty3 rfl rfl rfl rfl (stN_mono h fun σ h => ?_))
    refine Dp rfl rfl rfl rfl (V_asg rfl rfl) ?_
    refine Dend ?_
    refine blockN ?_
    refine thenN ?_
    exact ⟨_, (FrLe.cons rfl (FrLe.cons rfl (FrLe.cons rfl (FrLe.cons rfl (FrLe.cons rfl (FrLe.nil _)))))), h⟩
  refine AW.seq ?_
  refine AW.reg ?_
  refine Lp (V_eql rfl rfl rfl) rfl rfl ?_
  refine Lp (V_asg rfl rfl) rfl rfl ?_
  refine Lnil ?_
  refine thenN ?_
  refine AW.iff rfl decide_eq_true_iff h (fun h => ?_) (fun h => ?_)
  rotate_left
  · refine AW.skip ?_
    refine blockN ?_
    refine thenN ?_
    exact ⟨_, (FrLe.cons rfl (FrLe.cons rfl (FrLe.cons rfl (FrLe.cons rfl (FrLe.cons rfl (FrLe.nil _)))))), h⟩
  refine AW.seq ?_
  refine AW.reg ?_
  refine Ls rfl rfl (X_new (A_alloc rfl ty32) fun x10_70 g1 g2 => ?_)
  replace h := h x10_70 g1 g2
  refine Lnil ?_
  refine thenN ?_
  refine AW.seq ?_
  refine AW.drawn0 (fun i => ([0, 0, 0, 3, 0, 3, 2, 0, 0, 0, 0, 2, 0] : List Nat).getD i 2) [] [0, 1, 2, 4, 3, 5, 6, 7, 8, 9, 10, 11, 12] Tryz.mixed (by decide +kernel) ?_
  refine Dp rfl rfl rfl rfl (V_move rfl rfl) ?_
  obtain ⟨p84_71, hc, h⟩ := h
  refine Dp rfl rfl rfl rfl (V_nil rfl (by rw [← hc]; rfl)) ?_
  refine Dp rfl rfl rfl rfl (V_fld rfl Tryz.underlying173 rfl ty23 (by decide) rfl) ?_
  refine Dp rfl rfl rfl rfl (V_fld rfl Tryz.underlying82 rfl ty9 (by decide) rfl) ?_
  obtain ⟨x86_72, hc, h⟩ := h
  refine Dr rfl rfl rfl rfl (R_ld rfl Tryz.underlying23 rfl rfl hc) ?_
  obtain ⟨x88_73, hc, h⟩ := h
  refine Dr rfl rfl rfl rfl (R_ld rfl Tryz.underlying9 rfl rfl hc) ?_
  refine Dg rfl rfl rfl rfl (X_call rfl Tryz.func17 rfl rfl rfl (ACalls.mono h ?_))
  rintro v σ ⟨x89_74, x89_75a, x89_75b, x89_75c, x89_75d, x89_76, rfl, h⟩
  refine Dp rfl rfl rfl rfl (V_move rfl rfl) ?_
  refine Dp rfl rfl rfl rfl (V_ext rfl rfl rfl) ?_
  refine Dp rfl rfl rfl rfl (V_ext rfl rfl rfl) ?_
  refine Dp rfl rfl rfl rfl (V_ext rfl rfl rfl) ?_
  refine Dg rfl rfl rfl rfl (X_st rfl ty32 rfl rfl rfl rfl (stN_mono h fun σ h => ?_))
  refine Dp rfl rfl rfl rfl (V_asg rfl rfl) ?_
  refine Dend ?_
  refine thenN ?_
  refine AW.seq ?_
  refine AW.reg ?_
  refine Lp (V_move rfl rfl) rfl rfl ?_
  refine Lp (V_eql rfl rfl rfl) rfl rfl ?_
  refine Lp (V_move rfl rfl) rfl rfl ?_
  refine LsplitJ 4 (decide (x89_76 = 0)) decide_eq_true_iff h (fun fr σ => ∃ (x99_78 : Bool), FrLe [(0, .pointer a0), (3, .pointer (some ⟨x3_1, 0, none⟩)), (6, .pointer (some ⟨x6_4, 0, none⟩)), (7, .int .i64 x89_76), (8, .pointer (some ⟨x8_7, 0, none⟩)), (10, .pointer (some ⟨x10_70, 0, none⟩)), (99, .bool x99_78)] fr ∧ j77_multi_work_do B ro a0 x3_1 x6_4 x8_7 x10_70 x89_76 Q x99_78 σ) ?_ ?_ ?_
  · intro h e2 hk2
    refine Lypb (V_fld rfl Tryz.underlying82 rfl ty3 (by decide) rfl) rfl rfl rfl rfl e2 ?_
    obtain ⟨x97_83, hc, h⟩ := h
    refine Lyb rfl rfl rfl rfl e2 (X_ld rfl Tryz.underlying3 rfl rfl hc ?_)
    refine Lypb (V_neq rfl rfl rfl) rfl rfl rfl rfl e2 ?_
    refine Lp (V_pickT rfl (evb e2) rfl) rfl rfl ?_
    exact hk2 _ _ ⟨_, (FrLe.cons rfl (FrLe.cons rfl (FrLe.cons rfl (FrLe.cons rfl (FrLe.cons rfl (FrLe.cons rfl (FrLe.cons rfl (FrLe.nil _)))))))), h⟩
  · intro h e2 hk2
    refine Ln rfl rfl rfl rfl (.inl (by rw [e2]; rfl)) ?_
    refine Ln rfl rfl rfl rfl (.inl (by rw [e2]; rfl)) ?_
    refine Ln rfl rfl rfl rfl (.inl (by rw [e2]; rfl)) ?_
    refine Lp (V_pickF rfl (evb e2) rfl) rfl rfl ?_
    exact hk2 _ _ ⟨_, (FrLe.cons rfl (FrLe.cons rfl (FrLe.cons rfl (FrLe.cons rfl (FrLe.cons rfl (FrLe.cons rfl (FrLe.cons rfl (FrLe.nil _)))))))), h⟩
  rintro fr σ ⟨x99_78, hl, h⟩
  unfold j77_multi_work_do at h
  refine Lfr hl ?_
  refine Lp (V_move rfl rfl) rfl rfl ?_
  refine LsplitJ 6 x99_78 Iff.rfl h (fun fr σ => ∃ (x106_80 : Bool), FrLe [(0, .pointer a0), (3, .pointer (some ⟨x3_1, 0, none⟩)), (6, .pointer (some ⟨x6_4, 0, none⟩)), (7, .int .i64 x89_76), (8, .pointer (some ⟨x8_7, 0, none⟩)), (106, .bool x106_80)] fr ∧ j79_multi_work_do B ro a0 x3_1 x6_4 x8_7 x89_76 Q x106_80 σ) ?_ ?_ ?_
  · intro h e7 hk7
    refine Lypb (V_fld rfl Tryz.underlying82 rfl ty3 (by decide) rfl) rfl rfl rfl rfl e7 ?_
    obtain ⟨x102_81, hc, h⟩ := h
    refine Lyb rfl rfl rfl rfl e7 (X_ld rfl Tryz.underlying3 rfl rfl hc ?_)
    refine Lypb (V_fld rfl Tryz.underlying32 rfl ty3 (by decide) rfl) rfl rfl rfl rfl e7 ?_
    obtain ⟨x104_82, hc, h⟩ := h
    refine Lyb rfl rfl rfl rfl e7 (X_ld rfl Tryz.underlying3 rfl rfl hc ?_)
    refine Lypb (V_neq rfl rfl rfl) rfl rfl rfl rfl e7 ?_
    refine Lp (V_pickT rfl (evb e7) rfl) rfl rfl ?_
    exact hk7 _ _ ⟨_, (FrLe.cons rfl (FrLe.cons rfl (FrLe.cons rfl (FrLe.cons rfl (FrLe.cons rfl (FrLe.cons rfl (FrLe.nil _))))))), h⟩
  · intro h e7 hk7
    refine Ln rfl rfl rfl rfl (.inl (by rw [e7]; rfl)) ?_
    refine Ln rfl rfl rfl rfl (.inl (by rw [e7]; rfl)) ?_
    refine Ln rfl rfl rfl rfl (.inl (by rw [e7]; rfl)) ?_
    refine Ln rfl rfl rfl rfl (.inl (by rw [e7]; rfl)) ?_
    refine Ln rfl rfl rfl rfl (.inl (by rw [e7]; rfl)) ?_
    refine Lp (V_pickF rfl (evb e7) rfl) rfl rfl ?_
    exact hk7 _ _ ⟨_, (FrLe.cons rfl (FrLe.cons rfl (FrLe.cons rfl (FrLe.cons rfl (FrLe.cons rfl (FrLe.cons rfl (FrLe.nil _))))))), h⟩
  rintro fr σ ⟨x106_80, hl, h⟩
  unfold j79_multi_work_do at h
  refine Lfr hl ?_
  refine Lnil ?_
  refine thenN ?_
  refine AW.iff rfl Iff.rfl h (fun h => ?_) (fun h => ?_)
  rotate_left
  · refine AW.skip ?_
    refine blockN ?_
    refine thenN ?_
    exact ⟨_, (FrLe.cons rfl (FrLe.cons rfl (FrLe.cons rfl (FrLe.cons rfl (FrLe.cons rfl (FrLe.nil _)))))), h⟩
  refine AW.reg ?_
  refine Lp (V_asg rfl rfl) rfl rfl ?_
  refine Lnil ?_
  refine blockN ?_
  refine thenN ?_
  exact ⟨_, (FrLe.cons rfl (FrLe.cons rfl (FrLe.cons rfl (FrLe.cons rfl (FrLe.cons rfl (FrLe.nil _)))))), h⟩

def j4_multi_flags (B : World) (ro : AH) (Q : Int → AH → Prop) (x3_5 : Int) (σ : AH) : Prop :=
 Q x3_5 σ

def j2_multi_flags (B : World) (ro : AH) (x1_1 : Nat) (Q : Int → AH → Prop) (x3_3 : Int) (σ : AH) : Prop :=
 ∃ (x9_6 : Bool), acell ro σ ((⟨x1_1, 0, none⟩ : Addr).add 5) = some (.bool x9_6) ∧
 if x9_6 = true then
  j4_multi_flags B ro Q (bitOr .i64 x3_3 2) σ
 else
 j4_multi_flags B ro Q x3_3 σ

def f_multi_flags (B : World) (ro : AH) (a0_0 : Int) (a0_1 : ByteArray) (a0_2 : Sl) (a0_3 : Int) (a0_4 : Bool) (a0_5 : Bool) (σ : AH) (Q : Int → AH → Prop) : Prop :=
 nw ro σ (.cells #[.int .i64 a0_0, .string a0_1, Sl.v a0_2, .int .i64 a0_3, .bool a0_4, .bool a0_5] 82) fun x1_1 σ =>
 ∃ (x5_7 : Bool), acell ro σ ((⟨x1_1, 0, none⟩ : Addr).add 4) = some (.bool x5_7) ∧
 if x5_7 = true then
  j2_multi_flags B ro x1_1 Q (bitOr .i64 0 1) σ
 else
 j2_multi_flags B ro x1_1 Q 0 σ

set_option maxRecDepth 100000 in
set_option maxHeartbeats 4000000 in
theorem multi_flags_ok {B : World} {ro : AH} {a0_0 : Int} {a0_1 : ByteArray} {a0_2 : Sl} {a0_3 : Int} {a0_4 : Bool} {a0_5 : Bool} {σ : AH} {Q : Int → AH → Prop} (h : Sep ro σ → f_multi_flags B ro a0_0 a0_1 a0_2 a0_3 a0_4 a0_5 σ Q) : c_multi_flags B ro a0_0 a0_1 a0_2 a0_3 a0_4 a0_5 σ Q := by
  refine ACalls.of_sep fun hsep => ?_
  replace h := h hsep
  refine ACalls.of_body (args := [.agg #[.int .i64 a0_0, .string a0_1, Sl.v a0_2, .int .i64 a0_3, .bool a0_4, .bool a0_5]]) Tryz.func105 rfl (by rw [Tryz.ntmps105]; simp) ?_
  rw [Tryz.ntmps105]
  unfold f_multi_flags at h
  refine AW.seq ?_
  refine AW.reg ?_
  refine Ls rfl rfl (X_new (A_box rfl rfl) fun x1_1 g1 g2 => ?_)
  replace h := h x1_1 g1 g2
  refine Lp (V_asg rfl rfl) rfl rfl ?_
  refine Lnil ?_
  refine thenN ?_
  refine AW.seq ?_
  refine AW.reg ?_
  refine Lp (V_asg rfl rfl) rfl rfl ?_
  refine Lnil ?_
  refine thenN ?_
  refine AW.seqJ (fun fr σ => ∃ (x3_3 : Int), FrLe [(1, .pointer (some ⟨x1_1, 0, none⟩)), (3, .int .i64 x3_3)] fr ∧ j2_multi_flags B ro x1_1 Q x3_3 σ) ?_ ?_
  rotate_left
  · refine AW.seq ?_
    refine AW.reg ?_
    refine Lp (V_fld rfl Tryz.underlying82 rfl ty4 (by decide) rfl) rfl rfl ?_
    obtain ⟨x5_7, hc, h⟩ := h
    refine Ls rfl rfl (X_ld rfl Tryz.underlying4 rfl rfl hc ?_)
    refine Lnil ?_
    refine thenN ?_
    refine AW.iff rfl Iff.rfl h (fun h => ?_) (fun h => ?_)
    rotate_left
    · refine AW.skip ?_
      refine thenN ?_
      exact ⟨_, (FrLe.cons rfl (FrLe.cons rfl (FrLe.nil _))), h⟩
    refine AW.reg ?_
    refine Lp (V_move rfl rfl) rfl rfl ?_
    refine Lp (V_or rfl rfl rfl) rfl rfl ?_
    refine Lp (V_asg rfl rfl) rfl rfl ?_
    refine Lnil ?_
    refine thenN ?_
    exact ⟨_, (FrLe.cons rfl (FrLe.cons rfl (FrLe.nil _))), h⟩
  rintro fr σ ⟨x3_3, hl, h⟩
  refine AW.weaken ?_ hl (HLe.refl _)
  unfold j2_multi_flags at h
  refine AW.seqJ (fun fr σ => ∃ (x3_5 : Int), FrLe [(3, .int .i64 x3_5)] fr ∧ j4_multi_flags B ro Q x3_5 σ) ?_ ?_
  · rintro fr σ ⟨x3_5, hl, h⟩
    refine AW.weaken ?_ hl (HLe.refl _)
    unfold j4_multi_flags at h
    refine AW.seq ?_
    refine AW.reg ?_
    refine Lp (V_move rfl rfl) rfl rfl ?_
    refine Lp (V_asg rfl rfl) rfl rfl ?_
    refine Lnil ?_
    refine thenN ?_
    refine AW.ret ?_
    exact bR1 Tryz.results105 rfl ⟨_, rfl, h⟩
  refine AW.seq ?_
  refine AW.reg ?_
  refine Lp (V_fld rfl Tryz.underlying82 rfl ty4 (by decide) rfl) rfl rfl ?_
  obtain ⟨x9_6, hc, h⟩ := h
  refine Ls rfl rfl (X_ld rfl Tryz.underlying4 rfl rfl hc ?_)
  refine Lnil ?_
  refine thenN ?_
  refine AW.iff rfl Iff.rfl h (fun h => ?_) (fun h => ?_)
  rotate_left
  · refine AW.skip ?_
    refine thenN ?_
    exact ⟨_, (FrLe.cons rfl (FrLe.nil _)), h⟩
  refine AW.reg ?_
  refine Lp (V_move rfl rfl) rfl rfl ?_
  refine Lp (V_or rfl rfl rfl) rfl rfl ?_
  refine Lp (V_asg rfl rfl) rfl rfl ?_
  refine Lnil ?_
  refine thenN ?_
  exact ⟨_, (FrLe.cons rfl (FrLe.nil _)), h⟩

def j8_multi_work_within (B : World) (ro : AH) (Q : Int → AH → Prop) (x26_9 : Bool) (σ : AH) : Prop :=
 if x26_9 = true then
  Q 82 σ
 else
 Q 0 σ

def j6_multi_work_within (B : World) (ro : AH) (a0 : Option Addr) (x3_1 : Nat) (x10_3 : Sl) (x10_4 : Int) (Q : Int → AH → Prop) (x21_7 : Bool) (σ : AH) : Prop :=
 if x21_7 = true then
  Q 80 σ
 else
 if ¬ (x10_4 = 0) then
  Q x10_4 σ
 else
 if (x10_3.len : Int) = 0 then
  if True then
   j8_multi_work_within B ro Q true σ
  else
  if (x10_3.len : Int) = 1 then
   ∃ (x46_10 : Int), acell ro σ ⟨x3_1, 0, none⟩ = some (.int .i64 x46_10) ∧
   j8_multi_work_within B ro Q (decide (x46_10 ≤ 2)) σ
  else
  j8_multi_work_within B ro Q false σ
 else
 ∃ p32_11 : Addr, x10_3.a = some p32_11 ∧ (0 : Int) ≤ 0 ∧ 0 < (x10_3.len : Int) ∧
 ∃ p35_12 : Addr, a0 = some p35_12 ∧
 ∃ (x33_13 : ByteArray), acell ro σ (p32_11.add (Int.toNat 0 * 1)) = some (.string x33_13) ∧
 ∃ (x37_14 : ByteArray), acell ro σ (p35_12.add 4) = some (.string x37_14) ∧
 if ¬ (x33_13 = x37_14) then
  j8_multi_work_within B ro Q true σ
 else
 if (x10_3.len : Int) = 1 then
  ∃ (x46_15 : Int), acell ro σ ⟨x3_1, 0, none⟩ = some (.int .i64 x46_15) ∧
  j8_multi_work_within B ro Q (decide (x46_15 ≤ 2)) σ
 else
 j8_multi_work_within B ro Q false σ

def f_multi_work_within (B : World) (ro : AH) (a0 : Option Addr) (a1_0 : Int) (a1_1 : ByteArray) (a1_2 : Sl) (a1_3 : Int) (a1_4 : Bool) (a1_5 : Bool) (σ : AH) (Q : Int → AH → Prop) : Prop :=
 nw ro σ (.cells #[.int .i64 a1_0, .string a1_1, Sl.v a1_2, .int .i64 a1_3, .bool a1_4, .bool a1_5] 82) fun x3_1 σ =>
 ∃ (x9_2 : ByteArray), acell ro σ ((⟨x3_1, 0, none⟩ : Addr).add 1) = some (.string x9_2) ∧
 c_path_Parts B ro x9_2 σ fun x10_3 x10_4 σ =>
 ∃ (x15_5 : Int), acell ro σ ⟨x3_1, 0, none⟩ = some (.int .i64 x15_5) ∧
 if x15_5 < 1 then
  j6_multi_work_within B ro a0 x3_1 x10_3 x10_4 Q true σ
 else
 ∃ (x19_16 : Int), acell ro σ ⟨x3_1, 0, none⟩ = some (.int .i64 x19_16) ∧
 j6_multi_work_within B ro a0 x3_1 x10_3 x10_4 Q (decide (4 < x19_16)) σ

set_option maxRecDepth 100000 in
set_option maxHeartbeats 4000000 in
theorem multi_work_within_ok {B : World} {ro : AH} {a0 : Option Addr} {a1_0 : Int} {a1_1 : ByteArray} {a1_2 : Sl} {a1_3 : Int} {a1_4 : Bool} {a1_5 : Bool} {σ : AH} {Q : Int → AH → Prop} (h : Sep ro σ → f_multi_work_within B ro a0 a1_0 a1_1 a1_2 a1_3 a1_4 a1_5 σ Q) : c_multi_work_within B ro a0 a1_0 a1_1 a1_2 a1_3 a1_4 a1_5 σ Q := by
  refine ACalls.of_sep fun hsep => ?_
  replace h := h hsep
  refine ACalls.of_body (args := [.pointer a0, .agg #[.int .i64 a1_0, .string a1_1, Sl.v a1_2, .int .i64 a1_3, .bool a1_4, .bool a1_5]]) Tryz.func125 rfl (by rw [Tryz.ntmps125]; simp) ?_
  rw [Tryz.ntmps125]
  unfold f_multi_work_within at h
  refine AW.seq ?_
  refine AW.reg ?_
  refine Ls rfl rfl (X_new (A_box rfl rfl) fun x3_1 g1 g2 => ?_)
  replace h := h x3_1 g1 g2
  refine Lp (V_asg rfl rfl) rfl rfl ?_
  refine Lnil ?_
  refine thenN ?_
  refine AW.seq ?_
  refine AW.reg ?_
  refine Lp (V_fld rfl Tryz.underlying82 rfl ty9 (by decide) rfl) rfl rfl ?_
  obtain ⟨x9_2, hc, h⟩ := h
  refine Ls rfl rfl (X_ld rfl Tryz.underlying9 rfl rfl hc ?_)
  refine Ls rfl rfl (X_call rfl Tryz.func106 rfl rfl rfl (ACalls.mono h ?_))
  rintro v σ ⟨x10_3, x10_4, rfl, h⟩
  refine Lp (V_move rfl rfl) rfl rfl ?_
  refine Lp (V_ext rfl rfl rfl) rfl rfl ?_
  refine Lp (V_ext rfl rfl rfl) rfl rfl ?_
  refine Lp (V_asg rfl rfl) rfl rfl ?_
  refine Lp (V_asg rfl rfl) rfl rfl ?_
  refine Lnil ?_
  refine thenN ?_
  refine AW.seq ?_
  refine AW.block ?_
  refine AW.seq ?_
  refine AW.reg ?_
  refine Lp (V_fld rfl Tryz.underlying82 rfl ty3 (by decide) rfl) rfl rfl ?_
  obtain ⟨x15_5, hc, h⟩ := h
  refine Ls rfl rfl (X_ld rfl Tryz.underlying3 rfl rfl hc ?_)
  refine Lp (V_lss rfl rfl rfl) rfl rfl ?_
  refine Lp (V_move rfl rfl) rfl rfl ?_
  refine LsplitJ 4 (decide (x15_5 < 1)) decide_eq_true_iff h (fun fr σ => ∃ (x21_7 : Bool), FrLe [(0, .pointer a0), (3, .pointer (some ⟨x3_1, 0, none⟩)), (5, Sl.v x10_3), (6, .int .i64 x10_4), (21, .bool x21_7)] fr ∧ j6_multi_work_within B ro a0 x3_1 x10_3 x10_4 Q x21_7 σ) ?_ ?_ ?_
  · intro h e3 hk3
    refine Ln rfl rfl rfl rfl (.inl (by rw [e3]; rfl)) ?_
    refine Ln rfl rfl rfl rfl (.inl (by rw [e3]; rfl)) ?_
    refine Ln rfl rfl rfl rfl (.inl (by rw [e3]; rfl)) ?_
    refine Lp (V_pickT rfl (evb e3) rfl) rfl rfl ?_
    exact hk3 _ _ ⟨_, (FrLe.cons rfl (FrLe.cons rfl (FrLe.cons rfl (FrLe.cons rfl (FrLe.cons rfl (FrLe.nil _)))))), h⟩
  · intro h e3 hk3
    refine Lypb (V_fld rfl Tryz.underlying82 rfl ty3 (by decide) rfl) rfl rfl rfl rfl e3 ?_
    obtain ⟨x19_16, hc, h⟩ := h
    refine Lyb rfl rfl rfl rfl e3 (X_ld rfl Tryz.underlying3 rfl rfl hc ?_)
    refine Lypb (V_gtr rfl rfl rfl) rfl rfl rfl rfl e3 ?_
    refine Lp (V_pickF rfl (evb e3) rfl) rfl rfl ?_
    exact hk3 _ _ ⟨_, (FrLe.cons rfl (FrLe.cons rfl (FrLe.cons rfl (FrLe.cons rfl (FrLe.cons rfl (FrLe.nil _)))))), h⟩
  rintro fr σ ⟨x21_7, hl, h⟩
  unfold j6_multi_work_within at h
  refine Lfr hl ?_
  refine Lp (V_asg rfl rfl) rfl rfl ?_
  refine Lnil ?_
  refine thenN ?_
  refine AW.iff rfl Iff.rfl h (fun h => ?_) (fun h => ?_)
  · refine AW.seq ?_
    refine AW.reg ?_
    refine Lp (V_asg rfl rfl) rfl rfl ?_
    refine Lnil ?_
    refine thenN ?_
    refine AW.ret ?_
    refine blockR ?_
    refine thenR ?_
    exact bR1 Tryz.results125 rfl ⟨_, rfl, h⟩
  refine AW.seq ?_
  refine AW.reg ?_
  refine Lp (V_move rfl rfl) rfl rfl ?_
  refine Lp (V_neq rfl rfl rfl) rfl rfl ?_
  refine Lp (V_asg rfl rfl) rfl rfl ?_
  refine Lnil ?_
  refine thenN ?_
  refine AW.iff rfl (bnot_iff decide_eq_true_iff) h (fun h => ?_) (fun h => ?_)
  · refine AW.seq ?_
    refine AW.reg ?_
    refine Lp (V_move rfl rfl) rfl rfl ?_
    refine Lp (V_asg rfl rfl) rfl rfl ?_
    refine Lnil ?_
    refine thenN ?_
    refine AW.ret ?_
    refine blockR ?_
    refine thenR ?_
    exact bR1 Tryz.results125 rfl ⟨_, rfl, h⟩
  refine AW.seqJ (fun fr σ => ∃ (x26_9 : Bool), FrLe [(26, .bool x26_9)] fr ∧ j8_multi_work_within B ro Q x26_9 σ) ?_ ?_
  · rintro fr σ ⟨x26_9, hl, h⟩
    refine AW.weaken ?_ hl (HLe.refl _)
    unfold j8_multi_work_within at h
    refine AW.iff rfl Iff.rfl h (fun h => ?_) (fun h => ?_)
    · refine AW.seq ?_
      refine AW.reg ?_
      refine Lp (V_asg rfl rfl) rfl rfl ?_
      refine Lnil ?_
      refine thenN ?_
      refine AW.ret ?_
      refine blockR ?_
      refine thenR ?_
      exact bR1 Tryz.results125 rfl ⟨_, rfl, h⟩
    refine AW.skip ?_
    refine blockN ?_
    refine thenN ?_
    refine AW.seq ?_
    refine AW.reg ?_
    refine Lp (V_asg rfl rfl) rfl rfl ?_
    refine Lnil ?_
    refine thenN ?_
    refine AW.ret ?_
    exact bR1 Tryz.results125 rfl ⟨_, rfl, h⟩
  refine AW.drawn0 (fun i => ([0, 0, 0, 0, 0, 0, 3, 0, 0, 0, 3, 0, 0, 0, 0, 0, 0, 0, 0, 3, 0, 0, 0, 0] : List Nat).getD i 2) [] [0, 1, 2, 3, 4, 5, 7, 8, 9, 6, 10, 11, 12, 13, 14, 15, 16, 17, 18, 19, 20, 21, 22, 23] Tryz.mixed (by decide +kernel) ?_
  refine Dp rfl rfl rfl rfl (V_move rfl rfl) ?_
  refine Dp rfl rfl rfl rfl (V_lenL rfl rfl Tryz.underlying25 rfl rfl) ?_
  refine Dp rfl rfl rfl rfl (V_eql rfl rfl rfl) ?_
  refine Dp rfl rfl rfl rfl (V_move rfl rfl) ?_
  refine splitP (decide ((x10_3.len : Int) = 0)) decide_eq_true_iff h ?_ ?_
  · intro h e3
    refine Dpn rfl rfl rfl rfl rfl (.inl (by rw [e3]; rfl)) rfl ?_
    refine Dpn rfl rfl rfl rfl rfl (.inl (by rw [e3]; rfl)) rfl ?_
    refine Dpn rfl rfl rfl rfl rfl (.inl (by rw [e3]; rfl)) rfl ?_
    refine Dpn rfl rfl rfl rfl rfl (.inl (by rw [e3]; rfl)) rfl ?_
    refine Dpn rfl rfl rfl rfl rfl (.inl (by rw [e3]; rfl)) rfl ?_
    refine Drn rfl rfl rfl rfl rfl (.inl (by rw [e3]; rfl)) rfl ?_
    refine Drn rfl rfl rfl rfl rfl (.inl (by rw [e3]; rfl)) rfl ?_
    refine Dpn rfl rfl rfl rfl rfl (.inl (by rw [e3]; rfl)) rfl ?_
    refine Dp rfl rfl rfl rfl (V_pickT rfl (evb e3) rfl) ?_
    refine Dp rfl rfl rfl rfl (V_move rfl rfl) ?_
    refine splitP true (by simp) h ?_ ?_
    · intro h e13
      refine Dpn rfl rfl rfl rfl rfl (.inl (by rw [e13]; rfl)) rfl ?_
      refine Dpn rfl rfl rfl rfl rfl (.inl (by rw [e13]; rfl)) rfl ?_
      refine Dpn rfl rfl rfl rfl rfl (.inl (by rw [e13]; rfl)) rfl ?_
      refine Dpn rfl rfl rfl rfl rfl (.inl (by rw [e13]; rfl)) rfl ?_
      refine Dpn rfl rfl rfl rfl rfl (.inr rfl) rfl ?_
      refine Drn rfl rfl rfl rfl rfl (.inr rfl) rfl ?_
      refine Dpn rfl rfl rfl rfl rfl (.inr rfl) rfl ?_
      refine Dpn rfl rfl rfl rfl rfl (.inl (by rw [e13]; rfl)) rfl ?_
      refine Dp rfl rfl rfl rfl (V_pickT rfl (evb e13) rfl) ?_
      refine Dp rfl rfl rfl rfl (V_asg rfl rfl) ?_
      refine Dend ?_
      refine thenN ?_
      exact ⟨_, (FrLe.cons rfl (FrLe.nil _)), h⟩
    intro h e13
    refine Dpy rfl rfl rfl rfl rfl e13 rfl (V_move rfl rfl) ?_
    refine Dpy rfl rfl rfl rfl rfl e13 rfl (V_lenL rfl rfl Tryz.underlying25 rfl rfl) ?_
    refine Dpy rfl rfl rfl rfl rfl e13 rfl (V_eql rfl rfl rfl) ?_
    refine Dpy rfl rfl rfl rfl rfl e13 rfl (V_move rfl rfl) ?_
    refine splitP (decide ((x10_3.len : Int) = 1)) decide_eq_true_iff h ?_ ?_
    rotate_left
    · intro h e17
      refine Dpn rfl rfl rfl rfl rfl (.inl (by rw [e17]; rfl)) rfl ?_
      refine Drn rfl rfl rfl rfl rfl (.inl (by rw [e17]; rfl)) rfl ?_
      refine Dpn rfl rfl rfl rfl rfl (.inl (by rw [e17]; rfl)) rfl ?_
      refine Dpy rfl rfl rfl rfl rfl e13 rfl (V_pickF rfl (evb e17) rfl) ?_
      refine Dp rfl rfl rfl rfl (V_pickF rfl (evb e13) rfl) ?_
      refine Dp rfl rfl rfl rfl (V_asg rfl rfl) ?_
      refine Dend ?_
      refine thenN ?_
      exact ⟨_, (FrLe.cons rfl (FrLe.nil _)), h⟩
    intro h e17
    refine Dpy rfl rfl rfl rfl rfl e17 rfl (V_fld rfl Tryz.underlying82 rfl ty3 (by decide) rfl) ?_
    obtain ⟨x46_10, hc, h⟩ := h
    refine Dry rfl rfl rfl rfl rfl e17 rfl (R_ld rfl Tryz.underlying3 rfl rfl hc) ?_
    refine Dpy rfl rfl rfl rfl rfl e17 rfl (V_leq rfl rfl rfl) ?_
    refine Dpy rfl rfl rfl rfl rfl e13 rfl (V_pickT rfl (evb e17) rfl) ?_
    refine Dp rfl rfl rfl rfl (V_pickF rfl (evb e13) rfl) ?_
    refine Dp rfl rfl rfl rfl (V_asg rfl rfl) ?_
    refine Dend ?_
    refine thenN ?_
    exact ⟨_, (FrLe.cons rfl (FrLe.nil _)), h⟩
  intro h e3
  refine Dpy rfl rfl rfl rfl rfl e3 rfl (V_move rfl rfl) ?_
  obtain ⟨p32_11, ha, h0, h1, h⟩ := h
  refine Dpy rfl rfl rfl rfl rfl e3 rfl (V_ixA rfl Tryz.underlying25 ty9 (ixL rfl ha) rfl h0 h1) ?_
  refine Dpy rfl rfl rfl rfl rfl e3 rfl (V_move rfl rfl) ?_
  obtain ⟨p35_12, hc, h⟩ := h
  refine Dpy rfl rfl rfl rfl rfl e3 rfl (V_nil rfl (by rw [← hc]; rfl)) ?_
  refine Dpy rfl rfl rfl rfl rfl e3 rfl (V_fld rfl Tryz.underlying173 rfl ty9 (by decide) rfl) ?_
  obtain ⟨x33_13, hc, h⟩ := h
  refine Dry rfl rfl rfl rfl rfl e3 rfl (R_ld rfl Tryz.underlying9 rfl rfl hc) ?_
  obtain ⟨x37_14, hc, h⟩ := h
  refine Dry rfl rfl rfl rfl rfl e3 rfl (R_ld rfl Tryz.underlying9 rfl rfl hc) ?_
  refine Dpy rfl rfl rfl rfl rfl e3 rfl (V_neqS rfl rfl rfl) ?_
  refine Dp rfl rfl rfl rfl (V_pickF rfl (evb e3) rfl) ?_
  refine Dp rfl rfl rfl rfl (V_move rfl rfl) ?_
  refine splitP (!(decide (x33_13 = x37_14))) (bnot_iff decide_eq_true_iff) h ?_ ?_
  · intro h e13
    refine Dpn rfl rfl rfl rfl rfl (.inl (by rw [e13]; rfl)) rfl ?_
    refine Dpn rfl rfl rfl rfl rfl (.inl (by rw [e13]; rfl)) rfl ?_
    refine Dpn rfl rfl rfl rfl rfl (.inl (by rw [e13]; rfl)) rfl ?_
    refine Dpn rfl rfl rfl rfl rfl (.inl (by rw [e13]; rfl)) rfl ?_
    refine Dpn rfl rfl rfl rfl rfl (.inr rfl) rfl ?_
    refine Drn rfl rfl rfl rfl rfl (.inr rfl) rfl ?_
    refine Dpn rfl rfl rfl rfl rfl (.inr rfl) rfl ?_
    refine Dpn rfl rfl rfl rfl rfl (.inl (by rw [e13]; rfl)) rfl ?_
    refine Dp rfl rfl rfl rfl (V_pickT rfl (evb e13) rfl) ?_
    refine Dp rfl rfl rfl rfl (V_asg rfl rfl) ?_
    refine Dend ?_
    refine thenN ?_
    exact ⟨_, (FrLe.cons rfl (FrLe.nil _)), h⟩
  intro h e13
  refine Dpy rfl rfl rfl rfl rfl e13 rfl (V_move rfl rfl) ?_
  refine Dpy rfl rfl rfl rfl rfl e13 rfl (V_lenL rfl rfl Tryz.underlying25 rfl rfl) ?_
  refine Dpy rfl rfl rfl rfl rfl e13 rfl (V_eql rfl rfl rfl) ?_
  refine Dpy rfl rfl rfl rfl rfl e13 rfl (V_move rfl rfl) ?_
  refine splitP (decide ((x10_3.len : Int) = 1)) decide_eq_true_iff h ?_ ?_
  rotate_left
  · intro h e17
    refine Dpn rfl rfl rfl rfl rfl (.inl (by rw [e17]; rfl)) rfl ?_
    refine Drn rfl rfl rfl rfl rfl (.inl (by rw [e17]; rfl)) rfl ?_
    refine Dpn rfl rfl rfl rfl rfl (.inl (by rw [e17]; rfl)) rfl ?_
    refine Dpy rfl rfl rfl rfl rfl e13 rfl (V_pickF rfl (evb e17) rfl) ?_
    refine Dp rfl rfl rfl rfl (V_pickF rfl (evb e13) rfl) ?_
    refine Dp rfl rfl rfl rfl (V_asg rfl rfl) ?_
    refine Dend ?_
    refine thenN ?_
    exact ⟨_, (FrLe.cons rfl (FrLe.nil _)), h⟩
  intro h e17
  refine Dpy rfl rfl rfl rfl rfl e17 rfl (V_fld rfl Tryz.underlying82 rfl ty3 (by decide) rfl) ?_
  obtain ⟨x46_15, hc, h⟩ := h
  refine Dry rfl rfl rfl rfl rfl e17 rfl (R_ld rfl Tryz.underlying3 rfl rfl hc) ?_
  refine Dpy rfl rfl rfl rfl rfl e17 rfl (V_leq rfl rfl rfl) ?_
  refine Dpy rfl rfl rfl rfl rfl e13 rfl (V_pickT rfl (evb e17) rfl) ?_
  refine Dp rfl rfl rfl rfl (V_pickF rfl (evb e13) rfl) ?_
  refine Dp rfl rfl rfl rfl (V_asg rfl rfl) ?_
  refine Dend ?_
  refine thenN ?_
  exact ⟨_, (FrLe.cons rfl (FrLe.nil _)), h⟩

end Go.Proofs.YthfpmipeejjogaaGreatDoor.G
