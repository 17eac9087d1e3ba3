/- GMul, RfD, PaD, PaE -/
import Derived.Test.YthfpmipeejjogaaGreatDoorXE
/- Functions as predicate transformers, and the proofs that the code does what they tell: printed by wip/tools/gen.py. -/
namespace Go.Proofs.YthfpmipeejjogaaGreatDoor.G
open Go Go.Proofs.YthfpmipeejjogaaGreatDoor.SL
set_option linter.unusedVariables false
set_option linter.unusedSimpArgs false

def j10_multi_Apply (B : World) (ro : AH) (a0 : Option Addr) (x10_2 : Nat) (x39_6 : Option Addr) (x47_9 : Nat) (Q : Sl → Sl → Int → Int → AH → Prop) (σ : AH) : Prop :=
 ∃ p66_11 : Addr, x39_6 = some p66_11 ∧
 ∃ (x67_12 : Option Nat), cellsAt ro σ p66_11 0 [.map x67_12] ∧
 ∃ p68_13 : Addr, a0 = some p68_13 ∧
 stN p68_13 (fun σ =>
  stN ((⟨x47_9, 0, none⟩ : Addr).add 2) (fun σ =>
   ∃ (x76_14a : Sl) (x76_14b : Sl) (x76_14c : Int), cellsAt ro σ ⟨x47_9, 0, none⟩ 0 [Sl.v x76_14a, Sl.v x76_14b, .int .i64 x76_14c] ∧
   stN ⟨x10_2, 0, none⟩ (fun σ =>
    ∃ (x10_15a : Sl) (x10_15b : Sl) (x10_15c : Int), cellsAt ro σ ⟨x10_2, 0, none⟩ 0 [Sl.v x10_15a, Sl.v x10_15b, .int .i64 x10_15c] ∧
    Q x10_15a x10_15b x10_15c 0 σ) [Sl.v x76_14a, Sl.v x76_14b, .int .i64 x76_14c] 0 σ) [.int .i64 (-1)] 0 σ) [.map x67_12] 0 σ

def l16_multi_Apply (B : World) (ro : AH) (a0 : Option Addr) (a4 : Sl) (x10_2 : Nat) (x39_6 : Option Addr) (x47_9 : Nat) (Q : Sl → Sl → Int → Int → AH → Prop) : (Int) → AH → ((Int) → AH → Prop) → Prop := fun x50_17 σ Y16 =>
 if x50_17 < (a4.len : Int) then
  ∃ p53_18 : Addr, a4.a = some p53_18 ∧ (0 : Int) ≤ x50_17 ∧ x50_17 < (a4.len : Int) ∧
  ∃ (x54_19a : Int) (x54_19b : ByteArray) (x54_19c : Sl) (x54_19d : Int) (x54_19e : Bool) (x54_19f : Bool), cellsAt ro σ (p53_18.add (Int.toNat x50_17 * 6)) 0 [.int .i64 x54_19a, .string x54_19b, Sl.v x54_19c, .int .i64 x54_19d, .bool x54_19e, .bool x54_19f] ∧
  nw ro σ (.cells #[.int .i64 0, .string ByteArray.empty, Sl.v (⟨none, 0, 0⟩ : Sl), .int .i64 0, .bool false, .bool false] 82) fun x16_20 σ =>
  stN ⟨x16_20, 0, none⟩ (fun σ =>
   ∃ (x56_21a : Int) (x56_21b : ByteArray) (x56_21c : Sl) (x56_21d : Int) (x56_21e : Bool) (x56_21f : Bool), cellsAt ro σ ⟨x16_20, 0, none⟩ 0 [.int .i64 x56_21a, .string x56_21b, Sl.v x56_21c, .int .i64 x56_21d, .bool x56_21e, .bool x56_21f] ∧
   c_multi_work_do B ro (some ⟨x47_9, 0, none⟩) x56_21a x56_21b x56_21c x56_21d x56_21e x56_21f σ fun x57_22 σ =>
   if ¬ (x57_22 = 0) then
    stN ⟨x10_2, 0, none⟩ (fun σ =>
     ∃ (x10_23a : Sl) (x10_23b : Sl) (x10_23c : Int), cellsAt ro σ ⟨x10_2, 0, none⟩ 0 [Sl.v x10_23a, Sl.v x10_23b, .int .i64 x10_23c] ∧
     Q x10_23a x10_23b x10_23c x57_22 σ) [Sl.v (⟨none, 0, 0⟩ : Sl), Sl.v (⟨none, 0, 0⟩ : Sl), .int .i64 x50_17] 0 σ
   else
   Y16 (IntKind.i64.wrap (x50_17 + 1)) σ) [.int .i64 x54_19a, .string x54_19b, Sl.v x54_19c, .int .i64 x54_19d, .bool x54_19e, .bool x54_19f] 0 σ
 else
 j10_multi_Apply B ro a0 x10_2 x39_6 x47_9 Q σ

def f_multi_Apply (B : World) (ro : AH) (a0 : Option Addr) (a1 : ByteArray) (a2 : Int) (a3_0 : Int) (a3_1 : Int) (a4 : Sl) (σ : AH) (Q : Sl → Sl → Int → Int → AH → Prop) : Prop :=
 nw ro σ (.cells #[.int .i64 a3_0, .int .i64 a3_1] 69) fun x8_1 σ =>
 nw ro σ (.cells #[Sl.v (⟨none, 0, 0⟩ : Sl), Sl.v (⟨none, 0, 0⟩ : Sl), .int .i64 0] 77) fun x10_2 σ =>
 if ((a4.len : Int) = 0) ∨ (16 < (a4.len : Int)) then
  stN ⟨x10_2, 0, none⟩ (fun σ =>
   ∃ (x10_3a : Sl) (x10_3b : Sl) (x10_3c : Int), cellsAt ro σ ⟨x10_2, 0, none⟩ 0 [Sl.v x10_3a, Sl.v x10_3b, .int .i64 x10_3c] ∧
   Q x10_3a x10_3b x10_3c 80 σ) [Sl.v (⟨none, 0, 0⟩ : Sl), Sl.v (⟨none, 0, 0⟩ : Sl), .int .i64 0] 0 σ
 else
 if (a2 < 1) ∨ (4611686018427387903 < a2) then
  stN ⟨x10_2, 0, none⟩ (fun σ =>
   ∃ (x10_4a : Sl) (x10_4b : Sl) (x10_4c : Int), cellsAt ro σ ⟨x10_2, 0, none⟩ 0 [Sl.v x10_4a, Sl.v x10_4b, .int .i64 x10_4c] ∧
   Q x10_4a x10_4b x10_4c 10 σ) [Sl.v (⟨none, 0, 0⟩ : Sl), Sl.v (⟨none, 0, 0⟩ : Sl), .int .i64 0] 0 σ
 else
 c_ztree_Tree_Encode B ro a0 σ fun x38_5 σ =>
 c_ztree_Decode B ro x38_5 σ fun x39_6 x39_7 σ =>
 ∃ (x45_8a : Int) (x45_8b : Int), cellsAt ro σ ⟨x8_1, 0, none⟩ 0 [.int .i64 x45_8a, .int .i64 x45_8b] ∧
 nw ro σ (.cells #[Sl.v (⟨none, 0, 0⟩ : Sl), Sl.v (⟨none, 0, 0⟩ : Sl), .int .i64 0, .pointer x39_6, .string a1, .int .i64 a2, .int .i64 x45_8a, .int .i64 x45_8b] 173) fun x47_9 σ =>
 lfpD (l16_multi_Apply B ro a0 a4 x10_2 x39_6 x47_9 Q ) (0) σ

set_option maxRecDepth 100000 in
set_option maxHeartbeats 4000000 in
theorem multi_Apply_ok {B : World} {ro : AH} {a0 : Option Addr} {a1 : ByteArray} {a2 : Int} {a3_0 : Int} {a3_1 : Int} {a4 : Sl} {σ : AH} {Q : Sl → Sl → Int → Int → AH → Prop} (h : Sep ro σ → f_multi_Apply B ro a0 a1 a2 a3_0 a3_1 a4 σ Q) : c_multi_Apply B ro a0 a1 a2 a3_0 a3_1 a4 σ Q := by
  refine ACalls.of_sep fun hsep => ?_
  replace h := h hsep
  refine ACalls.of_body (args := [.pointer a0, .string a1, .int .i64 a2, .agg #[.int .i64 a3_0, .int .i64 a3_1], Sl.v a4]) Tryz.func36 rfl (by rw [Tryz.ntmps36]; simp) ?_
  rw [Tryz.ntmps36]
  unfold f_multi_Apply at h
  refine AW.seq ?_
  refine AW.reg ?_
  refine Ls rfl rfl (X_new (A_box rfl rfl) fun x8_1 g1 g2 => ?_)
  replace h := h x8_1 g1 g2
  refine Ls rfl rfl (X_new (A_alloc rfl ty77) fun x10_2 g1 g2 => ?_)
  replace h := h x10_2 g1 g2
  refine Lp (V_asg rfl rfl) rfl rfl ?_
  refine Lnil ?_
  refine thenN ?_
  refine AW.seq ?_
  refine AW.block ?_
  refine AW.seq ?_
  refine AW.reg ?_
  refine Lp (V_move rfl rfl) rfl rfl ?_
  refine Lp (V_lenL rfl rfl Tryz.underlying70 rfl rfl) rfl rfl ?_
  refine Lp (V_eql rfl rfl rfl) rfl rfl ?_
  refine Lp (V_move rfl rfl) rfl rfl ?_
  refine Lsplit 4 (decide ((a4.len : Int) = 0)) [(0, .pointer a0), (1, .string a1), (2, .int .i64 a2), (4, Sl.v a4), (8, .pointer (some ⟨x8_1, 0, none⟩)), (10, .pointer (some ⟨x10_2, 0, none⟩)), (26, .bool ((decide ((a4.len : Int) = 0)) || (decide (16 < (a4.len : Int)))))] ?_ ?_ ?_
  · intro e3 hk3
    refine Ln rfl rfl rfl rfl (.inl (by rw [e3]; rfl)) ?_
    refine Ln rfl rfl rfl rfl (.inl (by rw [e3]; rfl)) ?_
    refine Ln rfl rfl rfl rfl (.inl (by rw [e3]; rfl)) ?_
    refine Lp (V_pickT rfl (evb e3) rfl) rfl rfl ?_
    exact hk3 _ (FrLe.cons rfl (FrLe.cons rfl (FrLe.cons rfl (FrLe.cons rfl (FrLe.cons rfl (FrLe.cons rfl (FrLe.cons (by rw [e3]; rfl) (FrLe.nil _))))))))
  · intro e3 hk3
    refine Lypb (V_move rfl rfl) rfl rfl rfl rfl e3 ?_
    refine Lypb (V_lenL rfl rfl Tryz.underlying70 rfl rfl) rfl rfl rfl rfl e3 ?_
    refine Lypb (V_gtr rfl rfl rfl) rfl rfl rfl rfl e3 ?_
    refine Lp (V_pickF rfl (evb e3) rfl) rfl rfl ?_
    exact hk3 _ (FrLe.cons rfl (FrLe.cons rfl (FrLe.cons rfl (FrLe.cons rfl (FrLe.cons rfl (FrLe.cons rfl (FrLe.cons (by rw [e3]; rfl) (FrLe.nil _))))))))
  intro fr hl
  refine Lfr hl ?_
  refine Lp (V_asg rfl rfl) rfl rfl ?_
  refine Lnil ?_
  refine thenN ?_
  refine AW.iff rfl (bor_iff decide_eq_true_iff decide_eq_true_iff) h (fun h => ?_) (fun h => ?_)
  · refine AW.seq ?_
    refine AW.reg ?_
    refine Lp (V_bld (vs := []) (cs := #[Sl.v (⟨none, 0, 0⟩ : Sl), Sl.v (⟨none, 0, 0⟩ : Sl), .int .i64 0]) rfl Tryz.underlying77 ty77 pl77 rfl rfl) rfl rfl ?_
    refine Ls rfl rfl (X_st rfl ty77 rfl rfl rfl rfl (stN_mono h fun σ h => ?_))
    refine Lp (V_asg rfl rfl) rfl rfl ?_
    refine Lnil ?_
    refine thenN ?_
    refine AW.ret ?_
    refine blockR ?_
    refine thenR ?_
    obtain ⟨x10_3a, x10_3b, x10_3c, hc0, h⟩ := h
    exact bRM Tryz.results36 (rCons (rAgg rfl Tryz.underlying77 rfl ty77 hc0) (rCons (rTmp rfl) rNil)) ⟨_, _, _, _, rfl, h⟩
  refine AW.seq ?_
  refine AW.reg ?_
  refine Lp (V_move rfl rfl) rfl rfl ?_
  refine Lp (V_lss rfl rfl rfl) rfl rfl ?_
  refine Lp (V_move rfl rfl) rfl rfl ?_
  refine Lsplit 3 (decide (a2 < 1)) [(0, .pointer a0), (1, .string a1), (2, .int .i64 a2), (4, Sl.v a4), (8, .pointer (some ⟨x8_1, 0, none⟩)), (10, .pointer (some ⟨x10_2, 0, none⟩)), (34, .bool ((decide (a2 < 1)) || (decide (4611686018427387903 < a2))))] ?_ ?_ ?_
  · intro e2 hk2
    refine Ln rfl rfl rfl rfl (.inl (by rw [e2]; rfl)) ?_
    refine Ln rfl rfl rfl rfl (.inl (by rw [e2]; rfl)) ?_
    refine Lp (V_pickT rfl (evb e2) rfl) rfl rfl ?_
    exact hk2 _ (FrLe.cons rfl (FrLe.cons rfl (FrLe.cons rfl (FrLe.cons rfl (FrLe.cons rfl (FrLe.cons rfl (FrLe.cons (by rw [e2]; rfl) (FrLe.nil _))))))))
  · intro e2 hk2
    refine Lypb (V_move rfl rfl) rfl rfl rfl rfl e2 ?_
    refine Lypb (V_gtr rfl rfl rfl) rfl rfl rfl rfl e2 ?_
    refine Lp (V_pickF rfl (evb e2) rfl) rfl rfl ?_
    exact hk2 _ (FrLe.cons rfl (FrLe.cons rfl (FrLe.cons rfl (FrLe.cons rfl (FrLe.cons rfl (FrLe.cons rfl (FrLe.cons (by rw [e2]; rfl) (FrLe.nil _))))))))
  intro fr hl
  refine Lfr hl ?_
  refine Lp (V_asg rfl rfl) rfl rfl ?_
  refine Lnil ?_
  refine thenN ?_
  refine AW.iff rfl (bor_iff decide_eq_true_iff decide_eq_true_iff) h (fun h => ?_) (fun h => ?_)
  · refine AW.seq ?_
    refine AW.reg ?_
    refine Lp (V_bld (vs := []) (cs := #[Sl.v (⟨none, 0, 0⟩ : Sl), Sl.v (⟨none, 0, 0⟩ : Sl), .int .i64 0]) rfl Tryz.underlying77 ty77 pl77 rfl rfl) rfl rfl ?_
    refine Ls rfl rfl (X_st rfl ty77 rfl rfl rfl rfl (stN_mono h fun σ h => ?_))
    refine Lp (V_asg rfl rfl) rfl rfl ?_
    refine Lnil ?_
    refine thenN ?_
    refine AW.ret ?_
    refine blockR ?_
    refine thenR ?_
    obtain ⟨x10_4a, x10_4b, x10_4c, hc0, h⟩ := h
    exact bRM Tryz.results36 (rCons (rAgg rfl Tryz.underlying77 rfl ty77 hc0) (rCons (rTmp rfl) rNil)) ⟨_, _, _, _, rfl, h⟩
  refine AW.skip ?_
  refine blockN ?_
  refine thenN ?_
  refine AW.seq ?_
  refine AW.reg ?_
  refine Lp (V_move rfl rfl) rfl rfl ?_
  refine Ls rfl rfl (X_call rfl Tryz.func21 rfl rfl rfl (ACalls.mono h ?_))
  rintro v σ ⟨x38_5, rfl, h⟩
  refine Ls rfl rfl (X_call rfl Tryz.func27 rfl rfl rfl (ACalls.mono h ?_))
  rintro v σ ⟨x39_6, x39_7, rfl, h⟩
  refine Lp (V_move rfl rfl) rfl rfl ?_
  refine Lp (V_ext rfl rfl rfl) rfl rfl ?_
  refine Lp (V_ext rfl rfl rfl) rfl rfl ?_
  refine Lp (V_asg rfl rfl) rfl rfl ?_
  refine Lp (V_asg rfl rfl) rfl rfl ?_
  refine Lnil ?_
  refine thenN ?_
  refine AW.seq ?_
  refine AW.reg ?_
  refine Lp (V_move rfl rfl) rfl rfl ?_
  refine Lp (V_move rfl rfl) rfl rfl ?_
  refine Lp (V_move rfl rfl) rfl rfl ?_
  obtain ⟨x45_8a, x45_8b, hc, h⟩ := h
  refine Ls rfl rfl (X_lda rfl Tryz.underlying69 rfl ty69 rfl hc ?_)
  refine Lp (V_bld (vs := [(1, .pointer x39_6), (2, .string a1), (3, .int .i64 a2), (4, .agg #[.int .i64 x45_8a, .int .i64 x45_8b])]) (cs := #[Sl.v (⟨none, 0, 0⟩ : Sl), Sl.v (⟨none, 0, 0⟩ : Sl), .int .i64 0, .pointer x39_6, .string a1, .int .i64 a2, .int .i64 x45_8a, .int .i64 x45_8b]) rfl Tryz.underlying173 ty173 pl173 rfl rfl) rfl rfl ?_
  refine Ls rfl rfl (X_new (A_box rfl rfl) fun x47_9 g1 g2 => ?_)
  replace h := h x47_9 g1 g2
  refine Lp (V_asg rfl rfl) rfl rfl ?_
  refine Lnil ?_
  refine thenN ?_
  refine AW.seqJ (fun fr σ => FrLe [(0, .pointer a0), (10, .pointer (some ⟨x10_2, 0, none⟩)), (12, .pointer x39_6), (14, .pointer (some ⟨x47_9, 0, none⟩))] fr ∧ j10_multi_Apply B ro a0 x10_2 x39_6 x47_9 Q σ) ?_ ?_
  · rintro fr σ ⟨hl, h⟩
    refine AW.weaken ?_ hl (HLe.refl _)
    unfold j10_multi_Apply at h
    refine AW.seq ?_
    refine AW.reg ?_
    refine Lp (V_move rfl rfl) rfl rfl ?_
    refine Lp (V_move rfl rfl) rfl rfl ?_
    obtain ⟨p66_11, hc, h⟩ := h
    refine Lp (V_nil rfl (by rw [← hc]; rfl)) rfl rfl ?_
    obtain ⟨x67_12, hc, h⟩ := h
    refine Ls rfl rfl (X_lda rfl Tryz.underlying128 rfl ty128 rfl hc ?_)
    obtain ⟨p68_13, hc, h⟩ := h
    refine Lp (V_nil rfl (by rw [← hc]; rfl)) rfl rfl ?_
    refine Ls rfl rfl (X_st rfl ty128 rfl rfl rfl rfl (stN_mono h fun σ h => ?_))
    refine Lnil ?_
    refine thenN ?_
    refine AW.seq ?_
    refine AW.reg ?_
    refine Lp (V_move rfl rfl) rfl rfl ?_
    refine Lp (V_nil rfl rfl) rfl rfl ?_
    refine Lp (V_fld rfl Tryz.underlying173 rfl ty77 (by decide) rfl) rfl rfl ?_
    refine Lp (V_fld rfl Tryz.underlying77 rfl ty3 (by decide) rfl) rfl rfl ?_
    refine Ls rfl rfl (X_st rfl ty3 rfl rfl rfl rfl (stN_mono h fun σ h => ?_))
    refine Lnil ?_
    refine thenN ?_
    refine AW.seq ?_
    refine AW.reg ?_
    refine Lp (V_move rfl rfl) rfl rfl ?_
    refine Lp (V_nil rfl rfl) rfl rfl ?_
    refine Lp (V_fld rfl Tryz.underlying173 rfl ty77 (by decide) rfl) rfl rfl ?_
    obtain ⟨x76_14a, x76_14b, x76_14c, hc, h⟩ := h
    refine Ls rfl rfl (X_lda rfl Tryz.underlying77 rfl ty77 rfl hc ?_)
    refine Ls rfl rfl (X_st rfl ty77 rfl rfl rfl rfl (stN_mono h fun σ h => ?_))
    refine Lp (V_asg rfl rfl) rfl rfl ?_
    refine Lnil ?_
    refine thenN ?_
    refine AW.ret ?_
    obtain ⟨x10_15a, x10_15b, x10_15c, hc0, h⟩ := h
    exact bRM Tryz.results36 (rCons (rAgg rfl Tryz.underlying77 rfl ty77 hc0) (rCons (rTmp rfl) rNil)) ⟨_, _, _, _, rfl, h⟩
  refine AW.seq ?_
  refine AW.reg ?_
  refine Lp (V_move rfl rfl) rfl rfl ?_
  refine Lp (V_lenL rfl rfl Tryz.underlying70 rfl rfl) rfl rfl ?_
  refine Lp (V_move rfl rfl) rfl rfl ?_
  refine Lnil ?_
  refine thenN ?_
  refine AW.block ?_
  refine ARound.loop (fr' := [(0, .pointer a0), (10, .pointer (some ⟨x10_2, 0, none⟩)), (12, .pointer x39_6), (14, .pointer (some ⟨x47_9, 0, none⟩)), (48, Sl.v a4), (49, .int .i64 (a4.len : Int)), (50, .int .i64 0)]) ?_ (FrLe.cons rfl (FrLe.cons rfl (FrLe.cons rfl (FrLe.cons rfl (FrLe.cons rfl (FrLe.cons rfl (FrLe.cons rfl (FrLe.nil _))))))))
  refine h (fun x50_17 σ => ARound _ _ _ _ _ _ [(0, .pointer a0), (10, .pointer (some ⟨x10_2, 0, none⟩)), (12, .pointer x39_6), (14, .pointer (some ⟨x47_9, 0, none⟩)), (48, Sl.v a4), (49, .int .i64 (a4.len : Int)), (50, .int .i64 x50_17)] σ) ?_
  rintro x50_17 σ Y16 hY16 h
  show AW _ _ _ _ _ _ _ _
  unfold l16_multi_Apply at h
  refine AW.seq ?_
  refine AW.reg ?_
  refine Lp (V_lss rfl rfl rfl) rfl rfl ?_
  refine Lnil ?_
  refine thenN ?_
  refine AW.seq ?_
  refine AW.iff rfl decide_eq_true_iff h (fun h => ?_) (fun h => ?_)
  rotate_left
  · refine AW.exit ?_
    refine thenE ?_
    refine thenE ?_
    refine blockE ?_
    refine thenN ?_
    exact ⟨(FrLe.cons rfl (FrLe.cons rfl (FrLe.cons rfl (FrLe.cons rfl (FrLe.nil _))))), h⟩
  refine AW.skip ?_
  refine thenN ?_
  refine AW.seq ?_
  refine AW.block ?_
  refine AW.seq ?_
  refine AW.reg ?_
  refine Lp (V_move rfl rfl) rfl rfl ?_
  obtain ⟨p53_18, ha, h0, h1, h⟩ := h
  refine Lp (V_ixA rfl Tryz.underlying70 ty82 (ixL rfl ha) rfl h0 h1) rfl rfl ?_
  obtain ⟨x54_19a, x54_19b, x54_19c, x54_19d, x54_19e, x54_19f, hc, h⟩ := h
  refine Ls rfl rfl (X_lda rfl Tryz.underlying82 rfl ty82 rfl hc ?_)
  refine Ls rfl rfl (X_new (A_alloc rfl ty82) fun x16_20 g1 g2 => ?_)
  replace h := h x16_20 g1 g2
  refine Lp (V_asg rfl rfl) rfl rfl ?_
  refine Ls rfl rfl (X_st rfl ty82 rfl rfl rfl rfl (stN_mono h fun σ h => ?_))
  refine Lnil ?_
  refine thenN ?_
  refine AW.seq ?_
  refine AW.reg ?_
  refine Lp (V_move rfl rfl) rfl rfl ?_
  obtain ⟨x56_21a, x56_21b, x56_21c, x56_21d, x56_21e, x56_21f, hc, h⟩ := h
  refine Ls rfl rfl (X_lda rfl Tryz.underlying82 rfl ty82 rfl hc ?_)
  refine Ls rfl rfl (X_call rfl Tryz.func96 rfl rfl rfl (ACalls.mono h ?_))
  rintro v σ ⟨x57_22, rfl, h⟩
  refine Lp (V_asg rfl rfl) rfl rfl ?_
  refine Lnil ?_
  refine thenN ?_
  refine AW.seq ?_
  refine AW.reg ?_
  refine Lp (V_move rfl rfl) rfl rfl ?_
  refine Lp (V_neq rfl rfl rfl) rfl rfl ?_
  refine Lnil ?_
  refine thenN ?_
  refine AW.iff rfl (bnot_iff decide_eq_true_iff) h (fun h => ?_) (fun h => ?_)
  rotate_left
  · refine AW.skip ?_
    refine blockN ?_
    refine thenN ?_
    refine AW.reg ?_
    refine Lp (V_add rfl rfl rfl) rfl rfl ?_
    refine Lp (V_move rfl rfl) rfl rfl ?_
    refine Lnil ?_
    refine thenN ?_
    refine ARound.head (fr' := [(0, .pointer a0), (10, .pointer (some ⟨x10_2, 0, none⟩)), (12, .pointer x39_6), (14, .pointer (some ⟨x47_9, 0, none⟩)), (48, Sl.v a4), (49, .int .i64 (a4.len : Int)), (50, .int .i64 (IntKind.i64.wrap (x50_17 + 1)))]) ?_ (FrLe.cons rfl (FrLe.cons rfl (FrLe.cons rfl (FrLe.cons rfl (FrLe.cons rfl (FrLe.cons rfl (FrLe.cons rfl (FrLe.nil _))))))))
    exact hY16 _ _ h
  refine AW.seq ?_
  refine AW.reg ?_
  refine Lp (V_move rfl rfl) rfl rfl ?_
  refine Lp (V_bld (vs := [(2, .int .i64 x50_17)]) (cs := #[Sl.v (⟨none, 0, 0⟩ : Sl), Sl.v (⟨none, 0, 0⟩ : Sl), .int .i64 x50_17]) rfl Tryz.underlying77 ty77 pl77 rfl rfl) rfl rfl ?_
  refine Lp (V_move rfl rfl) rfl rfl ?_
  refine Ls rfl rfl (X_st rfl ty77 rfl rfl rfl rfl (stN_mono h fun σ h => ?_))
  refine Lp (V_asg rfl rfl) rfl rfl ?_
  refine Lnil ?_
  refine thenN ?_
  refine AW.ret ?_
  refine blockR ?_
  refine thenR ?_
  refine thenR ?_
  refine blockR ?_
  refine thenR ?_
  obtain ⟨x10_23a, x10_23b, x10_23c, hc0, h⟩ := h
  exact bRM Tryz.results36 (rCons (rAgg rfl Tryz.underlying77 rfl ty77 hc0) (rCons (rTmp rfl) rNil)) ⟨_, _, _, _, rfl, h⟩

def j3_multi_Usage (B : World) (ro : AH) (x4_1 : Nat) (x5_2 : Nat) (Q : Int → Int → AH → Prop) (σ : AH) : Prop :=
 ∃ (x70_4a : Int) (x70_4b : Int), cellsAt ro σ ⟨x5_2, 0, none⟩ 0 [.int .i64 x70_4a, .int .i64 x70_4b] ∧
 stN ⟨x4_1, 0, none⟩ (fun σ =>
  ∃ (x4_5a : Int) (x4_5b : Int), cellsAt ro σ ⟨x4_1, 0, none⟩ 0 [.int .i64 x4_5a, .int .i64 x4_5b] ∧
  Q x4_5a x4_5b σ) [.int .i64 x70_4a, .int .i64 x70_4b] 0 σ

def j8_multi_Usage (B : World) (ro : AH) (a0 : Option Addr) (a1 : Sl) (x4_1 : Nat) (x5_2 : Nat) (x19_7 : Int) (Q : Int → Int → AH → Prop) (Y6 : (Int) → AH → Prop) (σ : AH) : Prop :=
 Y6 (IntKind.i64.wrap (x19_7 + 1)) σ

def j15_multi_Usage (B : World) (ro : AH) (a0 : Option Addr) (a1 : Sl) (x4_1 : Nat) (x5_2 : Nat) (x19_7 : Int) (x22_10 : ByteArray) (x27_11 : Sl) (x32_14 : Int) (Q : Int → Int → AH → Prop) (Y6 : (Int) → AH → Prop) (Y13 : (Int) → AH → Prop) (σ : AH) : Prop :=
 Y13 (IntKind.i64.wrap (x32_14 + 1)) σ

def l13_multi_Usage (B : World) (ro : AH) (a0 : Option Addr) (a1 : Sl) (x4_1 : Nat) (x5_2 : Nat) (x19_7 : Int) (x22_10 : ByteArray) (x27_11 : Sl) (Q : Int → Int → AH → Prop) (Y6 : (Int) → AH → Prop) : (Int) → AH → ((Int) → AH → Prop) → Prop := fun x32_14 σ Y13 =>
 if x32_14 < (x27_11.len : Int) then
  ∃ p34_16 : Addr, x27_11.a = some p34_16 ∧ (0 : Int) ≤ x32_14 ∧ x32_14 < (x27_11.len : Int) ∧
  ∃ (x35_17 : ByteArray), acell ro σ (p34_16.add (Int.toNat x32_14 * 1)) = some (.string x35_17) ∧
  c_path_Home B ro x35_17 σ fun x38_18 x38_19 σ =>
  if (¬ (x38_18 = x22_10)) ∨ (x22_10 = (⟨#[]⟩ : ByteArray)) then
   j15_multi_Usage B ro a0 a1 x4_1 x5_2 x19_7 x22_10 x27_11 x32_14 Q Y6 Y13 σ
  else
  c_ztree_Tree_Get B ro a0 x35_17 σ fun x51_20 x51_21a x51_21b x51_21c x51_21d x51_22 σ =>
  nw ro σ (.cells #[.int .i64 0, .int .i64 0, .int .i64 0, .int .i64 0] 32) fun x15_23 σ =>
  stN ⟨x15_23, 0, none⟩ (fun σ =>
   ∃ (x56_24 : Int), acell ro σ ⟨x5_2, 0, none⟩ = some (.int .i64 x56_24) ∧
   stN ⟨x5_2, 0, none⟩ (fun σ =>
    ∃ (x60_25 : Int), acell ro σ ((⟨x5_2, 0, none⟩ : Addr).add 1) = some (.int .i64 x60_25) ∧
    stN ((⟨x5_2, 0, none⟩ : Addr).add 1) (fun σ =>
     j15_multi_Usage B ro a0 a1 x4_1 x5_2 x19_7 x22_10 x27_11 x32_14 Q Y6 Y13 σ) [.int .i64 (IntKind.i64.wrap (x60_25 + (IntKind.i64.wrap ((x35_17.size : Int) + (x51_20.len : Int)))))] 0 σ) [.int .i64 (IntKind.i64.wrap (x56_24 + 1))] 0 σ) [.int .i64 x51_21a, .int .i64 x51_21b, .int .i64 x51_21c, .int .i64 x51_21d] 0 σ
 else
 j8_multi_Usage B ro a0 a1 x4_1 x5_2 x19_7 Q Y6 σ

def l6_multi_Usage (B : World) (ro : AH) (a0 : Option Addr) (a1 : Sl) (x4_1 : Nat) (x5_2 : Nat) (Q : Int → Int → AH → Prop) : (Int) → AH → ((Int) → AH → Prop) → Prop := fun x19_7 σ Y6 =>
 if x19_7 < (a1.len : Int) then
  ∃ p21_9 : Addr, a1.a = some p21_9 ∧ (0 : Int) ≤ x19_7 ∧ x19_7 < (a1.len : Int) ∧
  ∃ (x22_10 : ByteArray), acell ro σ (p21_9.add (Int.toNat x19_7 * 1)) = some (.string x22_10) ∧
  (⟨#[47]⟩ : ByteArray).size + x22_10.size ≤ 9223372036854775807 ∧
  c_ztree_Tree_Paths B ro a0 ((⟨#[47]⟩ : ByteArray) ++ x22_10) σ fun x27_11 x27_12 σ =>
  lfpD (l13_multi_Usage B ro a0 a1 x4_1 x5_2 x19_7 x22_10 x27_11 Q Y6 ) (0) σ
 else
 j3_multi_Usage B ro x4_1 x5_2 Q σ

def f_multi_Usage (B : World) (ro : AH) (a0 : Option Addr) (a1 : Sl) (σ : AH) (Q : Int → Int → AH → Prop) : Prop :=
 nw ro σ (.cells #[.int .i64 0, .int .i64 0] 69) fun x4_1 σ =>
 nw ro σ (.cells #[.int .i64 0, .int .i64 0] 69) fun x5_2 σ =>
 lfpD (l6_multi_Usage B ro a0 a1 x4_1 x5_2 Q ) (0) σ

set_option maxRecDepth 100000 in
set_option maxHeartbeats 4000000 in
theorem multi_Usage_ok {B : World} {ro : AH} {a0 : Option Addr} {a1 : Sl} {σ : AH} {Q : Int → Int → AH → Prop} (h : Sep ro σ → f_multi_Usage B ro a0 a1 σ Q) : c_multi_Usage B ro a0 a1 σ Q := by
  refine ACalls.of_sep fun hsep => ?_
  replace h := h hsep
  refine ACalls.of_body (args := [.pointer a0, Sl.v a1]) Tryz.func39 rfl (by rw [Tryz.ntmps39]; simp) ?_
  rw [Tryz.ntmps39]
  unfold f_multi_Usage at h
  refine AW.seq ?_
  refine AW.reg ?_
  refine Ls rfl rfl (X_new (A_alloc rfl ty69) fun x4_1 g1 g2 => ?_)
  replace h := h x4_1 g1 g2
  refine Lnil ?_
  refine thenN ?_
  refine AW.seq ?_
  refine AW.reg ?_
  refine Ls rfl rfl (X_new (A_alloc rfl ty69) fun x5_2 g1 g2 => ?_)
  replace h := h x5_2 g1 g2
  refine Lnil ?_
  refine thenN ?_
  refine AW.seqJ (fun fr σ => FrLe [(4, .pointer (some ⟨x4_1, 0, none⟩)), (5, .pointer (some ⟨x5_2, 0, none⟩))] fr ∧ j3_multi_Usage B ro x4_1 x5_2 Q σ) ?_ ?_
  · rintro fr σ ⟨hl, h⟩
    refine AW.weaken ?_ hl (HLe.refl _)
    unfold j3_multi_Usage at h
    refine AW.seq ?_
    refine AW.reg ?_
    obtain ⟨x70_4a, x70_4b, hc, h⟩ := h
    refine Ls rfl rfl (X_lda rfl Tryz.underlying69 rfl ty69 rfl hc ?_)
    refine Ls rfl rfl (X_st rfl ty69 rfl rfl rfl rfl (stN_mono h fun σ h => ?_))
    refine Lnil ?_
    refine thenN ?_
    refine AW.ret ?_
    obtain ⟨x4_5a, x4_5b, hc0, h⟩ := h
    exact bRM1 Tryz.results39 (rCons (rAgg rfl Tryz.underlying69 rfl ty69 hc0) rNil) ⟨_, _, rfl, h⟩
  refine AW.seq ?_
  refine AW.reg ?_
  refine Lp (V_move rfl rfl) rfl rfl ?_
  refine Lp (V_lenL rfl rfl Tryz.underlying25 rfl rfl) rfl rfl ?_
  refine Lp (V_move rfl rfl) rfl rfl ?_
  refine Lnil ?_
  refine thenN ?_
  refine AW.block ?_
  refine ARound.loop (fr' := [(0, .pointer a0), (4, .pointer (some ⟨x4_1, 0, none⟩)), (5, .pointer (some ⟨x5_2, 0, none⟩)), (17, Sl.v a1), (18, .int .i64 (a1.len : Int)), (19, .int .i64 0)]) ?_ (FrLe.cons rfl (FrLe.cons rfl (FrLe.cons rfl (FrLe.cons rfl (FrLe.cons rfl (FrLe.cons rfl (FrLe.nil _)))))))
  refine h (fun x19_7 σ => ARound _ _ _ _ _ _ [(0, .pointer a0), (4, .pointer (some ⟨x4_1, 0, none⟩)), (5, .pointer (some ⟨x5_2, 0, none⟩)), (17, Sl.v a1), (18, .int .i64 (a1.len : Int)), (19, .int .i64 x19_7)] σ) ?_
  rintro x19_7 σ Y6 hY6 h
  show AW _ _ _ _ _ _ _ _
  unfold l6_multi_Usage at h
  refine AW.seq ?_
  refine AW.reg ?_
  refine Lp (V_lss rfl rfl rfl) rfl rfl ?_
  refine Lnil ?_
  refine thenN ?_
  refine AW.seq ?_
  refine AW.iff rfl decide_eq_true_iff h (fun h => ?_) (fun h => ?_)
  rotate_left
  · refine AW.exit ?_
    refine thenE ?_
    refine thenE ?_
    refine blockE ?_
    refine thenN ?_
    exact ⟨(FrLe.cons rfl (FrLe.cons rfl (FrLe.nil _))), h⟩
  refine AW.skip ?_
  refine thenN ?_
  refine AW.seqJ (fun fr σ => FrLe [(0, .pointer a0), (4, .pointer (some ⟨x4_1, 0, none⟩)), (5, .pointer (some ⟨x5_2, 0, none⟩)), (17, Sl.v a1), (18, .int .i64 (a1.len : Int)), (19, .int .i64 x19_7)] fr ∧ j8_multi_Usage B ro a0 a1 x4_1 x5_2 x19_7 Q Y6 σ) ?_ ?_
  · rintro fr σ ⟨hl, h⟩
    refine AW.weaken ?_ hl (HLe.refl _)
    unfold j8_multi_Usage at h
    refine AW.reg ?_
    refine Lp (V_add rfl rfl rfl) rfl rfl ?_
    refine Lp (V_move rfl rfl) rfl rfl ?_
    refine Lnil ?_
    refine thenN ?_
    refine ARound.head (fr' := [(0, .pointer a0), (4, .pointer (some ⟨x4_1, 0, none⟩)), (5, .pointer (some ⟨x5_2, 0, none⟩)), (17, Sl.v a1), (18, .int .i64 (a1.len : Int)), (19, .int .i64 (IntKind.i64.wrap (x19_7 + 1)))]) ?_ (FrLe.cons rfl (FrLe.cons rfl (FrLe.cons rfl (FrLe.cons rfl (FrLe.cons rfl (FrLe.cons rfl (FrLe.nil _)))))))
    exact hY6 _ _ h
  refine AW.block ?_
  refine AW.seq ?_
  refine AW.reg ?_
  obtain ⟨p21_9, ha, h0, h1, h⟩ := h
  refine Lp (V_ixA rfl Tryz.underlying25 ty9 (ixL rfl ha) rfl h0 h1) rfl rfl ?_
  obtain ⟨x22_10, hc, h⟩ := h
  refine Ls rfl rfl (X_ld rfl Tryz.underlying9 rfl rfl hc ?_)
  refine Lp (V_asg rfl rfl) rfl rfl ?_
  refine Lnil ?_
  refine thenN ?_
  refine AW.seq ?_
  refine AW.reg ?_
  refine Lp (V_move rfl rfl) rfl rfl ?_
  refine Lp (V_move rfl rfl) rfl rfl ?_
  obtain ⟨hc, h⟩ := h
  refine Lp (V_cat rfl rfl rfl hc) rfl rfl ?_
  refine Ls rfl rfl (X_call rfl Tryz.func15 rfl rfl rfl (ACalls.mono h ?_))
  rintro v σ ⟨x27_11, x27_12, rfl, h⟩
  refine Lp (V_move rfl rfl) rfl rfl ?_
  refine Lp (V_ext rfl rfl rfl) rfl rfl ?_
  refine Lp (V_ext rfl rfl rfl) rfl rfl ?_
  refine Lp (V_asg rfl rfl) rfl rfl ?_
  refine Lp (V_asg rfl rfl) rfl rfl ?_
  refine Lnil ?_
  refine thenN ?_
  refine AW.seq ?_
  refine AW.reg ?_
  refine Lp (V_move rfl rfl) rfl rfl ?_
  refine Lp (V_lenL rfl rfl Tryz.underlying25 rfl rfl) rfl rfl ?_
  refine Lp (V_move rfl rfl) rfl rfl ?_
  refine Lnil ?_
  refine thenN ?_
  refine AW.block ?_
  refine ARound.loop (fr' := [(0, .pointer a0), (4, .pointer (some ⟨x4_1, 0, none⟩)), (5, .pointer (some ⟨x5_2, 0, none⟩)), (7, .string x22_10), (17, Sl.v a1), (18, .int .i64 (a1.len : Int)), (19, .int .i64 x19_7), (30, Sl.v x27_11), (31, .int .i64 (x27_11.len : Int)), (32, .int .i64 0)]) ?_ (FrLe.cons rfl (FrLe.cons rfl (FrLe.cons rfl (FrLe.cons rfl (FrLe.cons rfl (FrLe.cons rfl (FrLe.cons rfl (FrLe.cons rfl (FrLe.cons rfl (FrLe.cons rfl (FrLe.nil _)))))))))))
  refine h (fun x32_14 σ => ARound _ _ _ _ _ _ [(0, .pointer a0), (4, .pointer (some ⟨x4_1, 0, none⟩)), (5, .pointer (some ⟨x5_2, 0, none⟩)), (7, .string x22_10), (17, Sl.v a1), (18, .int .i64 (a1.len : Int)), (19, .int .i64 x19_7), (30, Sl.v x27_11), (31, .int .i64 (x27_11.len : Int)), (32, .int .i64 x32_14)] σ) ?_
  rintro x32_14 σ Y13 hY13 h
  show AW _ _ _ _ _ _ _ _
  unfold l13_multi_Usage at h
  refine AW.seq ?_
  refine AW.reg ?_
  refine Lp (V_lss rfl rfl rfl) rfl rfl ?_
  refine Lnil ?_
  refine thenN ?_
  refine AW.seq ?_
  refine AW.iff rfl decide_eq_true_iff h (fun h => ?_) (fun h => ?_)
  rotate_left
  · refine AW.exit ?_
    refine thenE ?_
    refine thenE ?_
    refine blockE ?_
    refine blockN ?_
    refine thenN ?_
    exact ⟨(FrLe.cons rfl (FrLe.cons rfl (FrLe.cons rfl (FrLe.cons rfl (FrLe.cons rfl (FrLe.cons rfl (FrLe.nil _))))))), h⟩
  refine AW.skip ?_
  refine thenN ?_
  refine AW.seqJ (fun fr σ => FrLe [(0, .pointer a0), (4, .pointer (some ⟨x4_1, 0, none⟩)), (5, .pointer (some ⟨x5_2, 0, none⟩)), (7, .string x22_10), (17, Sl.v a1), (18, .int .i64 (a1.len : Int)), (19, .int .i64 x19_7), (30, Sl.v x27_11), (31, .int .i64 (x27_11.len : Int)), (32, .int .i64 x32_14)] fr ∧ j15_multi_Usage B ro a0 a1 x4_1 x5_2 x19_7 x22_10 x27_11 x32_14 Q Y6 Y13 σ) ?_ ?_
  · rintro fr σ ⟨hl, h⟩
    refine AW.weaken ?_ hl (HLe.refl _)
    unfold j15_multi_Usage at h
    refine AW.reg ?_
    refine Lp (V_add rfl rfl rfl) rfl rfl ?_
    refine Lp (V_move rfl rfl) rfl rfl ?_
    refine Lnil ?_
    refine thenN ?_
    refine ARound.head (fr' := [(0, .pointer a0), (4, .pointer (some ⟨x4_1, 0, none⟩)), (5, .pointer (some ⟨x5_2, 0, none⟩)), (7, .string x22_10), (17, Sl.v a1), (18, .int .i64 (a1.len : Int)), (19, .int .i64 x19_7), (30, Sl.v x27_11), (31, .int .i64 (x27_11.len : Int)), (32, .int .i64 (IntKind.i64.wrap (x32_14 + 1)))]) ?_ (FrLe.cons rfl (FrLe.cons rfl (FrLe.cons rfl (FrLe.cons rfl (FrLe.cons rfl (FrLe.cons rfl (FrLe.cons rfl (FrLe.cons rfl (FrLe.cons rfl (FrLe.cons rfl (FrLe.nil _)))))))))))
    exact hY13 _ _ h
  refine AW.block ?_
  refine AW.seq ?_
  refine AW.reg ?_
  obtain ⟨p34_16, ha, h0, h1, h⟩ := h
  refine Lp (V_ixA rfl Tryz.underlying25 ty9 (ixL rfl ha) rfl h0 h1) rfl rfl ?_
  obtain ⟨x35_17, hc, h⟩ := h
  refine Ls rfl rfl (X_ld rfl Tryz.underlying9 rfl rfl hc ?_)
  refine Lp (V_asg rfl rfl) rfl rfl ?_
  refine Lnil ?_
  refine thenN ?_
  refine AW.seq ?_
  refine AW.seq ?_
  refine AW.reg ?_
  refine Lp (V_move rfl rfl) rfl rfl ?_
  refine Ls rfl rfl (X_call rfl Tryz.func97 rfl rfl rfl (ACalls.mono h ?_))
  rintro v σ ⟨x38_18, x38_19, rfl, h⟩
  refine Lp (V_move rfl rfl) rfl rfl ?_
  refine Lp (V_ext rfl rfl rfl) rfl rfl ?_
  refine Lp (V_ext rfl rfl rfl) rfl rfl ?_
  refine Lp (V_asg rfl rfl) rfl rfl ?_
  refine Lp (V_asg rfl rfl) rfl rfl ?_
  refine Lnil ?_
  refine thenN ?_
  refine AW.seq ?_
  refine AW.reg ?_
  refine Lp (V_move rfl rfl) rfl rfl ?_
  refine Lp (V_move rfl rfl) rfl rfl ?_
  refine Lp (V_neqS rfl rfl rfl) rfl rfl ?_
  refine Lp (V_move rfl rfl) rfl rfl ?_
  refine Lsplit 3 (!(decide (x38_18 = x22_10))) [(0, .pointer a0), (4, .pointer (some ⟨x4_1, 0, none⟩)), (5, .pointer (some ⟨x5_2, 0, none⟩)), (7, .string x22_10), (11, .string x35_17), (17, Sl.v a1), (18, .int .i64 (a1.len : Int)), (19, .int .i64 x19_7), (30, Sl.v x27_11), (31, .int .i64 (x27_11.len : Int)), (32, .int .i64 x32_14), (47, .bool ((!(decide (x38_18 = x22_10))) || (decide (x22_10 = (⟨#[]⟩ : ByteArray)))))] ?_ ?_ ?_
  · intro e3 hk3
    refine Ln rfl rfl rfl rfl (.inl (by rw [e3]; rfl)) ?_
    refine Ln rfl rfl rfl rfl (.inl (by rw [e3]; rfl)) ?_
    refine Lp (V_pickT rfl (evb e3) rfl) rfl rfl ?_
    exact hk3 _ (FrLe.cons rfl (FrLe.cons rfl (FrLe.cons rfl (FrLe.cons rfl (FrLe.cons rfl (FrLe.cons rfl (FrLe.cons rfl (FrLe.cons rfl (FrLe.cons rfl (FrLe.cons rfl (FrLe.cons rfl (FrLe.cons (by rw [e3]; rfl) (FrLe.nil _)))))))))))))
  · intro e3 hk3
    refine Lypb (V_move rfl rfl) rfl rfl rfl rfl e3 ?_
    refine Lypb (V_eqlS rfl rfl rfl) rfl rfl rfl rfl e3 ?_
    refine Lp (V_pickF rfl (evb e3) rfl) rfl rfl ?_
    exact hk3 _ (FrLe.cons rfl (FrLe.cons rfl (FrLe.cons rfl (FrLe.cons rfl (FrLe.cons rfl (FrLe.cons rfl (FrLe.cons rfl (FrLe.cons rfl (FrLe.cons rfl (FrLe.cons rfl (FrLe.cons rfl (FrLe.cons (by rw [e3]; rfl) (FrLe.nil _)))))))))))))
  intro fr hl
  refine Lfr hl ?_
  refine Lnil ?_
  refine thenN ?_
  refine AW.iff rfl (bor_iff (bnot_iff decide_eq_true_iff) decide_eq_true_iff) h (fun h => ?_) (fun h => ?_)
  · refine AW.exit ?_
    refine thenE ?_
    refine blockE ?_
    refine thenN ?_
    exact ⟨(FrLe.cons rfl (FrLe.cons rfl (FrLe.cons rfl (FrLe.cons rfl (FrLe.cons rfl (FrLe.cons rfl (FrLe.cons rfl (FrLe.cons rfl (FrLe.cons rfl (FrLe.cons rfl (FrLe.nil _))))))))))), h⟩
  refine AW.skip ?_
  refine thenN ?_
  refine AW.seq ?_
  refine AW.reg ?_
  refine Lp (V_move rfl rfl) rfl rfl ?_
  refine Lp (V_move rfl rfl) rfl rfl ?_
  refine Ls rfl rfl (X_call rfl Tryz.func17 rfl rfl rfl (ACalls.mono h ?_))
  rintro v σ ⟨x51_20, x51_21a, x51_21b, x51_21c, x51_21d, x51_22, rfl, h⟩
  refine Lp (V_move rfl rfl) rfl rfl ?_
  refine Lp (V_ext rfl rfl rfl) rfl rfl ?_
  refine Lp (V_ext rfl rfl rfl) rfl rfl ?_
  refine Lp (V_ext rfl rfl rfl) rfl rfl ?_
  refine Ls rfl rfl (X_new (A_alloc rfl ty32) fun x15_23 g1 g2 => ?_)
  replace h := h x15_23 g1 g2
  refine Lp (V_asg rfl rfl) rfl rfl ?_
  refine Ls rfl rfl (X_st rfl ty32 rfl rfl rfl rfl (stN_mono h fun σ h => ?_))
  refine Lp (V_asg rfl rfl) rfl rfl ?_
  refine Lnil ?_
  refine thenN ?_
  refine AW.seq ?_
  refine AW.reg ?_
  refine Lp (V_fld rfl Tryz.underlying69 rfl ty3 (by decide) rfl) rfl rfl ?_
  obtain ⟨x56_24, hc, h⟩ := h
  refine Ls rfl rfl (X_ld rfl Tryz.underlying3 rfl rfl hc ?_)
  refine Lp (V_add rfl rfl rfl) rfl rfl ?_
  refine Lp (V_fld rfl Tryz.underlying69 rfl ty3 (by decide) rfl) rfl rfl ?_
  refine Ls rfl rfl (X_st rfl ty3 rfl rfl rfl rfl (stN_mono h fun σ h => ?_))
  refine Lnil ?_
  refine thenN ?_
  refine AW.reg ?_
  refine Lp (V_fld rfl Tryz.underlying69 rfl ty3 (by decide) rfl) rfl rfl ?_
  obtain ⟨x60_25, hc, h⟩ := h
  refine Ls rfl rfl (X_ld rfl Tryz.underlying3 rfl rfl hc ?_)
  refine Lp (V_move rfl rfl) rfl rfl ?_
  refine Lp (V_lenS rfl rfl Tryz.underlying9 rfl rfl) rfl rfl ?_
  refine Lp (V_move rfl rfl) rfl rfl ?_
  refine Lp (V_lenL rfl rfl Tryz.underlying30 rfl rfl) rfl rfl ?_
  refine Lp (V_add rfl rfl rfl) rfl rfl ?_
  refine Lp (V_add rfl rfl rfl) rfl rfl ?_
  refine Lp (V_fld rfl Tryz.underlying69 rfl ty3 (by decide) rfl) rfl rfl ?_
  refine Ls rfl rfl (X_st rfl ty3 rfl rfl rfl rfl (stN_mono h fun σ h => ?_))
  refine Lnil ?_
  refine blockN ?_
  refine thenN ?_
  exact ⟨(FrLe.cons rfl (FrLe.cons rfl (FrLe.cons rfl (FrLe.cons rfl (FrLe.cons rfl (FrLe.cons rfl (FrLe.cons rfl (FrLe.cons rfl (FrLe.cons rfl (FrLe.cons rfl (FrLe.nil _))))))))))), h⟩

def j17_multi_work_do (B : World) (ro : AH) (Q : Int → AH → Prop) (σ : AH) : Prop :=
 Q 0 σ

def j10_multi_work_do (B : World) (ro : AH) (a0 : Option Addr) (x3_1 : Nat) (x6_4 : Nat) (x8_7 : Nat) (Q : Int → AH → Prop) (σ : AH) : Prop :=
 ∃ p148_11 : Addr, a0 = some p148_11 ∧
 ∃ (x151_12 : Sl), acell ro σ p148_11 = some (Sl.v x151_12) ∧
 ∃ (x152_13a : ByteArray) (x152_13b : Int), cellsAt ro σ ⟨x6_4, 0, none⟩ 0 [.string x152_13a, .int .i64 x152_13b] ∧
 nw ro σ (.cells #[.string x152_13a, .int .i64 x152_13b] 84) fun x153_14 σ =>
 awp Tryz.prog ro (Builtin.append_ #[74, 74] 74 #[Sl.v x151_12, Sl.v (⟨some ⟨x153_14, 0, none⟩, 1, 1⟩ : Sl)]) (fun v σ => ∃ (x154_15 : Sl), v = Sl.v x154_15 ∧
  ∃ p155_16 : Addr, a0 = some p155_16 ∧
  stN p155_16 (fun σ =>
   ∃ (x159_18 : Int), acell ro σ ⟨x3_1, 0, none⟩ = some (.int .i64 x159_18) ∧
   if ¬ (x159_18 = 4) then
    ∃ p163_19 : Addr, a0 = some p163_19 ∧
    ∃ (x166_20 : Sl), acell ro σ (p163_19.add 1) = some (Sl.v x166_20) ∧
    ∃ (x167_21a : Int) (x167_21b : ByteArray), cellsAt ro σ ⟨x8_7, 0, none⟩ 0 [.int .i64 x167_21a, .string x167_21b] ∧
    nw ro σ (.cells #[.int .i64 x167_21a, .string x167_21b] 108) fun x168_22 σ =>
    awp Tryz.prog ro (Builtin.append_ #[75, 75] 75 #[Sl.v x166_20, Sl.v (⟨some ⟨x168_22, 0, none⟩, 1, 1⟩ : Sl)]) (fun v σ => ∃ (x169_23 : Sl), v = Sl.v x169_23 ∧
     ∃ p170_24 : Addr, a0 = some p170_24 ∧
     stN (p170_24.add 1) (fun σ =>
      j17_multi_work_do B ro Q σ) [Sl.v x169_23] 0 σ) σ
   else
   j17_multi_work_do B ro Q σ) [Sl.v x154_15] 0 σ) σ

def j35_multi_work_do (B : World) (ro : AH) (a0 : Option Addr) (x3_1 : Nat) (x6_4 : Nat) (x8_7 : Nat) (Q : Int → AH → Prop) (x145_36 : Bool) (σ : AH) : Prop :=
 if x145_36 = true then
  Q 81 σ
 else
 j10_multi_work_do B ro a0 x3_1 x6_4 x8_7 Q σ

def j26_multi_work_do (B : World) (ro : AH) (a0 : Option Addr) (x3_1 : Nat) (x6_4 : Nat) (x8_7 : Nat) (Q : Int → AH → Prop) (x117_27 : Bool) (σ : AH) : Prop :=
 if x117_27 = true then
  ∃ p119_28 : Addr, a0 = some p119_28 ∧
  ∃ p123_29 : Addr, a0 = some p123_29 ∧
  ∃ (x121_30 : Option Addr), acell ro σ (p119_28.add 3) = some (.pointer x121_30) ∧
  ∃ (x125_31 : ByteArray), acell ro σ (p123_29.add 4) = some (.string x125_31) ∧
  nw ro σ (.cells #[.string x125_31] 9) fun x126_32 σ =>
  c_multi_Usage B ro x121_30 (⟨some ⟨x126_32, 0, none⟩, 1, 1⟩ : Sl) σ fun x127_33a x127_33b σ =>
  nw ro σ (.cells #[.int .i64 0, .int .i64 0] 69) fun x11_34 σ =>
  stN ⟨x11_34, 0, none⟩ (fun σ =>
   ∃ p131_37 : Addr, a0 = some p131_37 ∧
   ∃ (x129_38 : Int), acell ro σ ⟨x11_34, 0, none⟩ = some (.int .i64 x129_38) ∧
   ∃ (x134_39 : Int), acell ro σ (p131_37.add 6) = some (.int .i64 x134_39) ∧
   if x134_39 < x129_38 then
    j35_multi_work_do B ro a0 x3_1 x6_4 x8_7 Q true σ
   else
   ∃ p140_40 : Addr, a0 = some p140_40 ∧
   ∃ (x138_41 : Int), acell ro σ ((⟨x11_34, 0, none⟩ : Addr).add 1) = some (.int .i64 x138_41) ∧
   ∃ (x143_42 : Int), acell ro σ ((p140_40.add 6).add 1) = some (.int .i64 x143_42) ∧
   j35_multi_work_do B ro a0 x3_1 x6_4 x8_7 Q (decide (x143_42 < x138_41)) σ) [.int .i64 x127_33a, .int .i64 x127_33b] 0 σ
 else
 j10_multi_work_do B ro a0 x3_1 x6_4 x8_7 Q σ

def j8_multi_work_do (B : World) (ro : AH) (a0 : Option Addr) (x3_1 : Nat) (x6_4 : Nat) (x8_7 : Nat) (Q : Int → AH → Prop) (x7_9 : Int) (σ : AH) : Prop :=
 if ¬ (x7_9 = 0) then
  Q x7_9 σ
 else
 ∃ (x111_25 : Int), acell ro σ ⟨x3_1, 0, none⟩ = some (.int .i64 x111_25) ∧
 if x111_25 = 1 then
  j26_multi_work_do B ro a0 x3_1 x6_4 x8_7 Q true σ
 else
 ∃ (x115_43 : Int), acell ro σ ⟨x3_1, 0, none⟩ = some (.int .i64 x115_43) ∧
 j26_multi_work_do B ro a0 x3_1 x6_4 x8_7 Q (decide (x115_43 = 3)) σ

def j45_multi_work_do (B : World) (ro : AH) (a0 : Option Addr) (x3_1 : Nat) (x6_4 : Nat) (x8_7 : Nat) (Q : Int → AH → Prop) (x9_46 : Int) (σ : AH) : Prop :=
 ∃ p35_47 : Addr, a0 = some p35_47 ∧
 ∃ (x37_48 : Option Addr), acell ro σ (p35_47.add 3) = some (.pointer x37_48) ∧
 ∃ (x39_49 : ByteArray), acell ro σ ((⟨x3_1, 0, none⟩ : Addr).add 1) = some (.string x39_49) ∧
 ∃ (x41_50 : Sl), acell ro σ ((⟨x3_1, 0, none⟩ : Addr).add 2) = some (Sl.v x41_50) ∧
 ∃ (x44_51 : Bool), acell ro σ ((⟨x3_1, 0, none⟩ : Addr).add 5) = some (.bool x44_51) ∧
 c_ztree_Tree_Create B ro x37_48 x39_49 x41_50 x9_46 x44_51 σ fun x45_52 x45_53 σ =>
 stN ⟨x6_4, 0, none⟩ (fun σ =>
  ∃ (x50_54 : ByteArray), acell ro σ ⟨x6_4, 0, none⟩ = some (.string x50_54) ∧
  stN ((⟨x8_7, 0, none⟩ : Addr).add 1) (fun σ =>
   j8_multi_work_do B ro a0 x3_1 x6_4 x8_7 Q x45_53 σ) [.string x50_54] 0 σ) [.string x45_52] 0 σ

def j79_multi_work_do (B : World) (ro : AH) (a0 : Option Addr) (x3_1 : Nat) (x6_4 : Nat) (x8_7 : Nat) (x89_76 : Int) (Q : Int → AH → Prop) (x106_80 : Bool) (σ : AH) : Prop :=
 if x106_80 = true then
  j8_multi_work_do B ro a0 x3_1 x6_4 x8_7 Q 72 σ
 else
 j8_multi_work_do B ro a0 x3_1 x6_4 x8_7 Q x89_76 σ

def j77_multi_work_do (B : World) (ro : AH) (a0 : Option Addr) (x3_1 : Nat) (x6_4 : Nat) (x8_7 : Nat) (x10_70 : Nat) (x89_76 : Int) (Q : Int → AH → Prop) (x99_78 : Bool) (σ : AH) : Prop :=
 if x99_78 = true then
  ∃ (x102_81 : Int), acell ro σ ((⟨x3_1, 0, none⟩ : Addr).add 3) = some (.int .i64 x102_81) ∧
  ∃ (x104_82 : Int), acell ro σ ⟨x10_70, 0, none⟩ = some (.int .i64 x104_82) ∧
  j79_multi_work_do B ro a0 x3_1 x6_4 x8_7 x89_76 Q (!(decide (x102_81 = x104_82))) σ
 else
 j79_multi_work_do B ro a0 x3_1 x6_4 x8_7 x89_76 Q false σ

def f_multi_work_do (B : World) (ro : AH) (a0 : Option Addr) (a1_0 : Int) (a1_1 : ByteArray) (a1_2 : Sl) (a1_3 : Int) (a1_4 : Bool) (a1_5 : Bool) (σ : AH) (Q : Int → AH → Prop) : Prop :=
 nw ro σ (.cells #[.int .i64 a1_0, .string a1_1, Sl.v a1_2, .int .i64 a1_3, .bool a1_4, .bool a1_5] 82) fun x3_1 σ =>
 ∃ (x13_2a : Int) (x13_2b : ByteArray) (x13_2c : Sl) (x13_2d : Int) (x13_2e : Bool) (x13_2f : Bool), cellsAt ro σ ⟨x3_1, 0, none⟩ 0 [.int .i64 x13_2a, .string x13_2b, Sl.v x13_2c, .int .i64 x13_2d, .bool x13_2e, .bool x13_2f] ∧
 c_multi_work_within B ro a0 x13_2a x13_2b x13_2c x13_2d x13_2e x13_2f σ fun x14_3 σ =>
 if ¬ (x14_3 = 0) then
  Q x14_3 σ
 else
 nw ro σ (.cells #[.string ByteArray.empty, .int .i64 0] 84) fun x6_4 σ =>
 ∃ (x19_5 : Int), acell ro σ ⟨x3_1, 0, none⟩ = some (.int .i64 x19_5) ∧
 ∃ (x21_6 : ByteArray), acell ro σ ((⟨x3_1, 0, none⟩ : Addr).add 1) = some (.string x21_6) ∧
 nw ro σ (.cells #[.int .i64 0, .string ByteArray.empty] 108) fun x8_7 σ =>
 stN ⟨x8_7, 0, none⟩ (fun σ =>
  ∃ (x24_44 : Int), acell ro σ ⟨x3_1, 0, none⟩ = some (.int .i64 x24_44) ∧
  if x24_44 = 1 then
   ∃ (x28_55 : Bool), acell ro σ ((⟨x3_1, 0, none⟩ : Addr).add 4) = some (.bool x28_55) ∧
   if x28_55 = true then
    ∃ p30_56 : Addr, a0 = some p30_56 ∧
    ∃ (x32_57 : Int), acell ro σ (p30_56.add 5) = some (.int .i64 x32_57) ∧
    j45_multi_work_do B ro a0 x3_1 x6_4 x8_7 Q x32_57 σ
   else
   j45_multi_work_do B ro a0 x3_1 x6_4 x8_7 Q 0 σ
  else
  if x24_44 = 2 then
   ∃ p55_58 : Addr, a0 = some p55_58 ∧
   ∃ (x57_59 : Option Addr), acell ro σ (p55_58.add 3) = some (.pointer x57_59) ∧
   ∃ (x59_60 : ByteArray), acell ro σ ((⟨x3_1, 0, none⟩ : Addr).add 1) = some (.string x59_60) ∧
   ∃ (x61_61 : Int), acell ro σ ((⟨x3_1, 0, none⟩ : Addr).add 3) = some (.int .i64 x61_61) ∧
   c_ztree_Tree_Delete B ro x57_59 x59_60 x61_61 σ fun x62_62 σ =>
   j8_multi_work_do B ro a0 x3_1 x6_4 x8_7 Q x62_62 σ
  else
  if x24_44 = 3 then
   ∃ p67_63 : Addr, a0 = some p67_63 ∧
   ∃ (x69_64 : Option Addr), acell ro σ (p67_63.add 3) = some (.pointer x69_64) ∧
   ∃ (x71_65 : ByteArray), acell ro σ ((⟨x3_1, 0, none⟩ : Addr).add 1) = some (.string x71_65) ∧
   ∃ (x73_66 : Sl), acell ro σ ((⟨x3_1, 0, none⟩ : Addr).add 2) = some (Sl.v x73_66) ∧
   ∃ (x75_67 : Int), acell ro σ ((⟨x3_1, 0, none⟩ : Addr).add 3) = some (.int .i64 x75_67) ∧
   c_ztree_Tree_Set B ro x69_64 x71_65 x73_66 x75_67 σ fun x76_68 x76_69 σ =>
   stN ((⟨x6_4, 0, none⟩ : Addr).add 1) (fun σ =>
    j8_multi_work_do B ro a0 x3_1 x6_4 x8_7 Q x76_69 σ) [.int .i64 x76_68] 0 σ
  else
  if x24_44 = 4 then
   nw ro σ (.cells #[.int .i64 0, .int .i64 0, .int .i64 0, .int .i64 0] 32) fun x10_70 σ =>
   ∃ p84_71 : Addr, a0 = some p84_71 ∧
   ∃ (x86_72 : Option Addr), acell ro σ (p84_71.add 3) = some (.pointer x86_72) ∧
   ∃ (x88_73 : ByteArray), acell ro σ ((⟨x3_1, 0, none⟩ : Addr).add 1) = some (.string x88_73) ∧
   c_ztree_Tree_Get B ro x86_72 x88_73 σ fun x89_74 x89_75a x89_75b x89_75c x89_75d x89_76 σ =>
   stN ⟨x10_70, 0, none⟩ (fun σ =>
    if x89_76 = 0 then
     ∃ (x97_83 : Int), acell ro σ ((⟨x3_1, 0, none⟩ : Addr).add 3) = some (.int .i64 x97_83) ∧
     j77_multi_work_do B ro a0 x3_1 x6_4 x8_7 x10_70 x89_76 Q (!(decide (x97_83 = (-1)))) σ
    else
    j77_multi_work_do B ro a0 x3_1 x6_4 x8_7 x10_70 x89_76 Q false σ) [.int .i64 x89_75a, .int .i64 x89_75b, .int .i64 x89_75c, .int .i64 x89_75d] 0 σ
  else
  j8_multi_work_do B ro a0 x3_1 x6_4 x8_7 Q 0 σ) [.int .i64 x19_5, .string x21_6] 0 σ

set_option maxRecDepth 100000 in
set_option maxHeartbeats 4000000 in
theorem multi_work_do_ok {B : World} {ro : AH} {a0 : Option Addr} {a1_0 : Int} {a1_1 : ByteArray} {a1_2 : Sl} {a1_3 : Int} {a1_4 : Bool} {a1_5 : Bool} {σ : AH} {Q : Int → AH → Prop} (h : Sep ro σ → f_multi_work_do B ro a0 a1_0 a1_1 a1_2 a1_3 a1_4 a1_5 σ Q) : c_multi_work_do B ro a0 a1_0 a1_1 a1_2 a1_3 a1_4 a1_5 σ Q := by
  refine ACalls.of_sep fun hsep => ?_
  replace h := h hsep
  refine ACalls.of_body (args := [.pointer a0, .agg #[.int .i64 a1_0, .string a1_1, Sl.v a1_2, .int .i64 a1_3, .bool a1_4, .bool a1_5]]) Tryz.func96 rfl (by rw [Tryz.ntmps96]; simp) ?_
  rw [Tryz.ntmps96]
  unfold f_multi_work_do at h
  refine AW.seq ?_
  refine AW.reg ?_
  refine Ls rfl rfl (X_new (A_box rfl rfl) fun x3_1 g1 g2 => ?_)
  replace h := h x3_1 g1 g2
  refine Lp (V_asg rfl rfl) rfl rfl ?_
  refine Lnil ?_
  refine thenN ?_
  refine AW.seq ?_
  refine AW.seq ?_
  refine AW.reg ?_
  refine Lp (V_move rfl rfl) rfl rfl ?_
  obtain ⟨x13_2a, x13_2b, x13_2c, x13_2d, x13_2e, x13_2f, hc, h⟩ := h
  refine Ls rfl rfl (X_lda rfl Tryz.underlying82 rfl ty82 rfl hc ?_)
  refine Ls rfl rfl (X_call rfl Tryz.func125 rfl rfl rfl (ACalls.mono h ?_))
  rintro v σ ⟨x14_3, rfl, h⟩
  refine Lp (V_asg rfl rfl) rfl rfl ?_
  refine Lnil ?_
  refine thenN ?_
  refine AW.seq ?_
  refine AW.reg ?_
  refine Lp (V_move rfl rfl) rfl rfl ?_
  refine Lp (V_neq rfl rfl rfl) rfl rfl ?_
  refine Lnil ?_
  refine thenN ?_
  refine AW.iff rfl (bnot_iff decide_eq_true_iff) h (fun h => ?_) (fun h => ?_)
  · refine AW.seq ?_
    refine AW.reg ?_
    refine Lp (V_move rfl rfl) rfl rfl ?_
    refine Lp (V_asg rfl rfl) rfl rfl ?_
    refine Lnil ?_
    refine thenN ?_
    refine AW.ret ?_
    refine thenR ?_
    exact bR1 Tryz.results96 rfl ⟨_, rfl, h⟩
  refine AW.skip ?_
  refine thenN ?_
  refine AW.seq ?_
  refine AW.reg ?_
  refine Ls rfl rfl (X_new (A_alloc rfl ty84) fun x6_4 g1 g2 => ?_)
  replace h := h x6_4 g1 g2
  refine Lnil ?_
  refine thenN ?_
  refine AW.seq ?_
  refine AW.reg ?_
  refine Lp (V_asg rfl rfl) rfl rfl ?_
  refine Lnil ?_
  refine thenN ?_
  refine AW.seq ?_
  refine AW.reg ?_
  refine Lp (V_fld rfl Tryz.underlying82 rfl ty3 (by decide) rfl) rfl rfl ?_
  obtain ⟨x19_5, hc, h⟩ := h
  refine Ls rfl rfl (X_ld rfl Tryz.underlying3 rfl rfl hc ?_)
  refine Lp (V_fld rfl Tryz.underlying82 rfl ty9 (by decide) rfl) rfl rfl ?_
  obtain ⟨x21_6, hc, h⟩ := h
  refine Ls rfl rfl (X_ld rfl Tryz.underlying9 rfl rfl hc ?_)
  refine Lp (V_bld (vs := [(0, .int .i64 x19_5), (1, .string x21_6)]) (cs := #[.int .i64 x19_5, .string x21_6]) rfl Tryz.underlying108 ty108 pl108 rfl rfl) rfl rfl ?_
  refine Ls rfl rfl (X_new (A_alloc rfl ty108) fun x8_7 g1 g2 => ?_)
  replace h := h x8_7 g1 g2
  refine Ls rfl rfl (X_st rfl ty108 rfl rfl rfl rfl (stN_mono h fun σ h => ?_))
  refine Lnil ?_
  refine thenN ?_
  refine AW.seqJ (fun fr σ => ∃ (x7_9 : Int), FrLe [(0, .pointer a0), (3, .pointer (some ⟨x3_1, 0, none⟩)), (6, .pointer (some ⟨x6_4, 0, none⟩)), (8, .pointer (some ⟨x8_7, 0, none⟩)), (7, .int .i64 x7_9)] fr ∧ j8_multi_work_do B ro a0 x3_1 x6_4 x8_7 Q x7_9 σ) ?_ ?_
  · rintro fr σ ⟨x7_9, hl, h⟩
    refine AW.weaken ?_ hl (HLe.refl _)
    unfold j8_multi_work_do at h
    refine AW.seq ?_
    refine AW.seq ?_
    refine AW.reg ?_
    refine Lp (V_move rfl rfl) rfl rfl ?_
    refine Lp (V_neq rfl rfl rfl) rfl rfl ?_
    refine Lnil ?_
    refine thenN ?_
    refine AW.iff rfl (bnot_iff decide_eq_true_iff) h (fun h => ?_) (fun h => ?_)
    · refine AW.seq ?_
      refine AW.reg ?_
      refine Lp (V_move rfl rfl) rfl rfl ?_
      refine Lp (V_asg rfl rfl) rfl rfl ?_
      refine Lnil ?_
      refine thenN ?_
      refine AW.ret ?_
      refine thenR ?_
      exact bR1 Tryz.results96 rfl ⟨_, rfl, h⟩
    refine AW.skip ?_
    refine thenN ?_
    refine AW.seqJ (fun fr σ => FrLe [(0, .pointer a0), (3, .pointer (some ⟨x3_1, 0, none⟩)), (6, .pointer (some ⟨x6_4, 0, none⟩)), (8, .pointer (some ⟨x8_7, 0, none⟩))] fr ∧ j10_multi_work_do B ro a0 x3_1 x6_4 x8_7 Q σ) ?_ ?_
    · rintro fr σ ⟨hl, h⟩
      refine AW.weaken ?_ hl (HLe.refl _)
      unfold j10_multi_work_do at h
      refine AW.seq ?_
      refine AW.drawn0 (fun i => ([0, 0, 0, 0, 0, 3, 3, 1, 2, 0, 0, 0, 2] : List Nat).getD i 2) [(6, 7), (6, 8)] [0, 1, 2, 3, 4, 5, 6, 7, 8, 9, 10, 11, 12] Tryz.mixed (by decide +kernel) ?_
      refine Dp rfl rfl rfl rfl (V_move rfl rfl) ?_
      refine Dp rfl rfl rfl rfl (V_move rfl rfl) ?_
      obtain ⟨p148_11, hc, h⟩ := h
      refine Dp rfl rfl rfl rfl (V_nil rfl (by rw [← hc]; rfl)) ?_
      refine Dp rfl rfl rfl rfl (V_fld rfl Tryz.underlying173 rfl ty77 (by decide) rfl) ?_
      refine Dp rfl rfl rfl rfl (V_fld rfl Tryz.underlying77 rfl ty74 (by decide) rfl) ?_
      obtain ⟨x151_12, hc, h⟩ := h
      refine Dr rfl rfl rfl rfl (R_ld rfl Tryz.underlying74 rfl rfl hc) ?_
      obtain ⟨x152_13a, x152_13b, hc, h⟩ := h
      refine Dr rfl rfl rfl rfl (R_lda rfl Tryz.underlying84 rfl ty84 rfl hc) ?_
      refine Da rfl rfl rfl rfl (A_bsl (vs := [(0, .agg #[.string x152_13a, .int .i64 x152_13b])]) (cs := #[.string x152_13a, .int .i64 x152_13b]) rfl Tryz.underlying74 ty84 (by decide) rfl rfl) fun x153_14 g1 g2 => ?_
      replace h := h x153_14 g1 g2
      refine Dg rfl rfl rfl rfl (X_bi (s := Builtin.append_ #[74, 74] 74 #[Sl.v x151_12, Sl.v (⟨some ⟨x153_14, 0, none⟩, 1, 1⟩ : Sl)]) rfl rfl (fun _ => rfl) (awp_mono _ h ?_))
      rintro v σ ⟨x154_15, rfl, h⟩
      obtain ⟨p155_16, hc, h⟩ := h
      refine Dp rfl rfl rfl rfl (V_nil rfl (by rw [← hc]; rfl)) ?_
      refine Dp rfl rfl rfl rfl (V_fld rfl Tryz.underlying173 rfl ty77 (by decide) rfl) ?_
      refine Dp rfl rfl rfl rfl (V_fld rfl Tryz.underlying77 rfl ty74 (by decide) rfl) ?_
      refine Dg rfl rfl rfl rfl (X_st rfl ty74 rfl rfl rfl rfl (stN_mono h fun σ h => ?_))
      refine Dend ?_
      refine thenN ?_
      refine AW.seqJ (fun fr σ => FrLe [] fr ∧ j17_multi_work_do B ro Q σ) ?_ ?_
      · rintro fr σ ⟨hl, h⟩
        refine AW.weaken ?_ hl (HLe.refl _)
        unfold j17_multi_work_do at h
        refine AW.seq ?_
        refine AW.reg ?_
        refine Lp (V_asg rfl rfl) rfl rfl ?_
        refine Lnil ?_
        refine thenN ?_
        refine AW.ret ?_
        exact bR1 Tryz.results96 rfl ⟨_, rfl, h⟩
      refine AW.seq ?_
      refine AW.reg ?_
      refine Lp (V_fld rfl Tryz.underlying82 rfl ty3 (by decide) rfl) rfl rfl ?_
      obtain ⟨x159_18, hc, h⟩ := h
      refine Ls rfl rfl (X_ld rfl Tryz.underlying3 rfl rfl hc ?_)
      refine Lp (V_neq rfl rfl rfl) rfl rfl ?_
      refine Lnil ?_
      refine thenN ?_
      refine AW.iff rfl (bnot_iff decide_eq_true_iff) h (fun h => ?_) (fun h => ?_)
      rotate_left
      · refine AW.skip ?_
        refine thenN ?_
        exact ⟨(FrLe.nil _), h⟩
      refine AW.drawn0 (fun i => ([0, 0, 0, 0, 0, 3, 3, 1, 2, 0, 0, 0, 2] : List Nat).getD i 2) [(6, 7), (6, 8)] [0, 1, 2, 3, 4, 5, 6, 7, 8, 9, 10, 11, 12] Tryz.mixed (by decide +kernel) ?_
      refine Dp rfl rfl rfl rfl (V_move rfl rfl) ?_
      refine Dp rfl rfl rfl rfl (V_move rfl rfl) ?_
      obtain ⟨p163_19, hc, h⟩ := h
      refine Dp rfl rfl rfl rfl (V_nil rfl (by rw [← hc]; rfl)) ?_
      refine Dp rfl rfl rfl rfl (V_fld rfl Tryz.underlying173 rfl ty77 (by decide) rfl) ?_
      refine Dp rfl rfl rfl rfl (V_fld rfl Tryz.underlying77 rfl ty75 (by decide) rfl) ?_
      obtain ⟨x166_20, hc, h⟩ := h
      refine Dr rfl rfl rfl rfl (R_ld rfl Tryz.underlying75 rfl rfl hc) ?_
      obtain ⟨x167_21a, x167_21b, hc, h⟩ := h
      refine Dr rfl rfl rfl rfl (R_lda rfl Tryz.underlying108 rfl ty108 rfl hc) ?_
      refine Da rfl rfl rfl rfl (A_bsl (vs := [(0, .agg #[.int .i64 x167_21a, .string x167_21b])]) (cs := #[.int .i64 x167_21a, .string x167_21b]) rfl Tryz.underlying75 ty108 (by decide) rfl rfl) fun x168_22 g1 g2 => ?_
      replace h := h x168_22 g1 g2
      refine Dg rfl rfl rfl rfl (X_bi (s := Builtin.append_ #[75, 75] 75 #[Sl.v x166_20, Sl.v (⟨some ⟨x168_22, 0, none⟩, 1, 1⟩ : Sl)]) rfl rfl (fun _ => rfl) (awp_mono _ h ?_))
      rintro v σ ⟨x169_23, rfl, h⟩
      obtain ⟨p170_24, hc, h⟩ := h
      refine Dp rfl rfl rfl rfl (V_nil rfl (by rw [← hc]; rfl)) ?_
      refine Dp rfl rfl rfl rfl (V_fld rfl Tryz.underlying173 rfl ty77 (by decide) rfl) ?_
      refine Dp rfl rfl rfl rfl (V_fld rfl Tryz.underlying77 rfl ty75 (by decide) rfl) ?_
      refine Dg rfl rfl rfl rfl (X_st rfl ty75 rfl rfl rfl rfl (stN_mono h fun σ h => ?_))
      refine Dend ?_
      refine thenN ?_
      exact ⟨(FrLe.nil _), h⟩
    refine AW.seq ?_
    refine AW.reg ?_
    refine Lp (V_fld rfl Tryz.underlying82 rfl ty3 (by decide) rfl) rfl rfl ?_
    obtain ⟨x111_25, hc, h⟩ := h
    refine Ls rfl rfl (X_ld rfl Tryz.underlying3 rfl rfl hc ?_)
    refine Lp (V_eql rfl rfl rfl) rfl rfl ?_
    refine Lp (V_move rfl rfl) rfl rfl ?_
    refine LsplitJ 4 (decide (x111_25 = 1)) decide_eq_true_iff h (fun fr σ => ∃ (x117_27 : Bool), FrLe [(0, .pointer a0), (3, .pointer (some ⟨x3_1, 0, none⟩)), (6, .pointer (some ⟨x6_4, 0, none⟩)), (8, .pointer (some ⟨x8_7, 0, none⟩)), (117, .bool x117_27)] fr ∧ j26_multi_work_do B ro a0 x3_1 x6_4 x8_7 Q x117_27 σ) ?_ ?_ ?_
    · intro h e3 hk3
      refine Ln rfl rfl rfl rfl (.inl (by rw [e3]; rfl)) ?_
      refine Ln rfl rfl rfl rfl (.inl (by rw [e3]; rfl)) ?_
      refine Ln rfl rfl rfl rfl (.inl (by rw [e3]; rfl)) ?_
      refine Lp (V_pickT rfl (evb e3) rfl) rfl rfl ?_
      exact hk3 _ _ ⟨_, (FrLe.cons rfl (FrLe.cons rfl (FrLe.cons rfl (FrLe.cons rfl (FrLe.cons rfl (FrLe.nil _)))))), h⟩
    · intro h e3 hk3
      refine Lypb (V_fld rfl Tryz.underlying82 rfl ty3 (by decide) rfl) rfl rfl rfl rfl e3 ?_
      obtain ⟨x115_43, hc, h⟩ := h
      refine Lyb rfl rfl rfl rfl e3 (X_ld rfl Tryz.underlying3 rfl rfl hc ?_)
      refine Lypb (V_eql rfl rfl rfl) rfl rfl rfl rfl e3 ?_
      refine Lp (V_pickF rfl (evb e3) rfl) rfl rfl ?_
      exact hk3 _ _ ⟨_, (FrLe.cons rfl (FrLe.cons rfl (FrLe.cons rfl (FrLe.cons rfl (FrLe.cons rfl (FrLe.nil _)))))), h⟩
    rintro fr σ ⟨x117_27, hl, h⟩
    unfold j26_multi_work_do at h
    refine Lfr hl ?_
    refine Lnil ?_
    refine thenN ?_
    refine AW.iff rfl Iff.rfl h (fun h => ?_) (fun h => ?_)
    rotate_left
    · refine AW.skip ?_
      refine thenN ?_
      exact ⟨(FrLe.cons rfl (FrLe.cons rfl (FrLe.cons rfl (FrLe.cons rfl (FrLe.nil _))))), h⟩
    refine AW.seq ?_
    refine AW.drawn0 (fun i => ([0, 0, 0, 3, 0, 0, 0, 3, 1, 2, 1, 2] : List Nat).getD i 2) [(7, 8), (7, 9)] [0, 1, 2, 4, 5, 6, 3, 7, 8, 9, 10, 11] Tryz.mixed (by decide +kernel) ?_
    refine Dp rfl rfl rfl rfl (V_move rfl rfl) ?_
    obtain ⟨p119_28, hc, h⟩ := h
    refine Dp rfl rfl rfl rfl (V_nil rfl (by rw [← hc]; rfl)) ?_
    refine Dp rfl rfl rfl rfl (V_fld rfl Tryz.underlying173 rfl ty23 (by decide) rfl) ?_
    refine Dp rfl rfl rfl rfl (V_move rfl rfl) ?_
    obtain ⟨p123_29, hc, h⟩ := h
    refine Dp rfl rfl rfl rfl (V_nil rfl (by rw [← hc]; rfl)) ?_
    refine Dp rfl rfl rfl rfl (V_fld rfl Tryz.underlying173 rfl ty9 (by decide) rfl) ?_
    obtain ⟨x121_30, hc, h⟩ := h
    refine Dr rfl rfl rfl rfl (R_ld rfl Tryz.underlying23 rfl rfl hc) ?_
    obtain ⟨x125_31, hc, h⟩ := h
    refine Dr rfl rfl rfl rfl (R_ld rfl Tryz.underlying9 rfl rfl hc) ?_
    refine Da rfl rfl rfl rfl (A_bsl (vs := [(0, .string x125_31)]) (cs := #[.string x125_31]) rfl Tryz.underlying25 ty9 (by decide) rfl rfl) fun x126_32 g1 g2 => ?_
    replace h := h x126_32 g1 g2
    refine Dg rfl rfl rfl rfl (X_call rfl Tryz.func39 rfl rfl rfl (ACalls.mono h ?_))
    rintro v σ ⟨x127_33a, x127_33b, rfl, h⟩
    refine Da rfl rfl rfl rfl (A_alloc rfl ty69) fun x11_34 g1 g2 => ?_
    replace h := h x11_34 g1 g2
    refine Dg rfl rfl rfl rfl (X_st rfl ty69 rfl rfl rfl rfl (stN_mono h fun σ h => ?_))
    refine Dend ?_
    refine thenN ?_
    refine AW.seqJ (fun fr σ => ∃ (x145_36 : Bool), FrLe [(0, .pointer a0), (3, .pointer (some ⟨x3_1, 0, none⟩)), (6, .pointer (some ⟨x6_4, 0, none⟩)), (8, .pointer (some ⟨x8_7, 0, none⟩)), (145, .bool x145_36)] fr ∧ j35_multi_work_do B ro a0 x3_1 x6_4 x8_7 Q x145_36 σ) ?_ ?_
    · rintro fr σ ⟨x145_36, hl, h⟩
      refine AW.weaken ?_ hl (HLe.refl _)
      unfold j35_multi_work_do at h
      refine AW.iff rfl Iff.rfl h (fun h => ?_) (fun h => ?_)
      rotate_left
      · refine AW.skip ?_
        refine thenN ?_
        exact ⟨(FrLe.cons rfl (FrLe.cons rfl (FrLe.cons rfl (FrLe.cons rfl (FrLe.nil _))))), h⟩
      refine AW.seq ?_
      refine AW.reg ?_
      refine Lp (V_asg rfl rfl) rfl rfl ?_
      refine Lnil ?_
      refine thenN ?_
      refine AW.ret ?_
      refine thenR ?_
      exact bR1 Tryz.results96 rfl ⟨_, rfl, h⟩
    refine AW.drawn0 (fun i => ([0, 3, 0, 0, 0, 0, 3, 0, 0, 0, 3, 0, 0, 0, 0, 3, 0, 0] : List Nat).getD i 2) [] [0, 2, 3, 4, 5, 1, 6, 7, 8, 9, 11, 12, 13, 14, 10, 15, 16, 17] Tryz.mixed (by decide +kernel) ?_
    refine Dp rfl rfl rfl rfl (V_fld rfl Tryz.underlying69 rfl ty3 (by decide) rfl) ?_
    refine Dp rfl rfl rfl rfl (V_move rfl rfl) ?_
    obtain ⟨p131_37, hc, h⟩ := h
    refine Dp rfl rfl rfl rfl (V_nil rfl (by rw [← hc]; rfl)) ?_
    refine Dp rfl rfl rfl rfl (V_fld rfl Tryz.underlying173 rfl ty69 (by decide) rfl) ?_
    refine Dp rfl rfl rfl rfl (V_fld rfl Tryz.underlying69 rfl ty3 (by decide) rfl) ?_
    obtain ⟨x129_38, hc, h⟩ := h
    refine Dr rfl rfl rfl rfl (R_ld rfl Tryz.underlying3 rfl rfl hc) ?_
    obtain ⟨x134_39, hc, h⟩ := h
    refine Dr rfl rfl rfl rfl (R_ld rfl Tryz.underlying3 rfl rfl hc) ?_
    refine Dp rfl rfl rfl rfl (V_gtr rfl rfl rfl) ?_
    refine Dp rfl rfl rfl rfl (V_move rfl rfl) ?_
    refine splitP (decide (x134_39 < x129_38)) decide_eq_true_iff h ?_ ?_
    · intro h e8
      refine Dpn rfl rfl rfl rfl rfl (.inl (by rw [e8]; rfl)) rfl ?_
      refine Dpn rfl rfl rfl rfl rfl (.inl (by rw [e8]; rfl)) rfl ?_
      refine Dpn rfl rfl rfl rfl rfl (.inl (by rw [e8]; rfl)) rfl ?_
      refine Dpn rfl rfl rfl rfl rfl (.inl (by rw [e8]; rfl)) rfl ?_
      refine Dpn rfl rfl rfl rfl rfl (.inl (by rw [e8]; rfl)) rfl ?_
      refine Drn rfl rfl rfl rfl rfl (.inl (by rw [e8]; rfl)) rfl ?_
      refine Drn rfl rfl rfl rfl rfl (.inl (by rw [e8]; rfl)) rfl ?_
      refine Dpn rfl rfl rfl rfl rfl (.inl (by rw [e8]; rfl)) rfl ?_
      refine Dp rfl rfl rfl rfl (V_pickT rfl (evb e8) rfl) ?_
      refine Dend ?_
      refine thenN ?_
      exact ⟨_, (FrLe.cons rfl (FrLe.cons rfl (FrLe.cons rfl (FrLe.cons rfl (FrLe.cons rfl (FrLe.nil _)))))), h⟩
    intro h e8
    refine Dpy rfl rfl rfl rfl rfl e8 rfl (V_fld rfl Tryz.underlying69 rfl ty3 (by decide) rfl) ?_
    refine Dpy rfl rfl rfl rfl rfl e8 rfl (V_move rfl rfl) ?_
    obtain ⟨p140_40, hc, h⟩ := h
    refine Dpy rfl rfl rfl rfl rfl e8 rfl (V_nil rfl (by rw [← hc]; rfl)) ?_
    refine Dpy rfl rfl rfl rfl rfl e8 rfl (V_fld rfl Tryz.underlying173 rfl ty69 (by decide) rfl) ?_
    refine Dpy rfl rfl rfl rfl rfl e8 rfl (V_fld rfl Tryz.underlying69 rfl ty3 (by decide) rfl) ?_
    obtain ⟨x138_41, hc, h⟩ := h
    refine Dry rfl rfl rfl rfl rfl e8 rfl (R_ld rfl Tryz.underlying3 rfl rfl hc) ?_
    obtain ⟨x143_42, hc, h⟩ := h
    refine Dry rfl rfl rfl rfl rfl e8 rfl (R_ld rfl Tryz.underlying3 rfl rfl hc) ?_
    refine Dpy rfl rfl rfl rfl rfl e8 rfl (V_gtr rfl rfl rfl) ?_
    refine Dp rfl rfl rfl rfl (V_pickF rfl (evb e8) rfl) ?_
    refine Dend ?_
    refine thenN ?_
    exact ⟨_, (FrLe.cons rfl (FrLe.cons rfl (FrLe.cons rfl (FrLe.cons rfl (FrLe.cons rfl (FrLe.nil _)))))), h⟩
  refine AW.seq ?_
  refine AW.reg ?_
  refine Lp (V_fld rfl Tryz.underlying82 rfl ty3 (by decide) rfl) rfl rfl ?_
  obtain ⟨x24_44, hc, h⟩ := h
  refine Ls rfl rfl (X_ld rfl Tryz.underlying3 rfl rfl hc ?_)
  refine Lnil ?_
  refine thenN ?_
  refine AW.block ?_
  refine AW.seq ?_
  refine AW.reg ?_
  refine Lp (V_eql rfl rfl rfl) rfl rfl ?_
  refine Lp (V_asg rfl rfl) rfl rfl ?_
  refine Lnil ?_
  refine thenN ?_
  refine AW.iff rfl decide_eq_true_iff h (fun h => ?_) (fun h => ?_)
  · refine AW.seq ?_
    refine AW.reg ?_
    refine Lp (V_asg rfl rfl) rfl rfl ?_
    refine Lnil ?_
    refine thenN ?_
    refine AW.seqJ (fun fr σ => ∃ (x9_46 : Int), FrLe [(0, .pointer a0), (3, .pointer (some ⟨x3_1, 0, none⟩)), (6, .pointer (some ⟨x6_4, 0, none⟩)), (8, .pointer (some ⟨x8_7, 0, none⟩)), (9, .int .i64 x9_46)] fr ∧ j45_multi_work_do B ro a0 x3_1 x6_4 x8_7 Q x9_46 σ) ?_ ?_
    rotate_left
    · refine AW.seq ?_
      refine AW.reg ?_
      refine Lp (V_fld rfl Tryz.underlying82 rfl ty4 (by decide) rfl) rfl rfl ?_
      obtain ⟨x28_55, hc, h⟩ := h
      refine Ls rfl rfl (X_ld rfl Tryz.underlying4 rfl rfl hc ?_)
      refine Lnil ?_
      refine thenN ?_
      refine AW.iff rfl Iff.rfl h (fun h => ?_) (fun h => ?_)
      rotate_left
      · refine AW.skip ?_
        refine thenN ?_
        exact ⟨_, (FrLe.cons rfl (FrLe.cons rfl (FrLe.cons rfl (FrLe.cons rfl (FrLe.cons rfl (FrLe.nil _)))))), h⟩
      refine AW.reg ?_
      refine Lp (V_move rfl rfl) rfl rfl ?_
      obtain ⟨p30_56, hc, h⟩ := h
      refine Lp (V_nil rfl (by rw [← hc]; rfl)) rfl rfl ?_
      refine Lp (V_fld rfl Tryz.underlying173 rfl ty3 (by decide) rfl) rfl rfl ?_
      obtain ⟨x32_57, hc, h⟩ := h
      refine Ls rfl rfl (X_ld rfl Tryz.underlying3 rfl rfl hc ?_)
      refine Lp (V_asg rfl rfl) rfl rfl ?_
      refine Lnil ?_
      refine thenN ?_
      exact ⟨_, (FrLe.cons rfl (FrLe.cons rfl (FrLe.cons rfl (FrLe.cons rfl (FrLe.cons rfl (FrLe.nil _)))))), h⟩
    rintro fr σ ⟨x9_46, hl, h⟩
    refine AW.weaken ?_ hl (HLe.refl _)
    unfold j45_multi_work_do at h
    refine AW.seq ?_
    refine AW.drawn0 (fun i => ([0, 0, 0, 3, 0, 3, 0, 3, 0, 0, 3, 2, 0, 0, 0, 0, 2, 0] : List Nat).getD i 2) [] [0, 1, 2, 4, 6, 8, 9, 3, 5, 7, 10, 11, 12, 13, 14, 15, 16, 17] Tryz.mixed (by decide +kernel) ?_
    refine Dp rfl rfl rfl rfl (V_move rfl rfl) ?_
    obtain ⟨p35_47, hc, h⟩ := h
    refine Dp rfl rfl rfl rfl (V_nil rfl (by rw [← hc]; rfl)) ?_
    refine Dp rfl rfl rfl rfl (V_fld rfl Tryz.underlying173 rfl ty23 (by decide) rfl) ?_
    refine Dp rfl rfl rfl rfl (V_fld rfl Tryz.underlying82 rfl ty9 (by decide) rfl) ?_
    refine Dp rfl rfl rfl rfl (V_fld rfl Tryz.underlying82 rfl ty30 (by decide) rfl) ?_
    refine Dp rfl rfl rfl rfl (V_move rfl rfl) ?_
    refine Dp rfl rfl rfl rfl (V_fld rfl Tryz.underlying82 rfl ty4 (by decide) rfl) ?_
    obtain ⟨x37_48, hc, h⟩ := h
    refine Dr rfl rfl rfl rfl (R_ld rfl Tryz.underlying23 rfl rfl hc) ?_
    obtain ⟨x39_49, hc, h⟩ := h
    refine Dr rfl rfl rfl rfl (R_ld rfl Tryz.underlying9 rfl rfl hc) ?_
    obtain ⟨x41_50, hc, h⟩ := h
    refine Dr rfl rfl rfl rfl (R_ld rfl Tryz.underlying30 rfl rfl hc) ?_
    obtain ⟨x44_51, hc, h⟩ := h
    refine Dr rfl rfl rfl rfl (R_ld rfl Tryz.underlying4 rfl rfl hc) ?_
    refine Dg rfl rfl rfl rfl (X_call rfl Tryz.func22 rfl rfl rfl (ACalls.mono h ?_))
    rintro v σ ⟨x45_52, x45_53, rfl, h⟩
    refine Dp rfl rfl rfl rfl (V_move rfl rfl) ?_
    refine Dp rfl rfl rfl rfl (V_ext rfl rfl rfl) ?_
    refine Dp rfl rfl rfl rfl (V_ext rfl rfl rfl) ?_
    refine Dp rfl rfl rfl rfl (V_fld rfl Tryz.underlying84 rfl ty9 (by decide) rfl) ?_
    refine Dg rfl rfl rfl rfl (X_st rfl ty9 rfl rfl rfl rfl (stN_mono h fun σ h => ?_))
    refine Dp rfl rfl rfl rfl (V_asg rfl rfl) ?_
    refine Dend ?_
    refine thenN ?_
    refine AW.reg ?_
    refine Lp (V_fld rfl Tryz.underlying84 rfl ty9 (by decide) rfl) rfl rfl ?_
    obtain ⟨x50_54, hc, h⟩ := h
    refine Ls rfl rfl (X_ld rfl Tryz.underlying9 rfl rfl hc ?_)
    refine Lp (V_fld rfl Tryz.underlying108 rfl ty9 (by decide) rfl) rfl rfl ?_
    refine Ls rfl rfl (X_st rfl ty9 rfl rfl rfl rfl (stN_mono h fun σ h => ?_))
    refine Lnil ?_
    refine blockN ?_
    refine thenN ?_
    exact ⟨_, (FrLe.cons rfl (FrLe.cons rfl (FrLe.cons rfl (FrLe.cons rfl (FrLe.cons rfl (FrLe.nil _)))))), h⟩
  refine AW.seq ?_
  refine AW.reg ?_
  refine Lp (V_eql rfl rfl rfl) rfl rfl ?_
  refine Lp (V_asg rfl rfl) rfl rfl ?_
  refine Lnil ?_
  refine thenN ?_
  refine AW.iff rfl decide_eq_true_iff h (fun h => ?_) (fun h => ?_)
  · refine AW.drawn0 (fun i => ([0, 0, 0, 3, 0, 3, 0, 3, 2, 0] : List Nat).getD i 2) [] [0, 1, 2, 4, 6, 3, 5, 7, 8, 9] Tryz.mixed (by decide +kernel) ?_
    refine Dp rfl rfl rfl rfl (V_move rfl rfl) ?_
    obtain ⟨p55_58, hc, h⟩ := h
    refine Dp rfl rfl rfl rfl (V_nil rfl (by rw [← hc]; rfl)) ?_
    refine Dp rfl rfl rfl rfl (V_fld rfl Tryz.underlying173 rfl ty23 (by decide) rfl) ?_
    refine Dp rfl rfl rfl rfl (V_fld rfl Tryz.underlying82 rfl ty9 (by decide) rfl) ?_
    refine Dp rfl rfl rfl rfl (V_fld rfl Tryz.underlying82 rfl ty3 (by decide) rfl) ?_
    obtain ⟨x57_59, hc, h⟩ := h
    refine Dr rfl rfl rfl rfl (R_ld rfl Tryz.underlying23 rfl rfl hc) ?_
    obtain ⟨x59_60, hc, h⟩ := h
    refine Dr rfl rfl rfl rfl (R_ld rfl Tryz.underlying9 rfl rfl hc) ?_
    obtain ⟨x61_61, hc, h⟩ := h
    refine Dr rfl rfl rfl rfl (R_ld rfl Tryz.underlying3 rfl rfl hc) ?_
    refine Dg rfl rfl rfl rfl (X_call rfl Tryz.func24 rfl rfl rfl (ACalls.mono h ?_))
    rintro v σ ⟨x62_62, rfl, h⟩
    refine Dp rfl rfl rfl rfl (V_asg rfl rfl) ?_
    refine Dend ?_
    refine blockN ?_
    refine thenN ?_
    exact ⟨_, (FrLe.cons rfl (FrLe.cons rfl (FrLe.cons rfl (FrLe.cons rfl (FrLe.cons rfl (FrLe.nil _)))))), h⟩
  refine AW.seq ?_
  refine AW.reg ?_
  refine Lp (V_eql rfl rfl rfl) rfl rfl ?_
  refine Lp (V_asg rfl rfl) rfl rfl ?_
  refine Lnil ?_
  refine thenN ?_
  refine AW.iff rfl decide_eq_true_iff h (fun h => ?_) (fun h => ?_)
  · refine AW.drawn0 (fun i => ([0, 0, 0, 3, 0, 3, 0, 3, 0, 3, 2, 0, 0, 0, 0, 2, 0] : List Nat).getD i 2) [] [0, 1, 2, 4, 6, 8, 3, 5, 7, 9, 10, 11, 12, 13, 14, 15, 16] Tryz.mixed (by decide +kernel) ?_
    refine Dp rfl rfl rfl rfl (V_move rfl rfl) ?_
    obtain ⟨p67_63, hc, h⟩ := h
    refine Dp rfl rfl rfl rfl (V_nil rfl (by rw [← hc]; rfl)) ?_
    refine Dp rfl rfl rfl rfl (V_fld rfl Tryz.underlying173 rfl ty23 (by decide) rfl) ?_
    refine Dp rfl rfl rfl rfl (V_fld rfl Tryz.underlying82 rfl ty9 (by decide) rfl) ?_
    refine Dp rfl rfl rfl rfl (V_fld rfl Tryz.underlying82 rfl ty30 (by decide) rfl) ?_
    refine Dp rfl rfl rfl rfl (V_fld rfl Tryz.underlying82 rfl ty3 (by decide) rfl) ?_
    obtain ⟨x69_64, hc, h⟩ := h
    refine Dr rfl rfl rfl rfl (R_ld rfl Tryz.underlying23 rfl rfl hc) ?_
    obtain ⟨x71_65, hc, h⟩ := h
    refine Dr rfl rfl rfl rfl (R_ld rfl Tryz.underlying9 rfl rfl hc) ?_
    obtain ⟨x73_66, hc, h⟩ := h
    refine Dr rfl rfl rfl rfl (R_ld rfl Tryz.underlying30 rfl rfl hc) ?_
    obtain ⟨x75_67, hc, h⟩ := h
    refine Dr rfl rfl rfl rfl (R_ld rfl Tryz.underlying3 rfl rfl hc) ?_
    refine Dg rfl rfl rfl rfl (X_call rfl Tryz.func25 rfl rfl rfl (ACalls.mono h ?_))
    rintro v σ ⟨x76_68, x76_69, rfl, h⟩
    refine Dp rfl rfl rfl rfl (V_move rfl rfl) ?_
    refine Dp rfl rfl rfl rfl (V_ext rfl rfl rfl) ?_
    refine Dp rfl rfl rfl rfl (V_ext rfl rfl rfl) ?_
    refine Dp rfl rfl rfl rfl (V_fld rfl Tryz.underlying84 rfl ty3 (by decide) rfl) ?_
    refine Dg rfl rfl rfl rfl (X_st rfl ty3 rfl rfl rfl rfl (stN_mono h fun σ h => ?_))
    refine Dp rfl rfl rfl rfl (V_asg rfl rfl) ?_
    refine Dend ?_
    refine blockN ?_
    refine thenN ?_
    exact ⟨_, (FrLe.cons rfl (FrLe.cons rfl (FrLe.cons rfl (FrLe.cons rfl (FrLe.cons rfl (FrLe.nil _)))))), h⟩
  refine AW.seq ?_
  refine AW.reg ?_
  refine Lp (V_eql rfl rfl rfl) rfl rfl ?_
  refine Lp (V_asg rfl rfl) rfl rfl ?_
  refine Lnil ?_
  refine thenN ?_
  refine AW.iff rfl decide_eq_true_iff h (fun h => ?_) (fun h => ?_)
  rotate_left
  · refine AW.skip ?_
    refine blockN ?_
    refine thenN ?_
    exact ⟨_, (FrLe.cons rfl (FrLe.cons rfl (FrLe.cons rfl (FrLe.cons rfl (FrLe.cons rfl (FrLe.nil _)))))), h⟩
  refine AW.seq ?_
  refine AW.reg ?_
  refine Ls rfl rfl (X_new (A_alloc rfl ty32) fun x10_70 g1 g2 => ?_)
  replace h := h x10_70 g1 g2
  refine Lnil ?_
  refine thenN ?_
  refine AW.seq ?_
  refine AW.drawn0 (fun i => ([0, 0, 0, 3, 0, 3, 2, 0, 0, 0, 0, 2, 0] : List Nat).getD i 2) [] [0, 1, 2, 4, 3, 5, 6, 7, 8, 9, 10, 11, 12] Tryz.mixed (by decide +kernel) ?_
  refine Dp rfl rfl rfl rfl (V_move rfl rfl) ?_
  obtain ⟨p84_71, hc, h⟩ := h
  refine Dp rfl rfl rfl rfl (V_nil rfl (by rw [← hc]; rfl)) ?_
  refine Dp rfl rfl rfl rfl (V_fld rfl Tryz.underlying173 rfl ty23 (by decide) rfl) ?_
  refine Dp rfl rfl rfl rfl (V_fld rfl Tryz.underlying82 rfl ty9 (by decide) rfl) ?_
  obtain ⟨x86_72, hc, h⟩ := h
  refine Dr rfl rfl rfl rfl (R_ld rfl Tryz.underlying23 rfl rfl hc) ?_
  obtain ⟨x88_73, hc, h⟩ := h
  refine Dr rfl rfl rfl rfl (R_ld rfl Tryz.underlying9 rfl rfl hc) ?_
  refine Dg rfl rfl rfl rfl (X_call rfl Tryz.func17 rfl rfl rfl (ACalls.mono h ?_))
  rintro v σ ⟨x89_74, x89_75a, x89_75b, x89_75c, x89_75d, x89_76, rfl, h⟩
  refine Dp rfl rfl rfl rfl (V_move rfl rfl) ?_
  refine Dp rfl rfl rfl rfl (V_ext rfl rfl rfl) ?_
  refine Dp rfl rfl rfl rfl (V_ext rfl rfl rfl) ?_
  refine Dp rfl rfl rfl rfl (V_ext rfl rfl rfl) ?_
  refine Dg rfl rfl rfl rfl (X_st rfl ty32 rfl rfl rfl rfl (stN_mono h fun σ h => ?_))
  refine Dp rfl rfl rfl rfl (V_asg rfl rfl) ?_
  refine Dend ?_
  refine thenN ?_
  refine AW.seq ?_
  refine AW.reg ?_
  refine Lp (V_move rfl rfl) rfl rfl ?_
  refine Lp (V_eql rfl rfl rfl) rfl rfl ?_
  refine Lp (V_move rfl rfl) rfl rfl ?_
  refine LsplitJ 4 (decide (x89_76 = 0)) decide_eq_true_iff h (fun fr σ => ∃ (x99_78 : Bool), FrLe [(0, .pointer a0), (3, .pointer (some ⟨x3_1, 0, none⟩)), (6, .pointer (some ⟨x6_4, 0, none⟩)), (7, .int .i64 x89_76), (8, .pointer (some ⟨x8_7, 0, none⟩)), (10, .pointer (some ⟨x10_70, 0, none⟩)), (99, .bool x99_78)] fr ∧ j77_multi_work_do B ro a0 x3_1 x6_4 x8_7 x10_70 x89_76 Q x99_78 σ) ?_ ?_ ?_
  · intro h e2 hk2
    refine Lypb (V_fld rfl Tryz.underlying82 rfl ty3 (by decide) rfl) rfl rfl rfl rfl e2 ?_
    obtain ⟨x97_83, hc, h⟩ := h
    refine Lyb rfl rfl rfl rfl e2 (X_ld rfl Tryz.underlying3 rfl rfl hc ?_)
    refine Lypb (V_neq rfl rfl rfl) rfl rfl rfl rfl e2 ?_
    refine Lp (V_pickT rfl (evb e2) rfl) rfl rfl ?_
    exact hk2 _ _ ⟨_, (FrLe.cons rfl (FrLe.cons rfl (FrLe.cons rfl (FrLe.cons rfl (FrLe.cons rfl (FrLe.cons rfl (FrLe.cons rfl (FrLe.nil _)))))))), h⟩
  · intro h e2 hk2
    refine Ln rfl rfl rfl rfl (.inl (by rw [e2]; rfl)) ?_
    refine Ln rfl rfl rfl rfl (.inl (by rw [e2]; rfl)) ?_
    refine Ln rfl rfl rfl rfl (.inl (by rw [e2]; rfl)) ?_
    refine Lp (V_pickF rfl (evb e2) rfl) rfl rfl ?_
    exact hk2 _ _ ⟨_, (FrLe.cons rfl (FrLe.cons rfl (FrLe.cons rfl (FrLe.cons rfl (FrLe.cons rfl (FrLe.cons rfl (FrLe.cons rfl (FrLe.nil _)))))))), h⟩
  rintro fr σ ⟨x99_78, hl, h⟩
  unfold j77_multi_work_do at h
  refine Lfr hl ?_
  refine Lp (V_move rfl rfl) rfl rfl ?_
  refine LsplitJ 6 x99_78 Iff.rfl h (fun fr σ => ∃ (x106_80 : Bool), FrLe [(0, .pointer a0), (3, .pointer (some ⟨x3_1, 0, none⟩)), (6, .pointer (some ⟨x6_4, 0, none⟩)), (7, .int .i64 x89_76), (8, .pointer (some ⟨x8_7, 0, none⟩)), (106, .bool x106_80)] fr ∧ j79_multi_work_do B ro a0 x3_1 x6_4 x8_7 x89_76 Q x106_80 σ) ?_ ?_ ?_
  · intro h e7 hk7
    refine Lypb (V_fld rfl Tryz.underlying82 rfl ty3 (by decide) rfl) rfl rfl rfl rfl e7 ?_
    obtain ⟨x102_81, hc, h⟩ := h
    refine Lyb rfl rfl rfl rfl e7 (X_ld rfl Tryz.underlying3 rfl rfl hc ?_)
    refine Lypb (V_fld rfl Tryz.underlying32 rfl ty3 (by decide) rfl) rfl rfl rfl rfl e7 ?_
    obtain ⟨x104_82, hc, h⟩ := h
    refine Lyb rfl rfl rfl rfl e7 (X_ld rfl Tryz.underlying3 rfl rfl hc ?_)
    refine Lypb (V_neq rfl rfl rfl) rfl rfl rfl rfl e7 ?_
    refine Lp (V_pickT rfl (evb e7) rfl) rfl rfl ?_
    exact hk7 _ _ ⟨_, (FrLe.cons rfl (FrLe.cons rfl (FrLe.cons rfl (FrLe.cons rfl (FrLe.cons rfl (FrLe.cons rfl (FrLe.nil _))))))), h⟩
  · intro h e7 hk7
    refine Ln rfl rfl rfl rfl (.inl (by rw [e7]; rfl)) ?_
    refine Ln rfl rfl rfl rfl (.inl (by rw [e7]; rfl)) ?_
    refine Ln rfl rfl rfl rfl (.inl (by rw [e7]; rfl)) ?_
    refine Ln rfl rfl rfl rfl (.inl (by rw [e7]; rfl)) ?_
    refine Ln rfl rfl rfl rfl (.inl (by rw [e7]; rfl)) ?_
    refine Lp (V_pickF rfl (evb e7) rfl) rfl rfl ?_
    exact hk7 _ _ ⟨_, (FrLe.cons rfl (FrLe.cons rfl (FrLe.cons rfl (FrLe.cons rfl (FrLe.cons rfl (FrLe.cons rfl (FrLe.nil _))))))), h⟩
  rintro fr σ ⟨x106_80, hl, h⟩
  unfold j79_multi_work_do at h
  refine Lfr hl ?_
  refine Lnil ?_
  refine thenN ?_
  refine AW.iff rfl Iff.rfl h (fun h => ?_) (fun h => ?_)
  rotate_left
  · refine AW.skip ?_
    refine blockN ?_
    refine thenN ?_
    exact ⟨_, (FrLe.cons rfl (FrLe.cons rfl (FrLe.cons rfl (FrLe.cons rfl (FrLe.cons rfl (FrLe.nil _)))))), h⟩
  refine AW.reg ?_
  refine Lp (V_asg rfl rfl) rfl rfl ?_
  refine Lnil ?_
  refine blockN ?_
  refine thenN ?_
  exact ⟨_, (FrLe.cons rfl (FrLe.cons rfl (FrLe.cons rfl (FrLe.cons rfl (FrLe.cons rfl (FrLe.nil _)))))), h⟩

def j8_multi_work_within (B : World) (ro : AH) (Q : Int → AH → Prop) (x26_9 : Bool) (σ : AH) : Prop :=
 if x26_9 = true then
  Q 82 σ
 else
 Q 0 σ

def j6_multi_work_within (B : World) (ro : AH) (a0 : Option Addr) (x3_1 : Nat) (x10_3 : Sl) (x10_4 : Int) (Q : Int → AH → Prop) (x21_7 : Bool) (σ : AH) : Prop :=
 if x21_7 = true then
  Q 80 σ
 else
 if ¬ (x10_4 = 0) then
  Q x10_4 σ
 else
 if (x10_3.len : Int) = 0 then
  if True then
   j8_multi_work_within B ro Q true σ
  else
  if (x10_3.len : Int) = 1 then
   ∃ (x46_10 : Int), acell ro σ ⟨x3_1, 0, none⟩ = some (.int .i64 x46_10) ∧
   j8_multi_work_within B ro Q (decide (x46_10 ≤ 2)) σ
  else
  j8_multi_work_within B ro Q false σ
 else
 ∃ p32_11 : Addr, x10_3.a = some p32_11 ∧ (0 : Int) ≤ 0 ∧ 0 < (x10_3.len : Int) ∧
 ∃ p35_12 : Addr, a0 = some p35_12 ∧
 ∃ (x33_13 : ByteArray), acell ro σ (p32_11.add (Int.toNat 0 * 1)) = some (.string x33_13) ∧
 ∃ (x37_14 : ByteArray), acell ro σ (p35_12.add 4) = some (.string x37_14) ∧
 if ¬ (x33_13 = x37_14) then
  j8_multi_work_within B ro Q true σ
 else
 if (x10_3.len : Int) = 1 then
  ∃ (x46_15 : Int), acell ro σ ⟨x3_1, 0, none⟩ = some (.int .i64 x46_15) ∧
  j8_multi_work_within B ro Q (decide (x46_15 ≤ 2)) σ
 else
 j8_multi_work_within B ro Q false σ

def f_multi_work_within (B : World) (ro : AH) (a0 : Option Addr) (a1_0 : Int) (a1_1 : ByteArray) (a1_2 : Sl) (a1_3 : Int) (a1_4 : Bool) (a1_5 : Bool) (σ : AH) (Q : Int → AH → Prop) : Prop :=
 nw ro σ (.cells #[.int .i64 a1_0, .string a1_1, Sl.v a1_2, .int .i64 a1_3, .bool a1_4, .bool a1_5] 82) fun x3_1 σ =>
 ∃ (x9_2 : ByteArray), acell ro σ ((⟨x3_1, 0, none⟩ : Addr).add 1) = some (.string x9_2) ∧
 c_path_Parts B ro x9_2 σ fun x10_3 x10_4 σ =>
 ∃ (x15_5 : Int), acell ro σ ⟨x3_1, 0, none⟩ = some (.int .i64 x15_5) ∧
 if x15_5 < 1 then
  j6_multi_work_within B ro a0 x3_1 x10_3 x10_4 Q true σ
 else
 ∃ (x19_16 : Int), acell ro σ ⟨x3_1, 0, none⟩ = some (.int .i64 x19_16) ∧
 j6_multi_work_within B ro a0 x3_1 x10_3 x10_4 Q (decide (4 < x19_16)) σ

set_option maxRecDepth 100000 in
set_option maxHeartbeats 4000000 in
theorem multi_work_within_ok {B : World} {ro : AH} {a0 : Option Addr} {a1_0 : Int} {a1_1 : ByteArray} {a1_2 : Sl} {a1_3 : Int} {a1_4 : Bool} {a1_5 : Bool} {σ : AH} {Q : Int → AH → Prop} (h : Sep ro σ → f_multi_work_within B ro a0 a1_0 a1_1 a1_2 a1_3 a1_4 a1_5 σ Q) : c_multi_work_within B ro a0 a1_0 a1_1 a1_2 a1_3 a1_4 a1_5 σ Q := by
  refine ACalls.of_sep fun hsep => ?_
  replace h := h hsep
  refine ACalls.of_body (args := [.pointer a0, .agg #[.int .i64 a1_0, .string a1_1, Sl.v a1_2, .int .i64 a1_3, .bool a1_4, .bool a1_5]]) Tryz.func125 rfl (by rw [Tryz.ntmps125]; simp) ?_
  rw [Tryz.ntmps125]
  unfold f_multi_work_within at h
  refine AW.seq ?_
  refine AW.reg ?_
  refine Ls rfl rfl (X_new (A_box rfl rfl) fun x3_1 g1 g2 => ?_)
  replace h := h x3_1 g1 g2
  refine Lp (V_asg rfl rfl) rfl rfl ?_
  refine Lnil ?_
  refine thenN ?_
  refine AW.seq ?_
  refine AW.reg ?_
  refine Lp (V_fld rfl Tryz.underlying82 rfl ty9 (by decide) rfl) rfl rfl ?_
  obtain ⟨x9_2, hc, h⟩ := h
  refine Ls rfl rfl (X_ld rfl Tryz.underlying9 rfl rfl hc ?_)
  refine Ls rfl rfl (X_call rfl Tryz.func106 rfl rfl rfl (ACalls.mono h ?_))
  rintro v σ ⟨x10_3, x10_4, rfl, h⟩
  refine Lp (V_move rfl rfl) rfl rfl ?_
  refine Lp (V_ext rfl rfl rfl) rfl rfl ?_
  refine Lp (V_ext rfl rfl rfl) rfl rfl ?_
  refine Lp (V_asg rfl rfl) rfl rfl ?_
  refine Lp (V_asg rfl rfl) rfl rfl ?_
  refine Lnil ?_
  refine thenN ?_
  refine AW.seq ?_
  refine AW.block ?_
  refine AW.seq ?_
  refine AW.reg ?_
  refine Lp (V_fld rfl Tryz.underlying82 rfl ty3 (by decide) rfl) rfl rfl ?_
  obtain ⟨x15_5, hc, h⟩ := h
  refine Ls rfl rfl (X_ld rfl Tryz.underlying3 rfl rfl hc ?_)
  refine Lp (V_lss rfl rfl rfl) rfl rfl ?_
  refine Lp (V_move rfl rfl) rfl rfl ?_
  refine LsplitJ 4 (decide (x15_5 < 1)) decide_eq_true_iff h (fun fr σ => ∃ (x21_7 : Bool), FrLe [(0, .pointer a0), (3, .pointer (some ⟨x3_1, 0, none⟩)), (5, Sl.v x10_3), (6, .int .i64 x10_4), (21, .bool x21_7)] fr ∧ j6_multi_work_within B ro a0 x3_1 x10_3 x10_4 Q x21_7 σ) ?_ ?_ ?_
  · intro h e3 hk3
    refine Ln rfl rfl rfl rfl (.inl (by rw [e3]; rfl)) ?_
    refine Ln rfl rfl rfl rfl (.inl (by rw [e3]; rfl)) ?_
    refine Ln rfl rfl rfl rfl (.inl (by rw [e3]; rfl)) ?_
    refine Lp (V_pickT rfl (evb e3) rfl) rfl rfl ?_
    exact hk3 _ _ ⟨_, (FrLe.cons rfl (FrLe.cons rfl (FrLe.cons rfl (FrLe.cons rfl (FrLe.cons rfl (FrLe.nil _)))))), h⟩
  · intro h e3 hk3
    refine Lypb (V_fld rfl Tryz.underlying82 rfl ty3 (by decide) rfl) rfl rfl rfl rfl e3 ?_
    obtain ⟨x19_16, hc, h⟩ := h
    refine Lyb rfl rfl rfl rfl e3 (X_ld rfl Tryz.underlying3 rfl rfl hc ?_)
    refine Lypb (V_gtr rfl rfl rfl) rfl rfl rfl rfl e3 ?_
    refine Lp (V_pickF rfl (evb e3) rfl) rfl rfl ?_
    exact hk3 _ _ ⟨_, (FrLe.cons rfl (FrLe.cons rfl (FrLe.cons rfl (FrLe.cons rfl (FrLe.cons rfl (FrLe.nil _)))))), h⟩
  rintro fr σ ⟨x21_7, hl, h⟩
  unfold j6_multi_work_within at h
  refine Lfr hl ?_
  refine Lp (V_asg rfl rfl) rfl rfl ?_
  refine Lnil ?_
  refine thenN ?_
  refine AW.iff rfl Iff.rfl h (fun h => ?_) (fun h => ?_)
  · refine AW.seq ?_
    refine AW.reg ?_
    refine Lp (V_asg rfl rfl) rfl rfl ?_
    refine Lnil ?_
    refine thenN ?_
    refine AW.ret ?_
    refine blockR ?_
    refine thenR ?_
    exact bR1 Tryz.results125 rfl ⟨_, rfl, h⟩
  refine AW.seq ?_
  refine AW.reg ?_
  refine Lp (V_move rfl rfl) rfl rfl ?_
  refine Lp (V_neq rfl rfl rfl) rfl rfl ?_
  refine Lp (V_asg rfl rfl) rfl rfl ?_
  refine Lnil ?_
  refine thenN ?_
  refine AW.iff rfl (bnot_iff decide_eq_true_iff) h (fun h => ?_) (fun h => ?_)
  · refine AW.seq ?_
    refine AW.reg ?_
    refine Lp (V_move rfl rfl) rfl rfl ?_
    refine Lp (V_asg rfl rfl) rfl rfl ?_
    refine Lnil ?_
    refine thenN ?_
    refine AW.ret ?_
    refine blockR ?_
    refine thenR ?_
    exact bR1 Tryz.results125 rfl ⟨_, rfl, h⟩
  refine AW.seqJ (fun fr σ => ∃ (x26_9 : Bool), FrLe [(26, .bool x26_9)] fr ∧ j8_multi_work_within B ro Q x26_9 σ) ?_ ?_
  · rintro fr σ ⟨x26_9, hl, h⟩
    refine AW.weaken ?_ hl (HLe.refl _)
    unfold j8_multi_work_within at h
    refine AW.iff rfl Iff.rfl h (fun h => ?_) (fun h => ?_)
    · refine AW.seq ?_
      refine AW.reg ?_
      refine Lp (V_asg rfl rfl) rfl rfl ?_
      refine Lnil ?_
      refine thenN ?_
      refine AW.ret ?_
      refine blockR ?_
      refine thenR ?_
      exact bR1 Tryz.results125 rfl ⟨_, rfl, h⟩
    refine AW.skip ?_
    refine blockN ?_
    refine thenN ?_
    refine AW.seq ?_
    refine AW.reg ?_
    refine Lp (V_asg rfl rfl) rfl rfl ?_
    refine Lnil ?_
    refine thenN ?_
    refine AW.ret ?_
    exact bR1 Tryz.results125 rfl ⟨_, rfl, h⟩
  refine AW.drawn0 (fun i => ([0, 0, 0, 0, 0, 0, 3, 0, 0, 0, 3, 0, 0, 0, 0, 0, 0, 0, 0, 3, 0, 0, 0, 0] : List Nat).getD i 2) [] [0, 1, 2, 3, 4, 5, 7, 8, 9, 6, 10, 11, 12, 13, 14, 15, 16, 17, 18, 19, 20, 21, 22, 23] Tryz.mixed (by decide +kernel) ?_
  refine Dp rfl rfl rfl rfl (V_move rfl rfl) ?_
  refine Dp rfl rfl rfl rfl (V_lenL rfl rfl Tryz.underlying25 rfl rfl) ?_
  refine Dp rfl rfl rfl rfl (V_eql rfl rfl rfl) ?_
  refine Dp rfl rfl rfl rfl (V_move rfl rfl) ?_
  refine splitP (decide ((x10_3.len : Int) = 0)) decide_eq_true_iff h ?_ ?_
  · intro h e3
    refine Dpn rfl rfl rfl rfl rfl (.inl (by rw [e3]; rfl)) rfl ?_
    refine Dpn rfl rfl rfl rfl rfl (.inl (by rw [e3]; rfl)) rfl ?_
    refine Dpn rfl rfl rfl rfl rfl (.inl (by rw [e3]; rfl)) rfl ?_
    refine Dpn rfl rfl rfl rfl rfl (.inl (by rw [e3]; rfl)) rfl ?_
    refine Dpn rfl rfl rfl rfl rfl (.inl (by rw [e3]; rfl)) rfl ?_
    refine Drn rfl rfl rfl rfl rfl (.inl (by rw [e3]; rfl)) rfl ?_
    refine Drn rfl rfl rfl rfl rfl (.inl (by rw [e3]; rfl)) rfl ?_
    refine Dpn rfl rfl rfl rfl rfl (.inl (by rw [e3]; rfl)) rfl ?_
    refine Dp rfl rfl rfl rfl (V_pickT rfl (evb e3) rfl) ?_
    refine Dp rfl rfl rfl rfl (V_move rfl rfl) ?_
    refine splitP true (by simp) h ?_ ?_
    · intro h e13
      refine Dpn rfl rfl rfl rfl rfl (.inl (by rw [e13]; rfl)) rfl ?_
      refine Dpn rfl rfl rfl rfl rfl (.inl (by rw [e13]; rfl)) rfl ?_
      refine Dpn rfl rfl rfl rfl rfl (.inl (by rw [e13]; rfl)) rfl ?_
      refine Dpn rfl rfl rfl rfl rfl (.inl (by rw [e13]; rfl)) rfl ?_
      refine Dpn rfl rfl rfl rfl rfl (.inr rfl) rfl ?_
      refine Drn rfl rfl rfl rfl rfl (.inr rfl) rfl ?_
      refine Dpn rfl rfl rfl rfl rfl (.inr rfl) rfl ?_
      refine Dpn rfl rfl rfl rfl rfl (.inl (by rw [e13]; rfl)) rfl ?_
      refine Dp rfl rfl rfl rfl (V_pickT rfl (evb e13) rfl) ?_
      refine Dp rfl rfl rfl rfl (V_asg rfl rfl) ?_
      refine Dend ?_
      refine thenN ?_
      exact ⟨_, (FrLe.cons rfl (FrLe.nil _)), h⟩
    intro h e13
    refine Dpy rfl rfl rfl rfl rfl e13 rfl (V_move rfl rfl) ?_
    refine Dpy rfl rfl rfl rfl rfl e13 rfl (V_lenL rfl rfl Tryz.underlying25 rfl rfl) ?_
    refine Dpy rfl rfl rfl rfl rfl e13 rfl (V_eql rfl rfl rfl) ?_
    refine Dpy rfl rfl rfl rfl rfl e13 rfl (V_move rfl rfl) ?_
    refine splitP (decide ((x10_3.len : Int) = 1)) decide_eq_true_iff h ?_ ?_
    rotate_left
    · intro h e17
      refine Dpn rfl rfl rfl rfl rfl (.inl (by rw [e17]; rfl)) rfl ?_
      refine Drn rfl rfl rfl rfl rfl (.inl (by rw [e17]; rfl)) rfl ?_
      refine Dpn rfl rfl rfl rfl rfl (.inl (by rw [e17]; rfl)) rfl ?_
      refine Dpy rfl rfl rfl rfl rfl e13 rfl (V_pickF rfl (evb e17) rfl) ?_
      refine Dp rfl rfl rfl rfl (V_pickF rfl (evb e13) rfl) ?_
      refine Dp rfl rfl rfl rfl (V_asg rfl rfl) ?_
      refine Dend ?_
      refine thenN ?_
      exact ⟨_, (FrLe.cons rfl (FrLe.nil _)), h⟩
    intro h e17
    refine Dpy rfl rfl rfl rfl rfl e17 rfl (V_fld rfl Tryz.underlying82 rfl ty3 (by decide) rfl) ?_
    obtain ⟨x46_10, hc, h⟩ := h
    refine Dry rfl rfl rfl rfl rfl e17 rfl (R_ld rfl Tryz.underlying3 rfl rfl hc) ?_
    refine Dpy rfl rfl rfl rfl rfl e17 rfl (V_leq rfl rfl rfl) ?_
    refine Dpy rfl rfl rfl rfl rfl e13 rfl (V_pickT rfl (evb e17) rfl) ?_
    refine Dp rfl rfl rfl rfl (V_pickF rfl (evb e13) rfl) ?_
    refine Dp rfl rfl rfl rfl (V_asg rfl rfl) ?_
    refine Dend ?_
    refine thenN ?_
    exact ⟨_, (FrLe.cons rfl (FrLe.nil _)), h⟩
  intro h e3
  refine Dpy rfl rfl rfl rfl rfl e3 rfl (V_move rfl rfl) ?_
  obtain ⟨p32_11, ha, h0, h1, h⟩ := h
  refine Dpy rfl rfl rfl rfl rfl e3 rfl (V_ixA rfl Tryz.underlying25 ty9 (ixL rfl ha) rfl h0 h1) ?_
  refine Dpy rfl rfl rfl rfl rfl e3 rfl (V_move rfl rfl) ?_
  obtain ⟨p35_12, hc, h⟩ := h
  refine Dpy rfl rfl rfl rfl rfl e3 rfl (V_nil rfl (by rw [← hc]; rfl)) ?_
  refine Dpy rfl rfl rfl rfl rfl e3 rfl (V_fld rfl Tryz.underlying173 rfl ty9 (by decide) rfl) ?_
  obtain ⟨x33_13, hc, h⟩ := h
  refine Dry rfl rfl rfl rfl rfl e3 rfl (R_ld rfl Tryz.underlying9 rfl rfl hc) ?_
  obtain ⟨x37_14, hc, h⟩ := h
  refine Dry rfl rfl rfl rfl rfl e3 rfl (R_ld rfl Tryz.underlying9 rfl rfl hc) ?_
  refine Dpy rfl rfl rfl rfl rfl e3 rfl (V_neqS rfl rfl rfl) ?_
  refine Dp rfl rfl rfl rfl (V_pickF rfl (evb e3) rfl) ?_
  refine Dp rfl rfl rfl rfl (V_move rfl rfl) ?_
  refine splitP (!(decide (x33_13 = x37_14))) (bnot_iff decide_eq_true_iff) h ?_ ?_
  · intro h e13
    refine Dpn rfl rfl rfl rfl rfl (.inl (by rw [e13]; rfl)) rfl ?_
    refine Dpn rfl rfl rfl rfl rfl (.inl (by rw [e13]; rfl)) rfl ?_
    refine Dpn rfl rfl rfl rfl rfl (.inl (by rw [e13]; rfl)) rfl ?_
    refine Dpn rfl rfl rfl rfl rfl (.inl (by rw [e13]; rfl)) rfl ?_
    refine Dpn rfl rfl rfl rfl rfl (.inr rfl) rfl ?_
    refine Drn rfl rfl rfl rfl rfl (.inr rfl) rfl ?_
    refine Dpn rfl rfl rfl rfl rfl (.inr rfl) rfl ?_
    refine Dpn rfl rfl rfl rfl rfl (.inl (by rw [e13]; rfl)) rfl ?_
    refine Dp rfl rfl rfl rfl (V_pickT rfl (evb e13) rfl) ?_
    refine Dp rfl rfl rfl rfl (V_asg rfl rfl) ?_
    refine Dend ?_
    refine thenN ?_
    exact ⟨_, (FrLe.cons rfl (FrLe.nil _)), h⟩
  intro h e13
  refine Dpy rfl rfl rfl rfl rfl e13 rfl (V_move rfl rfl) ?_
  refine Dpy rfl rfl rfl rfl rfl e13 rfl (V_lenL rfl rfl Tryz.underlying25 rfl rfl) ?_
  refine Dpy rfl rfl rfl rfl rfl e13 rfl (V_eql rfl rfl rfl) ?_
  refine Dpy rfl rfl rfl rfl rfl e13 rfl (V_move rfl rfl) ?_
  refine splitP (decide ((x10_3.len : Int) = 1)) decide_eq_true_iff h ?_ ?_
  rotate_left
  · intro h e17
    refine Dpn rfl rfl rfl rfl rfl (.inl (by rw [e17]; rfl)) rfl ?_
    refine Drn rfl rfl rfl rfl rfl (.inl (by rw [e17]; rfl)) rfl ?_
    refine Dpn rfl rfl rfl rfl rfl (.inl (by rw [e17]; rfl)) rfl ?_
    refine Dpy rfl rfl rfl rfl rfl e13 rfl (V_pickF rfl (evb e17) rfl) ?_
    refine Dp rfl rfl rfl rfl (V_pickF rfl (evb e13) rfl) ?_
    refine Dp rfl rfl rfl rfl (V_asg rfl rfl) ?_
    refine Dend ?_
    refine thenN ?_
    exact ⟨_, (FrLe.cons rfl (FrLe.nil _)), h⟩
  intro h e17
  refine Dpy rfl rfl rfl rfl rfl e17 rfl (V_fld rfl Tryz.underlying82 rfl ty3 (by decide) rfl) ?_
  obtain ⟨x46_15, hc, h⟩ := h
  refine Dry rfl rfl rfl rfl rfl e17 rfl (R_ld rfl Tryz.underlying3 rfl rfl hc) ?_
  refine Dpy rfl rfl rfl rfl rfl e17 rfl (V_leq rfl rfl rfl) ?_
  refine Dpy rfl rfl rfl rfl rfl e13 rfl (V_pickT rfl (evb e17) rfl) ?_
  refine Dp rfl rfl rfl rfl (V_pickF rfl (evb e13) rfl) ?_
  refine Dp rfl rfl rfl rfl (V_asg rfl rfl) ?_
  refine Dend ?_
  refine thenN ?_
  exact ⟨_, (FrLe.cons rfl (FrLe.nil _)), h⟩

end Go.Proofs.YthfpmipeejjogaaGreatDoor.G

/- multi.Sweep: the walk (its lines are gen.py's; the loop by RfB and RfC). -/
namespace Go.Proofs.YthfpmipeejjogaaGreatDoor.G
open Go Go.Proofs.YthfpmipeejjogaaGreatDoor.SL
set_option linter.unusedVariables false
set_option linter.unusedSimpArgs false

theorem AWF.iff {F : Fence} {n : Nat} {ds : List Deferred} {P : Program} {B : World} {ro : AH} {N : Nat} {fr : Fr} {σ : AH} {Q : Exit → Fr → AH → Prop} {c : Operand} {x y : Code} {b : Bool} {p : Prop} [Decidable p] {X Y : Prop} (hc : evalF fr c = some (.bool b)) (hi : b = true ↔ p) (h : if p then X else Y)
    (ht : X → AWF F n ds P B ro N x Q fr σ) (hn : Y → AWF F n ds P B ro N y Q fr σ) : AWF F n ds P B ro N (.cond c x y) Q fr σ := by
  refine AWF.cond hc (fun e => ht ?_) (fun e => hn ?_)
  · rw [if_pos (hi.1 e)] at h; exact h
  · rw [if_neg (fun q => by rw [hi.2 q] at e; cases e)] at h; exact h
/-- a step of the way to the loop -/
theorem wpIn_pre {n : Nat} {P : Program} {B : World} {ro φ σ : AH} {N : Nat} {x y : Code} {R : Exit → Act → World → Prop} {fr : Fr} {w : World} {a : Act}
    (h : AW P B ro N x (thenQ (fun fr σ => ∀ w a, SL.Own B ro φ σ w → Fits N fr a → y.wpIn Fence.wide n P R a w) (fun _ _ _ => False)) fr σ) (ho : SL.Own B ro φ σ w) (hf : Fits N fr a) : (Code.seq x y).wpIn Fence.wide n P R a w := by
  refine wpIn_seq (wpIn_wide.2 (wp_mono (h φ w a ho hf) ?_))
  rintro e a' w' ⟨fr', σ', hq, ho', hf'⟩
  cases e with
  | normal => exact hq w' a' ho' hf'
  | _ => exact hq.elim

def rndE (ro : AH) (a0 : ByteArray) (a3 : Addr) (Q : AH → Prop) (x31_6 : Bool) (σ : AH) : Prop :=
 if x31_6 = true then
  ∃ (x32_7 : Sl), acell ro σ a3 = some (Sl.v x32_7) ∧
  nw ro σ (.cells #[.int .i64 2, .string a0] 108) fun x35_8 σ =>
  awp Tryz.prog ro (Builtin.append_ #[75, 75] 75 #[Sl.v x32_7, Sl.v (⟨some ⟨x35_8, 0, none⟩, 1, 1⟩ : Sl)]) (fun v σ => ∃ (x36_9 : Sl), v = Sl.v x36_9 ∧
   stN a3 (fun σ => Q σ) [Sl.v x36_9] 0 σ) σ
 else
 Q σ
/-- A round of the sweep. -/
def rnd (B : World) (ro : AH) (a0 : ByteArray) (a1 : Addr) (a2 : Addr) (a3 : Addr) (σ : AH) (Q : AH → Prop) : Prop :=
 c_path_Home B ro a0 σ fun x20_2 x20_3 σ =>
 ∃ (x24_4 : ByteArray), acell ro σ a2 = some (.string x24_4) ∧
 if x20_2 = x24_4 then
  ∃ (x27_10 : Option Addr), acell ro σ a1 = some (.pointer x27_10) ∧
  c_ztree_Tree_Delete B ro x27_10 a0 (-1) σ fun x29_11 σ =>
  rndE ro a0 a3 Q (decide (x29_11 = 0)) σ
 else
 rndE ro a0 a3 Q false σ

/-- The loop, and what is behind it: an invariant of what is owned. -/
def sweepL (B : World) (ro : AH) (b3 b4 b7 bb : Nat) (s : Sl) (σ : AH) (Q : Sl → AH → Prop) : Prop :=
  ∃ (zs : List ByteArray) (J : List (Int × ByteArray) → AH → Prop),
    ((s = ⟨none, 0, 0⟩ ∧ zs = []) ∨ ∃ b cap o, s = ⟨some ⟨b, 0, none⟩, zs.length, cap⟩ ∧ σ b = some o ∧ (∀ pre σ', J pre σ' → σ' b = some o) ∧ ∀ j, j < zs.length → cellOf ⟨b, j, none⟩ (some o) = some (.string ((zs[j]?).getD ByteArray.empty))) ∧
    zs.length * 8 ≤ 140737488351232 ∧ J [] σ ∧
    (∀ pre σ', J pre σ' → ∀ b o, σ' b = some o → Obj.isCells o = false → ∃ o', σ b = some o') ∧
    (∃ o, σ bb = some o ∧ cellOf ⟨bb, 0, none⟩ (some o) = some (Sl.v s) ∧ ∀ pre σ', J pre σ' → σ' bb = some o) ∧
    (∀ pre x σ1, J pre σ1 → pre.length < zs.length → rnd B ro x.2 ⟨b3, 0, none⟩ ⟨b4, 0, none⟩ ⟨b7, 0, none⟩ σ1 fun σ2 => (∀ b o, σ1 b = some o → ∃ o', σ2 b = some o') ∧ ∃ σ3, HLe σ3 σ2 ∧ J (pre ++ [x]) σ3) ∧
    (∀ σ', J (Back.upto (Back.bk zs) zs.length) σ' → ∃ so, acell ro σ' ⟨b7, 0, none⟩ = some (Sl.v so) ∧ Q so σ')

def sweepF (B : World) (ro : AH) (a0 : Option Addr) (a1 : ByteArray) (a2 : Sl) (σ : AH) (Q : Sl → AH → Prop) : Prop :=
 nw ro σ (.cells #[.pointer a0] 23) fun x3_1 σ =>
 nw ro σ (.cells #[.string a1] 9) fun x4_2 σ =>
 nw ro σ (.cells #[Sl.v (⟨none, 0, 0⟩ : Sl)] 75) fun x7_3 σ =>
 ∃ (x12_4 : Option Addr), acell ro σ ⟨x3_1, 0, none⟩ = some (.pointer x12_4) ∧
 c_ztree_Tree_Owned B ro x12_4 a2 σ fun x14_5 σ =>
 nw ro σ (.cells #[Sl.v x14_5] 25) fun x1_1 σ =>
 sweepL B ro x3_1 x4_2 x7_3 x1_1 x14_5 σ Q

set_option maxRecDepth 100000 in
set_option maxHeartbeats 4000000 in
theorem multi_Sweep_ok {B : World} {ro : AH} {a0 : Option Addr} {a1 : ByteArray} {a2 : Sl} {σ : AH} {Q : Sl → AH → Prop} (h : Sep ro σ → sweepF B ro a0 a1 a2 σ Q) : c_multi_Sweep B ro a0 a1 a2 σ Q := by
  refine ACalls.of_sep fun hsep => ?_
  replace h := h hsep
  refine ACalls.of_marks (n := 5) (args := [.pointer a0, .string a1, Sl.v a2]) Tryz.func45 rfl (by rw [Tryz.ntmps45]; simp) ?_
  rw [Tryz.ntmps45]
  unfold sweepF at h
  intro φ w a ho hf
  refine wpIn_pre ?_ ho hf
  clear ho hf
  refine AW.reg ?_
  refine Ls rfl rfl (X_new (A_box rfl rfl) fun x3_1 g1 g2 => ?_)
  replace h := h x3_1 g1 g2
  refine Ls rfl rfl (X_new (A_box rfl rfl) fun x4_2 g1 g2 => ?_)
  replace h := h x4_2 g1 g2
  refine Lp (V_asg rfl rfl) rfl rfl ?_
  refine Lnil ?_
  refine thenN ?_
  intro w a ho hf
  refine wpIn_pre ?_ ho hf
  clear ho hf
  refine AW.reg ?_
  refine Ls rfl rfl (X_new (A_alloc rfl ty75) fun x7_3 g1 g2 => ?_)
  replace h := h x7_3 g1 g2
  refine Lnil ?_
  refine thenN ?_
  intro w a ho hf
  refine wpIn_seq ?_
  refine wpIn_pre ?_ ho hf
  clear ho hf
  refine AW.reg ?_
  obtain ⟨x12_4, hc, h⟩ := h
  refine Ls rfl rfl (X_ld rfl Tryz.underlying23 rfl rfl hc ?_)
  refine Lp (V_move rfl rfl) rfl rfl ?_
  refine Ls rfl rfl (X_call rfl Tryz.func87 rfl rfl rfl (ACalls.mono h ?_))
  rintro v σ ⟨x14_5, rfl, h⟩
  refine Ls rfl rfl (X_call rfl Tryz.func101 rfl rfl rfl (ACalls.mono (slices_Backward_string_string_ok (Q := fun v σ => ∃ x1, v = .func (.func 126) #[] #[.pointer (some ⟨x1, 0, none⟩)] ∧ sweepL B ro x3_1 x4_2 x7_3 x1 x14_5 σ Q) fun _ => ?_) ?_))
  · unfold f_slices_Backward_string_string
    intro x1 g1 g2
    exact ⟨x1, rfl, h x1 g1 g2⟩
  rintro x15_6 σ ⟨_, rfl, x1, rfl, h⟩
  refine Lnil ?_
  refine thenN ?_
  intro w a ho hf
  refine wpIn_block ?_
  obtain ⟨zs, J, hrow, hreach, h0, hcl, ⟨ob, hob, hobc, hobk⟩, hround, hend⟩ := h
  have hBl : x1 < w.heap.size := ho.lt hob
  have hBc : w.cell? ⟨x1, 0, none⟩ = some x14_5.v := by rw [cell?_eq, (ho.own _ _ hob).1]; exact hobc
  obtain ⟨ks, hk1, hkeep, hI⟩ : ∃ ks : List Nat, x1 ∈ ks ∧ (∀ pre σ', J pre σ' → ∀ k ∈ ks, ∃ o, σ k = some o ∧ σ' k = some o) ∧
      ((x14_5 = ⟨none, 0, 0⟩ ∧ zs = []) ∨ ∃ b cap, x14_5 = ⟨some ⟨b, 0, none⟩, zs.length, cap⟩ ∧ b < w.heap.size ∧ b ∈ ks ∧ ∀ j, j < zs.length → w.cell? ⟨b, j, none⟩ = some (.string ((zs[j]?).getD ByteArray.empty))) := by
    rcases hrow with h1 | ⟨b, cap, o, h1, h2, h3, h4⟩
    · refine ⟨[x1], by simp, fun pre σ' hJ k hk => ?_, .inl h1⟩
      simp at hk; subst hk
      exact ⟨ob, hob, hobk pre σ' hJ⟩
    · refine ⟨[x1, b], by simp, fun pre σ' hJ k hk => ?_, .inr ⟨b, cap, h1, ho.lt h2, by simp, fun j hj => ?_⟩⟩
      · simp at hk
        rcases hk with rfl | rfl
        · exact ⟨ob, hob, hobk pre σ' hJ⟩
        · exact ⟨o, h2, h3 pre σ' hJ⟩
      · rw [cell?_eq, (ho.own _ _ h2).1]
        exact h4 j hj
  refine wp_rangeFunc (gf := 126) (Bs := x1) (by omega) (enters_of Tryz.func126 (by kernel_rfl) rfl) ks rfl (Back.stops 4 (by omega) x1 x14_5 zs ks hreach w hBc hBl hk1 hI) (fun _ => rfl) ho hf J h0 hcl hkeep
    (fun x => [(9, .string x.2), (3, .pointer (some ⟨x3_1, 0, none⟩)), (4, .pointer (some ⟨x4_2, 0, none⟩)), (7, .pointer (some ⟨x7_3, 0, none⟩))]) ?hfr ?hbody ?hdone
  case hfr =>
    intro x
    have k := ((hf.put (d := some 16) rfl (.int .i64 x.1)).put (d := some 17) rfl (.string x.2)).put (d := some 9) rfl (.string x.2)
    have k' := (k.weaken (FrLe.cons rfl (FrLe.cons rfl (FrLe.cons rfl (FrLe.cons rfl (FrLe.nil _))))) : Fits 38 [(9, .string x.2), (3, .pointer (some ⟨x3_1, 0, none⟩)), (4, .pointer (some ⟨x4_2, 0, none⟩)), (7, .pointer (some ⟨x7_3, 0, none⟩))] _).d
    have e : ((#[16, 17].zip #[Value.int .i64 x.1, .string x.2]).foldl (fun t (p, v) => t.setIfInBounds p v) a.tmps) = (a.tmps.setIfInBounds 16 (.int .i64 x.1)).setIfInBounds 17 (.string x.2) := by simp
    have e2 : ((a.tmps.setIfInBounds 16 (.int .i64 x.1)).setIfInBounds 17 (.string x.2)).getD 17 undef = .string x.2 := by simp [Array.getD_eq_getD_getElem?, hf.size]
    refine ⟨?_, rfl, fun i v h => ?_⟩
    · have := k'.size
      rw [e, e2]
      exact this
    · have := k'.has i v h
      rw [e, e2]
      exact this
  case hbody =>
    intro l pre x σ1 hJ hlen
    obtain ⟨R, hR, h⟩ : ∃ R : AH → Prop, (∀ σ2, R σ2 → (∀ b o, σ1 b = some o → ∃ o', σ2 b = some o') ∧ ∃ σ3, HLe σ3 σ2 ∧ J (pre ++ [x]) σ3) ∧ rnd B ro x.2 ⟨x3_1, 0, none⟩ ⟨x4_2, 0, none⟩ ⟨x7_3, 0, none⟩ σ1 R := ⟨_, fun _ h => h, hround pre x σ1 hJ hlen⟩
    clear hround hend
    refine AWF.mono (Q := fun e fr σ => e = .normal ∧ R σ) ?_ (fun e fr σ ⟨h1, h2⟩ => ⟨h1, (hR σ h2).1, (hR σ h2).2⟩)
    have hO := Open.round l
    unfold rnd at h
    refine AWF.block ?_
    refine AWF.seq ?_
    refine AWF.reg hO rfl ?_
    refine Lp (V_move rfl rfl) rfl rfl ?_
    refine Ls rfl rfl (X_call rfl Tryz.func97 rfl rfl rfl (ACalls.mono h ?_))
    rintro v σ ⟨x20_2, x20_3, rfl, h⟩
    refine Lp (V_move rfl rfl) rfl rfl ?_
    refine Lp (V_ext rfl rfl rfl) rfl rfl ?_
    refine Lp (V_ext rfl rfl rfl) rfl rfl ?_
    refine Lp (V_asg rfl rfl) rfl rfl ?_
    refine Lp (V_asg rfl rfl) rfl rfl ?_
    refine Lnil ?_
    refine thenN ?_
    refine AWF.seq ?_
    refine AWF.reg hO rfl ?_
    refine Lp (V_move rfl rfl) rfl rfl ?_
    obtain ⟨x24_4, hc, h⟩ := h
    refine Ls rfl rfl (X_ld rfl Tryz.underlying9 rfl rfl hc ?_)
    refine Lp (V_eqlS rfl rfl rfl) rfl rfl ?_
    refine Lp (V_move rfl rfl) rfl rfl ?_
    refine LsplitJ 5 (decide (x20_2 = x24_4)) decide_eq_true_iff h (fun fr σ => ∃ (x31_6 : Bool), FrLe [(9, .string x.2), (7, .pointer (some ⟨x7_3, 0, none⟩)), (31, .bool x31_6)] fr ∧ rndE ro x.2 ⟨x7_3, 0, none⟩ R x31_6 σ) ?_ ?_ ?_
    · intro h e3 hk3
      obtain ⟨x27_10, hc, h⟩ := h
      refine Lyb rfl rfl rfl rfl e3 (X_ld rfl Tryz.underlying23 rfl rfl hc ?_)
      refine Lypb (V_move rfl rfl) rfl rfl rfl rfl e3 ?_
      refine Lyb rfl rfl rfl rfl e3 (X_call rfl Tryz.func24 rfl rfl rfl (ACalls.mono h ?_))
      rintro v σ ⟨x29_11, rfl, h⟩
      refine Lypb (V_eql rfl rfl rfl) rfl rfl rfl rfl e3 ?_
      refine Lp (V_pickT rfl (evb e3) rfl) rfl rfl ?_
      exact hk3 _ _ ⟨_, (FrLe.cons rfl (FrLe.cons rfl (FrLe.cons rfl (FrLe.nil _)))), h⟩
    · intro h e3 hk3
      refine Ln rfl rfl rfl rfl (.inl (by rw [e3]; rfl)) ?_
      refine Ln rfl rfl rfl rfl (.inl (by rw [e3]; rfl)) ?_
      refine Ln rfl rfl rfl rfl (.inl (by rw [e3]; rfl)) ?_
      refine Ln rfl rfl rfl rfl (.inl (by rw [e3]; rfl)) ?_
      refine Lp (V_pickF rfl (evb e3) rfl) rfl rfl ?_
      exact hk3 _ _ ⟨_, (FrLe.cons rfl (FrLe.cons rfl (FrLe.cons rfl (FrLe.nil _)))), h⟩
    rintro fr σ ⟨x31_6, hl, h⟩
    unfold rndE at h
    refine Lfr hl ?_
    refine Lnil ?_
    refine thenN ?_
    refine AWF.iff rfl Iff.rfl h (fun h => ?_) (fun h => ?_)
    rotate_left
    · refine AWF.skip ?_
      exact blockN ⟨rfl, h⟩
    refine AWF.reg hO rfl ?_
    obtain ⟨x32_7, hc, h⟩ := h
    refine Ls rfl rfl (X_ld rfl Tryz.underlying75 rfl rfl hc ?_)
    refine Lp (V_move rfl rfl) rfl rfl ?_
    refine Lp (V_bld (vs := [(0, .int .i64 2), (1, .string x.2)]) (cs := #[.int .i64 2, .string x.2]) rfl Tryz.underlying108 ty108 pl108 rfl rfl) rfl rfl ?_
    refine Ls rfl rfl (X_new (A_bsl (vs := [(0, .agg #[.int .i64 2, .string x.2])]) (cs := #[.int .i64 2, .string x.2]) rfl Tryz.underlying75 ty108 (by decide) rfl rfl) fun x35_8 g1 g2 => ?_)
    replace h := h x35_8 g1 g2
    refine Ls rfl rfl (X_bi (s := Builtin.append_ #[75, 75] 75 #[Sl.v x32_7, Sl.v (⟨some ⟨x35_8, 0, none⟩, 1, 1⟩ : Sl)]) rfl rfl (fun _ => rfl) (awp_mono _ h ?_))
    rintro v σ ⟨x36_9, rfl, h⟩
    refine Ls rfl rfl (X_st rfl ty75 rfl rfl rfl rfl (stN_mono h fun σ h => ?_))
    refine Lnil ?_
    exact blockN ⟨rfl, h⟩
  case hdone =>
    intro D xs W σ' fD rD hS hJ hO
    subst hS
    obtain ⟨so, hc, hq⟩ := hend σ' hJ
    show Code.wpIn _ _ _ _ _ _ _
    refine wpIn_mono ((?hT : AWF Fence.wide 5 [{ target := .collected D, args := #[] }] Tryz.prog B ro 38 _ (fun e fr σ => e = .ret ∧ SL.look fr 6 = some (Sl.v so) ∧ Q so σ) [(7, .pointer (some ⟨x7_3, 0, none⟩))] σ') _ W _ hO ⟨hf.size, ?hd, fun i v h => hf.has i v ?hl⟩) ?hp
    case hT =>
      refine AWF.seq ?_
      refine AWF.reg Open.wide rfl ?_
      refine Ls rfl rfl (X_ld rfl Tryz.underlying75 rfl rfl hc ?_)
      refine Lp (V_asg rfl rfl) rfl rfl ?_
      refine Lnil ?_
      refine thenN ?_
      exact AWF.ret ⟨rfl, rfl, hq⟩
    case hd => rw [hf.defers]
    case hl => exact (FrLe.cons rfl (FrLe.nil _) : FrLe [(7, .pointer (some ⟨x7_3, 0, none⟩))] _) i v h
    case hp =>
      rintro e a' W' ⟨fr', σ2, ⟨rfl, hl, hq⟩, hO2, hf2⟩
      exact bodyM_of (Q := fun v σ => ∃ (r0 : Sl), v = Sl.v r0 ∧ Q r0 σ) hf2 fD rD hO2 (ret1 (R := fun v σ => ∃ (r0 : Sl), v = Sl.v r0 ∧ Q r0 σ) Tryz.results45 hl ⟨so, rfl, hq⟩)
end Go.Proofs.YthfpmipeejjogaaGreatDoor.G

/- Paths, the walk of the document's answer (althingref02): it says what package path says. -/
namespace Go.Proofs.YthfpmipeejjogaaGreatDoor.Pa
open Go Go.Proofs.YthfpmipeejjogaaGreatDoor.SL Go.Proofs.YthfpmipeejjogaaGreatDoor.G Go.RowKit
set_option linter.unusedSimpArgs false
set_option linter.unusedVariables false
variable {B : World} {ro σ σ' : AH} {tag tag' : Nat → Nat}

theorem t25 : Tryz.prog.underlying 25 = some (.slice 9) := by kernel_rfl
end Go.Proofs.YthfpmipeejjogaaGreatDoor.Pa

/- Paths, the walk: the document's Make, Parent, Base, Under, and package path's Under. -/
namespace Go.Proofs.YthfpmipeejjogaaGreatDoor.Pa
open Go Go.Proofs.YthfpmipeejjogaaGreatDoor.SL Go.Proofs.YthfpmipeejjogaaGreatDoor.G Go.RowKit
set_option linter.unusedSimpArgs false
set_option linter.unusedVariables false
variable {B : World} {ro σ σ' : AH} {tag tag' : Nat → Nat}

theorem good_small {ps : List Str} (h : Good ps) : ps.length < 4611686018427387904 ∧ (mk ps).length < 4611686018427387904 := by
  have := h.n; have := h.len; omega

theorem Row.cap {r : Nat} {e : TypeId} {s : Sl} {l : List Value} (h : Row tag σ r e s l) : s.len ≤ s.cap := by
  rcases h with ⟨e, _⟩ | ⟨_, _, _, _, _, _, _, h, _⟩
  · rw [e]; exact Nat.le_refl _
  · exact h

/-! one path below another -/
theorem cut_app' (a r : Str) : cut (a ++ 47 :: r) = cut a ++ cut r := by
  induction a with
  | nil => rw [List.nil_append]; conv => lhs; unfold cut
           rw [if_pos rfl]; rfl
  | cons c a ih =>
    rw [List.cons_append]
    conv => lhs; unfold cut
    conv => rhs; arg 1; unfold cut
    by_cases h : c = 47
    · rw [if_pos h, if_pos h, ih]; rfl
    · rw [if_neg h, if_neg h, ih]
      cases hc : cut a with
      | nil => exact absurd hc (cut_ne a)
      | cons x xs => rfl
theorem under_iff {ps qs : List Str} (hp : Good ps) (hq : Good qs) (hn : ps ≠ []) : (mk qs = mk ps ∨ (mk ps ++ [47]) <+: mk qs) ↔ ps <+: qs := by
  have hcp : cut ((mk ps).drop 1) = ps := by unfold mk; rw [if_neg hn]; exact cut_mk ps hn fun x hx => name_no (hp.ok x hx)
  constructor
  · rintro (h | ⟨r, h⟩)
    · rw [mk_inj hq hp h]; exact List.prefix_refl _
    · have hqn : qs ≠ [] := by
        intro e
        subst e
        have h1 := congrArg List.length h
        have h2 := mk_pos ps
        simp [mk] at h1
        simp only [mk] at h2
        omega
      have hcq : cut ((mk qs).drop 1) = qs := by unfold mk; rw [if_neg hqn]; exact cut_mk qs hqn fun x hx => name_no (hq.ok x hx)
      have e : (mk qs).drop 1 = (mk ps).drop 1 ++ 47 :: r := by
        rw [← h, List.append_assoc, List.drop_append_of_le_length (mk_pos ps)]; rfl
      rw [e, cut_app', hcp] at hcq
      exact ⟨_, hcq⟩
  · rintro ⟨t, rfl⟩
    cases t with
    | nil => left; rw [List.append_nil]
    | cons x t =>
      right
      have e : mk (ps ++ x :: t) = mk ps ++ [47] ++ (x ++ t.flatMap (fun x => 47 :: x)) := by
        unfold mk
        rw [if_neg (by simp), if_neg hn, List.flatMap_append, List.flatMap_cons]; simp
      exact ⟨_, e.symm⟩
def under (p q : Str) : Option Bool := match parts p, parts q with | some ps, some qs => some (ps.isPrefixOf qs) | _, _ => none
theorem under_ok {p q : ByteArray} {Q : Bool → Int → AH → Prop} (g : Glob ro) (hnone : under (L p) (L q) = none → Q false 20 σ) (hsome : ∀ b, under (L p) (L q) = some b → Q b 0 σ) : c_path_Under B ro p q σ Q := by
  refine path_Under_ok fun hs => ?_
  unfold f_path_Under
  refine check_ok g ?_
  by_cases h1 : chk (L p) = 0
  · rw [if_neg (by simpa using h1)]
    obtain ⟨ps, hps⟩ := chk_zero.1 h1
    refine check_ok g ?_
    unfold j2_path_Under
    by_cases h2 : chk (L q) = 0
    · rw [if_neg (by simpa using h2)]
      obtain ⟨qs, hqs⟩ := chk_zero.1 h2
      obtain ⟨hpl, hpg⟩ := parts_iff.1 hps
      obtain ⟨hql, hqg⟩ := parts_iff.1 hqs
      have hu : under (L p) (L q) = some (ps.isPrefixOf qs) := by unfold under; rw [hps, hqs]
      have hres := hsome _ hu
      unfold j4_path_Under
      by_cases h3 : p = ⟨#[47]⟩ ∨ q = p
      · rw [if_pos h3]
        have : ps.isPrefixOf qs = true := by
          rw [List.isPrefixOf_iff_prefix]
          rcases h3 with h | h
          · have : ps = [] := (slash_iff hpg).1 (by rw [← hpl, h]; rfl)
            rw [this]; exact List.nil_prefix
          · have : ps = qs := by rw [h, hps] at hqs; exact Option.some.inj hqs
            rw [this]; exact List.prefix_refl _
        rw [this] at hres; exact hres
      · rw [if_neg h3]
        have hn : ps ≠ [] := fun e => h3 (.inl (L_inj (by rw [hpl, e]; rfl)))
        have h128 := hpg.len
        have hsz : p.size = (mk ps).length := by rw [← L_len, hpl]
        refine ⟨by show p.size + 1 ≤ _; omega, ?_⟩
        refine hasPrefix_ok ?_
        have e : (L (p ++ (⟨#[47]⟩ : ByteArray))).isPrefixOf (L q) = ps.isPrefixOf qs := by
          rw [L_append, hpl, hql, Bool.eq_iff_iff, List.isPrefixOf_iff_prefix, List.isPrefixOf_iff_prefix, ← under_iff hpg hqg hn]
          constructor
          · intro h; exact .inr h
          · rintro (h | h)
            · exact absurd (.inr (L_inj (by rw [hpl, hql, h]))) h3
            · exact h
        rw [e]; exact hres
    · rw [if_pos (by simpa using h2)]
      refine hnone ?_
      unfold under
      cases h : parts (L q) with
      | none => cases parts (L p) <;> rfl
      | some qs => exact absurd (chk_zero.2 ⟨qs, h⟩) h2
  · rw [if_pos (by simpa using h1)]
    unfold j2_path_Under
    rw [if_pos rfl]
    refine hnone ?_
    unfold under
    cases h : parts (L p) with
    | none => rfl
    | some qs => exact absurd (chk_zero.2 ⟨qs, h⟩) h1
end Go.Proofs.YthfpmipeejjogaaGreatDoor.Pa
