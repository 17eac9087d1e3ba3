/- GL8, MuG, PuA, R7A, MuH, MuE84, MuI, R7B, R7D, R7H, R7I, R7L, R7P, R7Q, R7S -/
import Derived.Test.YthfpmipeejjogaaGreatDoorXM
/- Functions as predicate transformers, and the proofs that the code does what they tell: printed by wip/tools/gen.py. -/
namespace Go.Proofs.YthfpmipeejjogaaGreatDoor.G
open Go Go.Proofs.YthfpmipeejjogaaGreatDoor.SL
set_option linter.unusedVariables false
set_option linter.unusedSimpArgs false

def j21_law08_MultiPuts (B : World) (ro : AH) (Q : Bool → AH → Prop) (x92_22 : Bool) (σ : AH) : Prop :=
 Q x92_22 σ

def j19_law08_MultiPuts (B : World) (ro : AH) (Q : Bool → AH → Prop) (x89_20 : Bool) (σ : AH) : Prop :=
 if x89_20 = true then
  c_law08_awake B ro σ fun x91_23 σ =>
  j21_law08_MultiPuts B ro Q x91_23 σ
 else
 j21_law08_MultiPuts B ro Q false σ

def j15_law08_MultiPuts (B : World) (ro : AH) (a0 : Sl) (x18_2 : Sl) (x24_6 : Int) (Q : Bool → AH → Prop) (x73_16 : Bool) (σ : AH) : Prop :=
 if x73_16 = true then
  Q false σ
 else
 if x24_6 = 0 then
  c_multi_Get B ro x18_2 σ fun x78_17 x78_18 σ =>
  if x78_18 = 0 then
   c_law08_ops B ro x78_17 σ fun x85_24 σ =>
   c_law08_ops B ro a0 σ fun x87_25 σ =>
   c_ref08_SameOps B ro x85_24 x87_25 σ fun x88_26 σ =>
   j19_law08_MultiPuts B ro Q x88_26 σ
  else
  j19_law08_MultiPuts B ro Q false σ
 else
 c_law08_awake B ro σ fun x93_27 σ =>
 Q x93_27 σ

def j13_law08_MultiPuts (B : World) (ro : AH) (a0 : Sl) (x18_2 : Sl) (x24_6 : Int) (x30_8 : Sl) (x35_10 : Sl) (x35_11 : Bool) (Q : Bool → AH → Prop) (x65_14 : Bool) (σ : AH) : Prop :=
 if x65_14 = true then
  Q false σ
 else
 if x35_11 = true then
  c_law08_ops B ro x30_8 σ fun x69_28 σ =>
  c_ref08_SameOps B ro x69_28 x35_10 σ fun x71_29 σ =>
  j15_law08_MultiPuts B ro a0 x18_2 x24_6 Q (!x71_29) σ
 else
 j15_law08_MultiPuts B ro a0 x18_2 x24_6 Q false σ

def j30_law08_MultiPuts (B : World) (ro : AH) (a0 : Sl) (x18_2 : Sl) (x18_3 : Int) (x24_6 : Int) (x30_8 : Sl) (x30_9 : Int) (x35_10 : Sl) (x35_11 : Bool) (x40_12 : Bool) (Q : Bool → AH → Prop) (x64_31 : Bool) (σ : AH) : Prop :=
 j13_law08_MultiPuts B ro a0 x18_2 x24_6 x30_8 x35_10 x35_11 Q x64_31 σ

def f_law08_MultiPuts (B : World) (ro : AH) (a0 : Sl) (a1 : Sl) (σ : AH) (Q : Bool → AH → Prop) : Prop :=
 c_law08_copied B ro a0 σ fun x17_1 σ =>
 c_multi_Put B ro x17_1 σ fun x18_2 x18_3 σ =>
 c_law08_ops B ro a0 σ fun x23_4 σ =>
 c_ref08_Put B ro x23_4 σ fun x24_5 x24_6 σ =>
 c_ref01_Copy B ro a1 σ fun x29_7 σ =>
 c_multi_Get B ro x29_7 σ fun x30_8 x30_9 σ =>
 c_ref08_Get B ro a1 σ fun x35_10 x35_11 σ =>
 c_ref01_Same B ro x18_2 x24_5 σ fun x40_12 σ =>
 if ((¬ (x40_12 = true)) ∨ (¬ (x18_3 = x24_6))) ∨ (¬ (x35_11 = (decide (x30_9 = 0)))) then
  j13_law08_MultiPuts B ro a0 x18_2 x24_6 x30_8 x35_10 x35_11 Q true σ
 else
 if ¬ (x35_11 = true) then
  j30_law08_MultiPuts B ro a0 x18_2 x18_3 x24_6 x30_8 x30_9 x35_10 x35_11 x40_12 Q ((!(decide (x30_9 = 13))) || (decide (0 < (x30_8.len : Int)))) σ
 else
 j30_law08_MultiPuts B ro a0 x18_2 x18_3 x24_6 x30_8 x30_9 x35_10 x35_11 x40_12 Q false σ

set_option maxRecDepth 100000 in
set_option maxHeartbeats 4000000 in
theorem law08_MultiPuts_ok {B : World} {ro : AH} {a0 : Sl} {a1 : Sl} {σ : AH} {Q : Bool → AH → Prop} (h : Sep ro σ → f_law08_MultiPuts B ro a0 a1 σ Q) : c_law08_MultiPuts B ro a0 a1 σ Q := by
  refine ACalls.of_sep fun hsep => ?_
  replace h := h hsep
  refine ACalls.of_body (args := [Sl.v a0, Sl.v a1]) Tryz.func13 rfl (by rw [Tryz.ntmps13]; simp) ?_
  rw [Tryz.ntmps13]
  unfold f_law08_MultiPuts at h
  refine AW.seq ?_
  refine AW.reg ?_
  refine Lp (V_asg rfl rfl) rfl rfl ?_
  refine Lnil ?_
  refine thenN ?_
  refine AW.seq ?_
  refine AW.reg ?_
  refine Lp (V_move rfl rfl) rfl rfl ?_
  refine Ls rfl rfl (X_call rfl Tryz.func37 rfl rfl rfl (ACalls.mono h ?_))
  rintro v σ ⟨x17_1, rfl, h⟩
  refine Ls rfl rfl (X_call rfl Tryz.func50 rfl rfl rfl (ACalls.mono h ?_))
  rintro v σ ⟨x18_2, x18_3, rfl, h⟩
  refine Lp (V_move rfl rfl) rfl rfl ?_
  refine Lp (V_ext rfl rfl rfl) rfl rfl ?_
  refine Lp (V_ext rfl rfl rfl) rfl rfl ?_
  refine Lp (V_asg rfl rfl) rfl rfl ?_
  refine Lp (V_asg rfl rfl) rfl rfl ?_
  refine Lnil ?_
  refine thenN ?_
  refine AW.seq ?_
  refine AW.reg ?_
  refine Lp (V_move rfl rfl) rfl rfl ?_
  refine Ls rfl rfl (X_call rfl Tryz.func42 rfl rfl rfl (ACalls.mono h ?_))
  rintro v σ ⟨x23_4, rfl, h⟩
  refine Ls rfl rfl (X_call rfl Tryz.func51 rfl rfl rfl (ACalls.mono h ?_))
  rintro v σ ⟨x24_5, x24_6, rfl, h⟩
  refine Lp (V_move rfl rfl) rfl rfl ?_
  refine Lp (V_ext rfl rfl rfl) rfl rfl ?_
  refine Lp (V_ext rfl rfl rfl) rfl rfl ?_
  refine Lp (V_asg rfl rfl) rfl rfl ?_
  refine Lp (V_asg rfl rfl) rfl rfl ?_
  refine Lnil ?_
  refine thenN ?_
  refine AW.seq ?_
  refine AW.reg ?_
  refine Lp (V_move rfl rfl) rfl rfl ?_
  refine Ls rfl rfl (X_call rfl Tryz.func23 rfl rfl rfl (ACalls.mono h ?_))
  rintro v σ ⟨x29_7, rfl, h⟩
  refine Ls rfl rfl (X_call rfl Tryz.func52 rfl rfl rfl (ACalls.mono h ?_))
  rintro v σ ⟨x30_8, x30_9, rfl, h⟩
  refine Lp (V_move rfl rfl) rfl rfl ?_
  refine Lp (V_ext rfl rfl rfl) rfl rfl ?_
  refine Lp (V_ext rfl rfl rfl) rfl rfl ?_
  refine Lp (V_asg rfl rfl) rfl rfl ?_
  refine Lp (V_asg rfl rfl) rfl rfl ?_
  refine Lnil ?_
  refine thenN ?_
  refine AW.seq ?_
  refine AW.reg ?_
  refine Lp (V_move rfl rfl) rfl rfl ?_
  refine Ls rfl rfl (X_call rfl Tryz.func53 rfl rfl rfl (ACalls.mono h ?_))
  rintro v σ ⟨x35_10, x35_11, rfl, h⟩
  refine Lp (V_move rfl rfl) rfl rfl ?_
  refine Lp (V_ext rfl rfl rfl) rfl rfl ?_
  refine Lp (V_ext rfl rfl rfl) rfl rfl ?_
  refine Lp (V_asg rfl rfl) rfl rfl ?_
  refine Lp (V_asg rfl rfl) rfl rfl ?_
  refine Lnil ?_
  refine thenN ?_
  refine AW.seq ?_
  refine AW.seq ?_
  refine AW.reg ?_
  refine Lp (V_move rfl rfl) rfl rfl ?_
  refine Lp (V_move rfl rfl) rfl rfl ?_
  refine Ls rfl rfl (X_call rfl Tryz.func26 rfl rfl rfl (ACalls.mono h ?_))
  rintro v σ ⟨x40_12, rfl, h⟩
  refine Lp (V_not rfl rfl) rfl rfl ?_
  refine Lp (V_move rfl rfl) rfl rfl ?_
  refine Lsplit 4 (!x40_12) [(0, Sl.v a0), (5, Sl.v x18_2), (8, .int .i64 x24_6), (9, Sl.v x30_8), (10, .int .i64 x30_9), (11, Sl.v x35_10), (12, .bool x35_11), (46, .bool ((!x40_12) || (!(decide (x18_3 = x24_6)))))] ?_ ?_ ?_
  · intro e4 hk4
    refine Ln rfl rfl rfl rfl (.inl (by rw [e4]; rfl)) ?_
    refine Ln rfl rfl rfl rfl (.inl (by rw [e4]; rfl)) ?_
    refine Ln rfl rfl rfl rfl (.inl (by rw [e4]; rfl)) ?_
    refine Lp (V_pickT rfl (evb e4) rfl) rfl rfl ?_
    exact hk4 _ (FrLe.cons rfl (FrLe.cons rfl (FrLe.cons rfl (FrLe.cons rfl (FrLe.cons rfl (FrLe.cons rfl (FrLe.cons rfl (FrLe.cons (by rw [e4]; rfl) (FrLe.nil _)))))))))
  · intro e4 hk4
    refine Lypb (V_move rfl rfl) rfl rfl rfl rfl e4 ?_
    refine Lypb (V_move rfl rfl) rfl rfl rfl rfl e4 ?_
    refine Lypb (V_neq rfl rfl rfl) rfl rfl rfl rfl e4 ?_
    refine Lp (V_pickF rfl (evb e4) rfl) rfl rfl ?_
    exact hk4 _ (FrLe.cons rfl (FrLe.cons rfl (FrLe.cons rfl (FrLe.cons rfl (FrLe.cons rfl (FrLe.cons rfl (FrLe.cons rfl (FrLe.cons (by rw [e4]; rfl) (FrLe.nil _)))))))))
  intro fr hl
  refine Lfr hl ?_
  refine Lp (V_move rfl rfl) rfl rfl ?_
  refine Lsplit 5 ((!x40_12) || (!(decide (x18_3 = x24_6)))) [(0, Sl.v a0), (5, Sl.v x18_2), (8, .int .i64 x24_6), (9, Sl.v x30_8), (10, .int .i64 x30_9), (11, Sl.v x35_10), (12, .bool x35_11), (52, .bool (((!x40_12) || (!(decide (x18_3 = x24_6)))) || (!(x35_11 == (decide (x30_9 = 0))))))] ?_ ?_ ?_
  · intro e9 hk9
    refine Ln rfl rfl rfl rfl (.inl (by rw [e9]; rfl)) ?_
    refine Ln rfl rfl rfl rfl (.inl (by rw [e9]; rfl)) ?_
    refine Ln rfl rfl rfl rfl (.inl (by rw [e9]; rfl)) ?_
    refine Ln rfl rfl rfl rfl (.inl (by rw [e9]; rfl)) ?_
    refine Lp (V_pickT rfl (evb e9) rfl) rfl rfl ?_
    exact hk9 _ (FrLe.cons rfl (FrLe.cons rfl (FrLe.cons rfl (FrLe.cons rfl (FrLe.cons rfl (FrLe.cons rfl (FrLe.cons rfl (FrLe.cons (by rw [e9]; rfl) (FrLe.nil _)))))))))
  · intro e9 hk9
    refine Lypb (V_move rfl rfl) rfl rfl rfl rfl e9 ?_
    refine Lypb (V_move rfl rfl) rfl rfl rfl rfl e9 ?_
    refine Lypb (V_eql rfl rfl rfl) rfl rfl rfl rfl e9 ?_
    refine Lypb (V_neB rfl Tryz.underlying4 rfl rfl) rfl rfl rfl rfl e9 ?_
    refine Lp (V_pickF rfl (evb e9) rfl) rfl rfl ?_
    exact hk9 _ (FrLe.cons rfl (FrLe.cons rfl (FrLe.cons rfl (FrLe.cons rfl (FrLe.cons rfl (FrLe.cons rfl (FrLe.cons rfl (FrLe.cons (by rw [e9]; rfl) (FrLe.nil _)))))))))
  intro fr hl
  refine Lfr hl ?_
  refine Lp (V_move rfl rfl) rfl rfl ?_
  refine LsplitJ 12 (((!x40_12) || (!(decide (x18_3 = x24_6)))) || (!(x35_11 == (decide (x30_9 = 0))))) (bor_iff (bor_iff (bnot_iff Iff.rfl) (bnot_iff decide_eq_true_iff)) (bnot_iff beq_iff')) h (fun fr σ => ∃ (x65_14 : Bool), FrLe [(0, Sl.v a0), (5, Sl.v x18_2), (8, .int .i64 x24_6), (9, Sl.v x30_8), (11, Sl.v x35_10), (12, .bool x35_11), (65, .bool x65_14)] fr ∧ j13_law08_MultiPuts B ro a0 x18_2 x24_6 x30_8 x35_10 x35_11 Q x65_14 σ) ?_ ?_ ?_
  · intro h e15 hk15
    refine Ln rfl rfl rfl rfl (.inl (by rw [e15]; rfl)) ?_
    refine Ln rfl rfl rfl rfl (.inl (by rw [e15]; rfl)) ?_
    refine Ln rfl rfl rfl rfl (.inl (by rw [e15]; rfl)) ?_
    refine Ln rfl rfl rfl rfl (.inr rfl) ?_
    refine Ln rfl rfl rfl rfl (.inr rfl) ?_
    refine Ln rfl rfl rfl rfl (.inr rfl) ?_
    refine Ln rfl rfl rfl rfl (.inr rfl) ?_
    refine Ln rfl rfl rfl rfl (.inr rfl) ?_
    refine Ln rfl rfl rfl rfl (.inr rfl) ?_
    refine Ln rfl rfl rfl rfl (.inr rfl) ?_
    refine Ln rfl rfl rfl rfl (.inl (by rw [e15]; rfl)) ?_
    refine Lp (V_pickT rfl (evb e15) rfl) rfl rfl ?_
    exact hk15 _ _ ⟨_, (FrLe.cons rfl (FrLe.cons rfl (FrLe.cons rfl (FrLe.cons rfl (FrLe.cons rfl (FrLe.cons rfl (FrLe.cons rfl (FrLe.nil _)))))))), h⟩
  · intro h e15 hk15
    refine Lypb (V_move rfl rfl) rfl rfl rfl rfl e15 ?_
    refine Lypb (V_not rfl rfl) rfl rfl rfl rfl e15 ?_
    refine Lypb (V_move rfl rfl) rfl rfl rfl rfl e15 ?_
    refine LsplitJ 8 (!x35_11) (bnot_iff Iff.rfl) h (fun fr σ => ∃ (x64_31 : Bool), FrLe [(0, Sl.v a0), (5, Sl.v x18_2), (8, .int .i64 x24_6), (9, Sl.v x30_8), (11, Sl.v x35_10), (12, .bool x35_11), (53, .bool (((!x40_12) || (!(decide (x18_3 = x24_6)))) || (!(x35_11 == (decide (x30_9 = 0)))))), (64, .bool x64_31)] fr ∧ j30_law08_MultiPuts B ro a0 x18_2 x18_3 x24_6 x30_8 x30_9 x35_10 x35_11 x40_12 Q x64_31 σ) ?_ ?_ ?_
    · intro h e18 hk18
      refine Lypb (V_move rfl rfl) rfl rfl rfl rfl e18 ?_
      refine Lypb (V_neq rfl rfl rfl) rfl rfl rfl rfl e18 ?_
      refine Lypb (V_move rfl rfl) rfl rfl rfl rfl e18 ?_
      refine Lsplit 4 (!(decide (x30_9 = 13))) [(0, Sl.v a0), (5, Sl.v x18_2), (8, .int .i64 x24_6), (9, Sl.v x30_8), (11, Sl.v x35_10), (12, .bool x35_11), (53, .bool (((!x40_12) || (!(decide (x18_3 = x24_6)))) || (!(x35_11 == (decide (x30_9 = 0)))))), (56, .bool (!x35_11)), (63, .bool ((!(decide (x30_9 = 13))) || (decide (0 < (x30_8.len : Int)))))] ?_ ?_ ?_
      · intro e21 hk21
        refine Ln rfl rfl rfl rfl (.inl (by rw [e21]; rfl)) ?_
        refine Ln rfl rfl rfl rfl (.inl (by rw [e21]; rfl)) ?_
        refine Ln rfl rfl rfl rfl (.inl (by rw [e21]; rfl)) ?_
        refine Lypb (V_pickT rfl (evb e21) rfl) rfl rfl rfl rfl e18 ?_
        exact hk21 _ (FrLe.cons rfl (FrLe.cons rfl (FrLe.cons rfl (FrLe.cons rfl (FrLe.cons rfl (FrLe.cons rfl (FrLe.cons rfl (FrLe.cons rfl (FrLe.cons (by rw [e21]; rfl) (FrLe.nil _))))))))))
      · intro e21 hk21
        refine Lypb (V_move rfl rfl) rfl rfl rfl rfl e21 ?_
        refine Lypb (V_lenL rfl rfl Tryz.underlying70 rfl rfl) rfl rfl rfl rfl e21 ?_
        refine Lypb (V_gtr rfl rfl rfl) rfl rfl rfl rfl e21 ?_
        refine Lypb (V_pickF rfl (evb e21) rfl) rfl rfl rfl rfl e18 ?_
        exact hk21 _ (FrLe.cons rfl (FrLe.cons rfl (FrLe.cons rfl (FrLe.cons rfl (FrLe.cons rfl (FrLe.cons rfl (FrLe.cons rfl (FrLe.cons rfl (FrLe.cons (by rw [e21]; rfl) (FrLe.nil _))))))))))
      intro fr hl
      refine Lfr hl ?_
      refine Lypb (V_pickT rfl (evb e18) rfl) rfl rfl rfl rfl e15 ?_
      exact hk18 _ _ ⟨_, (FrLe.cons rfl (FrLe.cons rfl (FrLe.cons rfl (FrLe.cons rfl (FrLe.cons rfl (FrLe.cons rfl (FrLe.cons rfl (FrLe.cons rfl (FrLe.nil _))))))))), h⟩
    · intro h e18 hk18
      refine Ln rfl rfl rfl rfl (.inl (by rw [e18]; rfl)) ?_
      refine Ln rfl rfl rfl rfl (.inl (by rw [e18]; rfl)) ?_
      refine Ln rfl rfl rfl rfl (.inl (by rw [e18]; rfl)) ?_
      refine Ln rfl rfl rfl rfl (.inr rfl) ?_
      refine Ln rfl rfl rfl rfl (.inr rfl) ?_
      refine Ln rfl rfl rfl rfl (.inr rfl) ?_
      refine Ln rfl rfl rfl rfl (.inl (by rw [e18]; rfl)) ?_
      refine Lypb (V_pickF rfl (evb e18) rfl) rfl rfl rfl rfl e15 ?_
      exact hk18 _ _ ⟨_, (FrLe.cons rfl (FrLe.cons rfl (FrLe.cons rfl (FrLe.cons rfl (FrLe.cons rfl (FrLe.cons rfl (FrLe.cons rfl (FrLe.cons rfl (FrLe.nil _))))))))), h⟩
    rintro fr σ ⟨x64_31, hl, h⟩
    unfold j30_law08_MultiPuts at h
    refine Lfr hl ?_
    refine Lp (V_pickF rfl (evb e15) rfl) rfl rfl ?_
    exact hk15 _ _ ⟨_, (FrLe.cons rfl (FrLe.cons rfl (FrLe.cons rfl (FrLe.cons rfl (FrLe.cons rfl (FrLe.cons rfl (FrLe.cons rfl (FrLe.nil _)))))))), h⟩
  rintro fr σ ⟨x65_14, hl, h⟩
  unfold j13_law08_MultiPuts at h
  refine Lfr hl ?_
  refine Lnil ?_
  refine thenN ?_
  refine AW.iff rfl Iff.rfl h (fun h => ?_) (fun h => ?_)
  · refine AW.seq ?_
    refine AW.reg ?_
    refine Lp (V_asg rfl rfl) rfl rfl ?_
    refine Lnil ?_
    refine thenN ?_
    refine AW.ret ?_
    refine thenR ?_
    exact bR1 Tryz.results13 rfl ⟨_, rfl, h⟩
  refine AW.skip ?_
  refine thenN ?_
  refine AW.seq ?_
  refine AW.seq ?_
  refine AW.reg ?_
  refine Lp (V_move rfl rfl) rfl rfl ?_
  refine Lp (V_move rfl rfl) rfl rfl ?_
  refine LsplitJ 6 x35_11 Iff.rfl h (fun fr σ => ∃ (x73_16 : Bool), FrLe [(0, Sl.v a0), (5, Sl.v x18_2), (8, .int .i64 x24_6), (73, .bool x73_16)] fr ∧ j15_law08_MultiPuts B ro a0 x18_2 x24_6 Q x73_16 σ) ?_ ?_ ?_
  · intro h e1 hk1
    refine Lypb (V_move rfl rfl) rfl rfl rfl rfl e1 ?_
    refine Lyb rfl rfl rfl rfl e1 (X_call rfl Tryz.func42 rfl rfl rfl (ACalls.mono h ?_))
    rintro v σ ⟨x69_28, rfl, h⟩
    refine Lypb (V_move rfl rfl) rfl rfl rfl rfl e1 ?_
    refine Lyb rfl rfl rfl rfl e1 (X_call rfl Tryz.func54 rfl rfl rfl (ACalls.mono h ?_))
    rintro v σ ⟨x71_29, rfl, h⟩
    refine Lypb (V_not rfl rfl) rfl rfl rfl rfl e1 ?_
    refine Lp (V_pickT rfl (evb e1) rfl) rfl rfl ?_
    exact hk1 _ _ ⟨_, (FrLe.cons rfl (FrLe.cons rfl (FrLe.cons rfl (FrLe.cons rfl (FrLe.nil _))))), h⟩
  · intro h e1 hk1
    refine Ln rfl rfl rfl rfl (.inl (by rw [e1]; rfl)) ?_
    refine Ln rfl rfl rfl rfl (.inl (by rw [e1]; rfl)) ?_
    refine Ln rfl rfl rfl rfl (.inl (by rw [e1]; rfl)) ?_
    refine Ln rfl rfl rfl rfl (.inl (by rw [e1]; rfl)) ?_
    refine Ln rfl rfl rfl rfl (.inl (by rw [e1]; rfl)) ?_
    refine Lp (V_pickF rfl (evb e1) rfl) rfl rfl ?_
    exact hk1 _ _ ⟨_, (FrLe.cons rfl (FrLe.cons rfl (FrLe.cons rfl (FrLe.cons rfl (FrLe.nil _))))), h⟩
  rintro fr σ ⟨x73_16, hl, h⟩
  unfold j15_law08_MultiPuts at h
  refine Lfr hl ?_
  refine Lnil ?_
  refine thenN ?_
  refine AW.iff rfl Iff.rfl h (fun h => ?_) (fun h => ?_)
  · refine AW.seq ?_
    refine AW.reg ?_
    refine Lp (V_asg rfl rfl) rfl rfl ?_
    refine Lnil ?_
    refine thenN ?_
    refine AW.ret ?_
    refine thenR ?_
    exact bR1 Tryz.results13 rfl ⟨_, rfl, h⟩
  refine AW.skip ?_
  refine thenN ?_
  refine AW.seq ?_
  refine AW.seq ?_
  refine AW.reg ?_
  refine Lp (V_move rfl rfl) rfl rfl ?_
  refine Lp (V_eql rfl rfl rfl) rfl rfl ?_
  refine Lnil ?_
  refine thenN ?_
  refine AW.iff rfl decide_eq_true_iff h (fun h => ?_) (fun h => ?_)
  rotate_left
  · refine AW.skip ?_
    refine thenN ?_
    refine AW.seq ?_
    refine AW.reg ?_
    refine Ls rfl rfl (X_call rfl Tryz.func38 rfl rfl rfl (ACalls.mono h ?_))
    rintro v σ ⟨x93_27, rfl, h⟩
    refine Lp (V_asg rfl rfl) rfl rfl ?_
    refine Lnil ?_
    refine thenN ?_
    refine AW.ret ?_
    exact bR1 Tryz.results13 rfl ⟨_, rfl, h⟩
  refine AW.seq ?_
  refine AW.reg ?_
  refine Lp (V_move rfl rfl) rfl rfl ?_
  refine Ls rfl rfl (X_call rfl Tryz.func52 rfl rfl rfl (ACalls.mono h ?_))
  rintro v σ ⟨x78_17, x78_18, rfl, h⟩
  refine Lp (V_move rfl rfl) rfl rfl ?_
  refine Lp (V_ext rfl rfl rfl) rfl rfl ?_
  refine Lp (V_ext rfl rfl rfl) rfl rfl ?_
  refine Lp (V_asg rfl rfl) rfl rfl ?_
  refine Lp (V_asg rfl rfl) rfl rfl ?_
  refine Lnil ?_
  refine thenN ?_
  refine AW.seq ?_
  refine AW.reg ?_
  refine Lp (V_move rfl rfl) rfl rfl ?_
  refine Lp (V_eql rfl rfl rfl) rfl rfl ?_
  refine Lp (V_move rfl rfl) rfl rfl ?_
  refine LsplitJ 6 (decide (x78_18 = 0)) decide_eq_true_iff h (fun fr σ => ∃ (x89_20 : Bool), FrLe [(89, .bool x89_20)] fr ∧ j19_law08_MultiPuts B ro Q x89_20 σ) ?_ ?_ ?_
  · intro h e2 hk2
    refine Lypb (V_move rfl rfl) rfl rfl rfl rfl e2 ?_
    refine Lyb rfl rfl rfl rfl e2 (X_call rfl Tryz.func42 rfl rfl rfl (ACalls.mono h ?_))
    rintro v σ ⟨x85_24, rfl, h⟩
    refine Lypb (V_move rfl rfl) rfl rfl rfl rfl e2 ?_
    refine Lyb rfl rfl rfl rfl e2 (X_call rfl Tryz.func42 rfl rfl rfl (ACalls.mono h ?_))
    rintro v σ ⟨x87_25, rfl, h⟩
    refine Lyb rfl rfl rfl rfl e2 (X_call rfl Tryz.func54 rfl rfl rfl (ACalls.mono h ?_))
    rintro v σ ⟨x88_26, rfl, h⟩
    refine Lp (V_pickT rfl (evb e2) rfl) rfl rfl ?_
    exact hk2 _ _ ⟨_, (FrLe.cons rfl (FrLe.nil _)), h⟩
  · intro h e2 hk2
    refine Ln rfl rfl rfl rfl (.inl (by rw [e2]; rfl)) ?_
    refine Ln rfl rfl rfl rfl (.inl (by rw [e2]; rfl)) ?_
    refine Ln rfl rfl rfl rfl (.inl (by rw [e2]; rfl)) ?_
    refine Ln rfl rfl rfl rfl (.inl (by rw [e2]; rfl)) ?_
    refine Ln rfl rfl rfl rfl (.inl (by rw [e2]; rfl)) ?_
    refine Lp (V_pickF rfl (evb e2) rfl) rfl rfl ?_
    exact hk2 _ _ ⟨_, (FrLe.cons rfl (FrLe.nil _)), h⟩
  rintro fr σ ⟨x89_20, hl, h⟩
  unfold j19_law08_MultiPuts at h
  refine Lfr hl ?_
  refine Lp (V_move rfl rfl) rfl rfl ?_
  refine LsplitJ 2 x89_20 Iff.rfl h (fun fr σ => ∃ (x92_22 : Bool), FrLe [(92, .bool x92_22)] fr ∧ j21_law08_MultiPuts B ro Q x92_22 σ) ?_ ?_ ?_
  · intro h e9 hk9
    refine Lyb rfl rfl rfl rfl e9 (X_call rfl Tryz.func38 rfl rfl rfl (ACalls.mono h ?_))
    rintro v σ ⟨x91_23, rfl, h⟩
    refine Lp (V_pickT rfl (evb e9) rfl) rfl rfl ?_
    exact hk9 _ _ ⟨_, (FrLe.cons rfl (FrLe.nil _)), h⟩
  · intro h e9 hk9
    refine Ln rfl rfl rfl rfl (.inl (by rw [e9]; rfl)) ?_
    refine Lp (V_pickF rfl (evb e9) rfl) rfl rfl ?_
    exact hk9 _ _ ⟨_, (FrLe.cons rfl (FrLe.nil _)), h⟩
  rintro fr σ ⟨x92_22, hl, h⟩
  unfold j21_law08_MultiPuts at h
  refine Lfr hl ?_
  refine Lp (V_asg rfl rfl) rfl rfl ?_
  refine Lnil ?_
  refine thenN ?_
  refine AW.ret ?_
  refine thenR ?_
  exact bR1 Tryz.results13 rfl ⟨_, rfl, h⟩

def j2_law08_start (B : World) (ro : AH) (x6_1 : Option Addr) (Q : Option Addr → AH → Prop) (σ : AH) : Prop :=
 Q x6_1 σ

def l3_law08_start (B : World) (ro : AH) (a0 : Sl) (x6_1 : Option Addr) (Q : Option Addr → AH → Prop) : (Int) → AH → ((Int) → AH → Prop) → Prop := fun x11_4 σ Y3 =>
 if x11_4 < (a0.len : Int) then
  ∃ p13_5 : Addr, a0.a = some p13_5 ∧ (0 : Int) ≤ x11_4 ∧ x11_4 < (a0.len : Int) ∧
  ∃ (x14_6 : ByteArray), acell ro σ (p13_5.add (Int.toNat x11_4 * 1)) = some (.string x14_6) ∧
  (⟨#[47]⟩ : ByteArray).size + x14_6.size ≤ 9223372036854775807 ∧
  c_ztree_Tree_Create B ro x6_1 ((⟨#[47]⟩ : ByteArray) ++ x14_6) (⟨none, 0, 0⟩ : Sl) 0 false σ fun x18_7 x18_8 σ =>
  Y3 (IntKind.i64.wrap (x11_4 + 1)) σ
 else
 j2_law08_start B ro x6_1 Q σ

def f_law08_start (B : World) (ro : AH) (a0 : Sl) (σ : AH) (Q : Option Addr → AH → Prop) : Prop :=
 c_ztree_New B ro σ fun x6_1 σ =>
 if x6_1 = none then
  Q none σ
 else
 lfpD (l3_law08_start B ro a0 x6_1 Q ) (0) σ

set_option maxRecDepth 100000 in
set_option maxHeartbeats 4000000 in
theorem law08_start_ok {B : World} {ro : AH} {a0 : Sl} {σ : AH} {Q : Option Addr → AH → Prop} (h : Sep ro σ → f_law08_start B ro a0 σ Q) : c_law08_start B ro a0 σ Q := by
  refine ACalls.of_sep fun hsep => ?_
  replace h := h hsep
  refine ACalls.of_body (args := [Sl.v a0]) Tryz.func35 rfl (by rw [Tryz.ntmps35]; simp) ?_
  rw [Tryz.ntmps35]
  unfold f_law08_start at h
  refine AW.seq ?_
  refine AW.reg ?_
  refine Lp (V_asg rfl rfl) rfl rfl ?_
  refine Lnil ?_
  refine thenN ?_
  refine AW.seq ?_
  refine AW.reg ?_
  refine Ls rfl rfl (X_call rfl Tryz.func30 rfl rfl rfl (ACalls.mono h ?_))
  rintro v σ ⟨x6_1, rfl, h⟩
  refine Lp (V_asg rfl rfl) rfl rfl ?_
  refine Lnil ?_
  refine thenN ?_
  refine AW.seq ?_
  refine AW.seq ?_
  refine AW.reg ?_
  refine Lp (V_move rfl rfl) rfl rfl ?_
  refine Lp (V_eqP rfl Tryz.underlying23 rfl rfl) rfl rfl ?_
  refine Lnil ?_
  refine thenN ?_
  refine AW.iff rfl isNone_iff h (fun h => ?_) (fun h => ?_)
  · refine AW.seq ?_
    refine AW.reg ?_
    refine Lp (V_asg rfl rfl) rfl rfl ?_
    refine Lnil ?_
    refine thenN ?_
    refine AW.ret ?_
    refine thenR ?_
    exact bR1 Tryz.results35 rfl ⟨_, rfl, h⟩
  refine AW.skip ?_
  refine thenN ?_
  refine AW.seqJ (fun fr σ => FrLe [(3, .pointer x6_1)] fr ∧ j2_law08_start B ro x6_1 Q σ) ?_ ?_
  · rintro fr σ ⟨hl, h⟩
    refine AW.weaken ?_ hl (HLe.refl _)
    unfold j2_law08_start at h
    refine AW.seq ?_
    refine AW.reg ?_
    refine Lp (V_move rfl rfl) rfl rfl ?_
    refine Lp (V_asg rfl rfl) rfl rfl ?_
    refine Lnil ?_
    refine thenN ?_
    refine AW.ret ?_
    exact bR1 Tryz.results35 rfl ⟨_, rfl, h⟩
  refine AW.seq ?_
  refine AW.reg ?_
  refine Lp (V_move rfl rfl) rfl rfl ?_
  refine Lp (V_lenL rfl rfl Tryz.underlying25 rfl rfl) rfl rfl ?_
  refine Lp (V_move rfl rfl) rfl rfl ?_
  refine Lnil ?_
  refine thenN ?_
  refine AW.block ?_
  refine ARound.loop (fr' := [(3, .pointer x6_1), (9, Sl.v a0), (10, .int .i64 (a0.len : Int)), (11, .int .i64 0)]) ?_ (FrLe.cons rfl (FrLe.cons rfl (FrLe.cons rfl (FrLe.cons rfl (FrLe.nil _)))))
  refine h (fun x11_4 σ => ARound _ _ _ _ _ _ [(3, .pointer x6_1), (9, Sl.v a0), (10, .int .i64 (a0.len : Int)), (11, .int .i64 x11_4)] σ) ?_
  rintro x11_4 σ Y3 hY3 h
  show AW _ _ _ _ _ _ _ _
  unfold l3_law08_start at h
  refine AW.seq ?_
  refine AW.reg ?_
  refine Lp (V_lss rfl rfl rfl) rfl rfl ?_
  refine Lnil ?_
  refine thenN ?_
  refine AW.seq ?_
  refine AW.iff rfl decide_eq_true_iff h (fun h => ?_) (fun h => ?_)
  rotate_left
  · refine AW.exit ?_
    refine thenE ?_
    refine thenE ?_
    refine blockE ?_
    refine thenN ?_
    exact ⟨(FrLe.cons rfl (FrLe.nil _)), h⟩
  refine AW.skip ?_
  refine thenN ?_
  refine AW.seq ?_
  refine AW.block ?_
  refine AW.seq ?_
  refine AW.reg ?_
  obtain ⟨p13_5, ha, h0, h1, h⟩ := h
  refine Lp (V_ixA rfl Tryz.underlying25 ty9 (ixL rfl ha) rfl h0 h1) rfl rfl ?_
  obtain ⟨x14_6, hc, h⟩ := h
  refine Ls rfl rfl (X_ld rfl Tryz.underlying9 rfl rfl hc ?_)
  refine Lp (V_asg rfl rfl) rfl rfl ?_
  refine Lnil ?_
  refine thenN ?_
  refine AW.reg ?_
  refine Lp (V_move rfl rfl) rfl rfl ?_
  refine Lp (V_move rfl rfl) rfl rfl ?_
  obtain ⟨hc, h⟩ := h
  refine Lp (V_cat rfl rfl rfl hc) rfl rfl ?_
  refine Ls rfl rfl (X_call rfl Tryz.func22 rfl rfl rfl (ACalls.mono h ?_))
  rintro v σ ⟨x18_7, x18_8, rfl, h⟩
  refine Lnil ?_
  refine blockN ?_
  refine thenN ?_
  refine AW.reg ?_
  refine Lp (V_add rfl rfl rfl) rfl rfl ?_
  refine Lp (V_move rfl rfl) rfl rfl ?_
  refine Lnil ?_
  refine thenN ?_
  refine ARound.head (fr' := [(3, .pointer x6_1), (9, Sl.v a0), (10, .int .i64 (a0.len : Int)), (11, .int .i64 (IntKind.i64.wrap (x11_4 + 1)))]) ?_ (FrLe.cons rfl (FrLe.cons rfl (FrLe.cons rfl (FrLe.cons rfl (FrLe.nil _)))))
  exact hY3 _ _ h

def j1_law08_copied (B : World) (ro : AH) (Q : Sl → AH → Prop) (x3_2 : Sl) (σ : AH) : Prop :=
 Q x3_2 σ

def l3_law08_copied (B : World) (ro : AH) (a0 : Sl) (Q : Sl → AH → Prop) : (Sl × Int) → AH → ((Sl × Int) → AH → Prop) → Prop := fun ⟨x3_4, x8_5⟩ σ Y3 =>
 if x8_5 < (a0.len : Int) then
  ∃ p10_6 : Addr, a0.a = some p10_6 ∧ (0 : Int) ≤ x8_5 ∧ x8_5 < (a0.len : Int) ∧
  ∃ (x11_7a : Int) (x11_7b : ByteArray) (x11_7c : Sl) (x11_7d : Int) (x11_7e : Bool) (x11_7f : Bool), cellsAt ro σ (p10_6.add (Int.toNat x8_5 * 6)) 0 [.int .i64 x11_7a, .string x11_7b, Sl.v x11_7c, .int .i64 x11_7d, .bool x11_7e, .bool x11_7f] ∧
  nw ro σ (.cells #[.int .i64 0, .string ByteArray.empty, Sl.v (⟨none, 0, 0⟩ : Sl), .int .i64 0, .bool false, .bool false] 82) fun x5_8 σ =>
  stN ⟨x5_8, 0, none⟩ (fun σ =>
   ∃ (x13_9 : Sl), acell ro σ ((⟨x5_8, 0, none⟩ : Addr).add 2) = some (Sl.v x13_9) ∧
   c_ref01_Copy B ro x13_9 σ fun x14_10 σ =>
   stN ((⟨x5_8, 0, none⟩ : Addr).add 2) (fun σ =>
    ∃ (x17_11a : Int) (x17_11b : ByteArray) (x17_11c : Sl) (x17_11d : Int) (x17_11e : Bool) (x17_11f : Bool), cellsAt ro σ ⟨x5_8, 0, none⟩ 0 [.int .i64 x17_11a, .string x17_11b, Sl.v x17_11c, .int .i64 x17_11d, .bool x17_11e, .bool x17_11f] ∧
    nw ro σ (.cells #[.int .i64 x17_11a, .string x17_11b, Sl.v x17_11c, .int .i64 x17_11d, .bool x17_11e, .bool x17_11f] 82) fun x18_12 σ =>
    awp Tryz.prog ro (Builtin.append_ #[70, 70] 70 #[Sl.v x3_4, Sl.v (⟨some ⟨x18_12, 0, none⟩, 1, 1⟩ : Sl)]) (fun v σ => ∃ (x19_13 : Sl), v = Sl.v x19_13 ∧
     Y3 (x19_13, IntKind.i64.wrap (x8_5 + 1)) σ) σ) [Sl.v x14_10] 0 σ) [.int .i64 x11_7a, .string x11_7b, Sl.v x11_7c, .int .i64 x11_7d, .bool x11_7e, .bool x11_7f] 0 σ
 else
 j1_law08_copied B ro Q x3_4 σ

def f_law08_copied (B : World) (ro : AH) (a0 : Sl) (σ : AH) (Q : Sl → AH → Prop) : Prop :=
 lfpD (l3_law08_copied B ro a0 Q ) ((⟨none, 0, 0⟩ : Sl), 0) σ

set_option maxRecDepth 100000 in
set_option maxHeartbeats 4000000 in
theorem law08_copied_ok {B : World} {ro : AH} {a0 : Sl} {σ : AH} {Q : Sl → AH → Prop} (h : Sep ro σ → f_law08_copied B ro a0 σ Q) : c_law08_copied B ro a0 σ Q := by
  refine ACalls.of_sep fun hsep => ?_
  replace h := h hsep
  refine ACalls.of_body (args := [Sl.v a0]) Tryz.func37 rfl (by rw [Tryz.ntmps37]; simp) ?_
  rw [Tryz.ntmps37]
  unfold f_law08_copied at h
  refine AW.seq ?_
  refine AW.reg ?_
  refine Lp (V_asg rfl rfl) rfl rfl ?_
  refine Lnil ?_
  refine thenN ?_
  refine AW.seq ?_
  refine AW.reg ?_
  refine Lp (V_asg rfl rfl) rfl rfl ?_
  refine Lnil ?_
  refine thenN ?_
  refine AW.seqJ (fun fr σ => ∃ (x3_2 : Sl), FrLe [(3, Sl.v x3_2)] fr ∧ j1_law08_copied B ro Q x3_2 σ) ?_ ?_
  · rintro fr σ ⟨x3_2, hl, h⟩
    refine AW.weaken ?_ hl (HLe.refl _)
    unfold j1_law08_copied at h
    refine AW.seq ?_
    refine AW.reg ?_
    refine Lp (V_move rfl rfl) rfl rfl ?_
    refine Lp (V_asg rfl rfl) rfl rfl ?_
    refine Lnil ?_
    refine thenN ?_
    refine AW.ret ?_
    exact bR1 Tryz.results37 rfl ⟨_, rfl, h⟩
  refine AW.seq ?_
  refine AW.reg ?_
  refine Lp (V_move rfl rfl) rfl rfl ?_
  refine Lp (V_lenL rfl rfl Tryz.underlying70 rfl rfl) rfl rfl ?_
  refine Lp (V_move rfl rfl) rfl rfl ?_
  refine Lnil ?_
  refine thenN ?_
  refine AW.block ?_
  refine ARound.loop (fr' := [(6, Sl.v a0), (7, .int .i64 (a0.len : Int)), (3, Sl.v (⟨none, 0, 0⟩ : Sl)), (8, .int .i64 0)]) ?_ (FrLe.cons rfl (FrLe.cons rfl (FrLe.cons rfl (FrLe.cons rfl (FrLe.nil _)))))
  refine h (fun ⟨x3_4, x8_5⟩ σ => ARound _ _ _ _ _ _ [(6, Sl.v a0), (7, .int .i64 (a0.len : Int)), (3, Sl.v x3_4), (8, .int .i64 x8_5)] σ) ?_
  rintro ⟨x3_4, x8_5⟩ σ Y3 hY3 h
  show AW _ _ _ _ _ _ _ _
  unfold l3_law08_copied at h
  dsimp only at h
  refine AW.seq ?_
  refine AW.reg ?_
  refine Lp (V_lss rfl rfl rfl) rfl rfl ?_
  refine Lnil ?_
  refine thenN ?_
  refine AW.seq ?_
  refine AW.iff rfl decide_eq_true_iff h (fun h => ?_) (fun h => ?_)
  rotate_left
  · refine AW.exit ?_
    refine thenE ?_
    refine thenE ?_
    refine blockE ?_
    refine thenN ?_
    exact ⟨_, (FrLe.cons rfl (FrLe.nil _)), h⟩
  refine AW.skip ?_
  refine thenN ?_
  refine AW.seq ?_
  refine AW.block ?_
  refine AW.seq ?_
  refine AW.reg ?_
  obtain ⟨p10_6, ha, h0, h1, h⟩ := h
  refine Lp (V_ixA rfl Tryz.underlying70 ty82 (ixL rfl ha) rfl h0 h1) rfl rfl ?_
  obtain ⟨x11_7a, x11_7b, x11_7c, x11_7d, x11_7e, x11_7f, hc, h⟩ := h
  refine Ls rfl rfl (X_lda rfl Tryz.underlying82 rfl ty82 rfl hc ?_)
  refine Ls rfl rfl (X_new (A_alloc rfl ty82) fun x5_8 g1 g2 => ?_)
  replace h := h x5_8 g1 g2
  refine Ls rfl rfl (X_st rfl ty82 rfl rfl rfl rfl (stN_mono h fun σ h => ?_))
  refine Lnil ?_
  refine thenN ?_
  refine AW.seq ?_
  refine AW.reg ?_
  refine Lp (V_fld rfl Tryz.underlying82 rfl ty30 (by decide) rfl) rfl rfl ?_
  obtain ⟨x13_9, hc, h⟩ := h
  refine Ls rfl rfl (X_ld rfl Tryz.underlying30 rfl rfl hc ?_)
  refine Ls rfl rfl (X_call rfl Tryz.func23 rfl rfl rfl (ACalls.mono h ?_))
  rintro v σ ⟨x14_10, rfl, h⟩
  refine Lp (V_fld rfl Tryz.underlying82 rfl ty30 (by decide) rfl) rfl rfl ?_
  refine Ls rfl rfl (X_st rfl ty30 rfl rfl rfl rfl (stN_mono h fun σ h => ?_))
  refine Lnil ?_
  refine thenN ?_
  refine AW.reg ?_
  refine Lp (V_move rfl rfl) rfl rfl ?_
  obtain ⟨x17_11a, x17_11b, x17_11c, x17_11d, x17_11e, x17_11f, hc, h⟩ := h
  refine Ls rfl rfl (X_lda rfl Tryz.underlying82 rfl ty82 rfl hc ?_)
  refine Ls rfl rfl (X_new (A_bsl (vs := [(0, .agg #[.int .i64 x17_11a, .string x17_11b, Sl.v x17_11c, .int .i64 x17_11d, .bool x17_11e, .bool x17_11f])]) (cs := #[.int .i64 x17_11a, .string x17_11b, Sl.v x17_11c, .int .i64 x17_11d, .bool x17_11e, .bool x17_11f]) rfl Tryz.underlying70 ty82 (by decide) rfl rfl) fun x18_12 g1 g2 => ?_)
  replace h := h x18_12 g1 g2
  refine Ls rfl rfl (X_bi (s := Builtin.append_ #[70, 70] 70 #[Sl.v x3_4, Sl.v (⟨some ⟨x18_12, 0, none⟩, 1, 1⟩ : Sl)]) rfl rfl (fun _ => rfl) (awp_mono _ h ?_))
  rintro v σ ⟨x19_13, rfl, h⟩
  refine Lp (V_asg rfl rfl) rfl rfl ?_
  refine Lnil ?_
  refine blockN ?_
  refine thenN ?_
  refine AW.reg ?_
  refine Lp (V_add rfl rfl rfl) rfl rfl ?_
  refine Lp (V_move rfl rfl) rfl rfl ?_
  refine Lnil ?_
  refine thenN ?_
  refine ARound.head (fr' := [(6, Sl.v a0), (7, .int .i64 (a0.len : Int)), (3, Sl.v x19_13), (8, .int .i64 (IntKind.i64.wrap (x8_5 + 1)))]) ?_ (FrLe.cons rfl (FrLe.cons rfl (FrLe.cons rfl (FrLe.cons rfl (FrLe.nil _)))))
  exact hY3 _ _ h

def j13_law08_awake (B : World) (ro : AH) (Q : Bool → AH → Prop) (x41_14 : Bool) (σ : AH) : Prop :=
 Q x41_14 σ

def j11_law08_awake (B : World) (ro : AH) (x5_2 : Option Addr) (Q : Bool → AH → Prop) (x36_12 : Bool) (σ : AH) : Prop :=
 if x36_12 = true then
  c_ztree_Tree_Size B ro x5_2 σ fun x39_15 σ =>
  j13_law08_awake B ro Q (decide (x39_15 = 3)) σ
 else
 j13_law08_awake B ro Q false σ

def j9_law08_awake (B : World) (ro : AH) (x2_6 : Nat) (x5_2 : Option Addr) (Q : Bool → AH → Prop) (x28_10 : Bool) (σ : AH) : Prop :=
 if x28_10 = true then
  ∃ (x31_16 : Sl), acell ro σ ⟨x2_6, 0, none⟩ = some (Sl.v x31_16) ∧
  ∃ p32_17 : Addr, x31_16.a = some p32_17 ∧ (0 : Int) ≤ 0 ∧ 0 < (x31_16.len : Int) ∧
  ∃ (x34_18 : ByteArray), acell ro σ (p32_17.add (Int.toNat 0 * 2)) = some (.string x34_18) ∧
  j11_law08_awake B ro x5_2 Q (decide (x34_18 = (⟨#[47, 97, 47, 120]⟩ : ByteArray))) σ
 else
 j11_law08_awake B ro x5_2 Q false σ

def j7_law08_awake (B : World) (ro : AH) (x2_6 : Nat) (x5_2 : Option Addr) (Q : Bool → AH → Prop) (x22_8 : Bool) (σ : AH) : Prop :=
 if x22_8 = true then
  ∃ (x25_19 : Sl), acell ro σ ⟨x2_6, 0, none⟩ = some (Sl.v x25_19) ∧
  j9_law08_awake B ro x2_6 x5_2 Q (decide ((x25_19.len : Int) = 1)) σ
 else
 j9_law08_awake B ro x2_6 x5_2 Q false σ

def f_law08_awake (B : World) (ro : AH) (σ : AH) (Q : Bool → AH → Prop) : Prop :=
 nw ro σ (.cells #[.string (⟨#[97]⟩ : ByteArray)] 9) fun x4_1 σ =>
 c_law08_start B ro (⟨some ⟨x4_1, 0, none⟩, 1, 1⟩ : Sl) σ fun x5_2 σ =>
 if x5_2 = none then
  Q false σ
 else
 nw ro σ (.cells #[.int .i64 1, .string (⟨#[47, 97, 47, 120]⟩ : ByteArray), Sl.v (⟨none, 0, 0⟩ : Sl), .int .i64 0, .bool false, .bool false] 82) fun x12_3 σ =>
 c_multi_Apply B ro x5_2 (⟨#[97]⟩ : ByteArray) 5 9 99 (⟨some ⟨x12_3, 0, none⟩, 1, 1⟩ : Sl) σ fun x13_4a x13_4b x13_4c x13_5 σ =>
 nw ro σ (.cells #[Sl.v (⟨none, 0, 0⟩ : Sl), Sl.v (⟨none, 0, 0⟩ : Sl), .int .i64 0] 77) fun x2_6 σ =>
 stN ⟨x2_6, 0, none⟩ (fun σ =>
  if x13_5 = 0 then
   ∃ (x20_20 : Int), acell ro σ ((⟨x2_6, 0, none⟩ : Addr).add 2) = some (.int .i64 x20_20) ∧
   j7_law08_awake B ro x2_6 x5_2 Q (decide (x20_20 = (-1))) σ
  else
  j7_law08_awake B ro x2_6 x5_2 Q false σ) [Sl.v x13_4a, Sl.v x13_4b, .int .i64 x13_4c] 0 σ

set_option maxRecDepth 100000 in
set_option maxHeartbeats 4000000 in
theorem law08_awake_ok {B : World} {ro : AH} {σ : AH} {Q : Bool → AH → Prop} (h : Sep ro σ → f_law08_awake B ro σ Q) : c_law08_awake B ro σ Q := by
  refine ACalls.of_sep fun hsep => ?_
  replace h := h hsep
  refine ACalls.of_body (args := []) Tryz.func38 rfl (by rw [Tryz.ntmps38]; simp) ?_
  rw [Tryz.ntmps38]
  unfold f_law08_awake at h
  refine AW.seq ?_
  refine AW.reg ?_
  refine Lp (V_asg rfl rfl) rfl rfl ?_
  refine Lnil ?_
  refine thenN ?_
  refine AW.seq ?_
  refine AW.reg ?_
  refine Ls rfl rfl (X_new (A_bsl (vs := [(0, .string (⟨#[97]⟩ : ByteArray))]) (cs := #[.string (⟨#[97]⟩ : ByteArray)]) rfl Tryz.underlying25 ty9 (by decide) rfl rfl) fun x4_1 g1 g2 => ?_)
  replace h := h x4_1 g1 g2
  refine Ls rfl rfl (X_call rfl Tryz.func35 rfl rfl rfl (ACalls.mono h ?_))
  rintro v σ ⟨x5_2, rfl, h⟩
  refine Lp (V_asg rfl rfl) rfl rfl ?_
  refine Lnil ?_
  refine thenN ?_
  refine AW.seq ?_
  refine AW.seq ?_
  refine AW.reg ?_
  refine Lp (V_move rfl rfl) rfl rfl ?_
  refine Lp (V_eqP rfl Tryz.underlying23 rfl rfl) rfl rfl ?_
  refine Lnil ?_
  refine thenN ?_
  refine AW.iff rfl isNone_iff h (fun h => ?_) (fun h => ?_)
  · refine AW.seq ?_
    refine AW.reg ?_
    refine Lp (V_asg rfl rfl) rfl rfl ?_
    refine Lnil ?_
    refine thenN ?_
    refine AW.ret ?_
    refine thenR ?_
    exact bR1 Tryz.results38 rfl ⟨_, rfl, h⟩
  refine AW.skip ?_
  refine thenN ?_
  refine AW.seq ?_
  refine AW.reg ?_
  refine Lp (V_move rfl rfl) rfl rfl ?_
  refine Lp (V_bld (vs := [(0, .int .i64 9), (1, .int .i64 99)]) (cs := #[.int .i64 9, .int .i64 99]) rfl Tryz.underlying69 ty69 pl69 rfl rfl) rfl rfl ?_
  refine Lp (V_bld (vs := [(0, .int .i64 1), (1, .string (⟨#[47, 97, 47, 120]⟩ : ByteArray))]) (cs := #[.int .i64 1, .string (⟨#[47, 97, 47, 120]⟩ : ByteArray), Sl.v (⟨none, 0, 0⟩ : Sl), .int .i64 0, .bool false, .bool false]) rfl Tryz.underlying82 ty82 pl82 rfl rfl) rfl rfl ?_
  refine Ls rfl rfl (X_new (A_bsl (vs := [(0, .agg #[.int .i64 1, .string (⟨#[47, 97, 47, 120]⟩ : ByteArray), Sl.v (⟨none, 0, 0⟩ : Sl), .int .i64 0, .bool false, .bool false])]) (cs := #[.int .i64 1, .string (⟨#[47, 97, 47, 120]⟩ : ByteArray), Sl.v (⟨none, 0, 0⟩ : Sl), .int .i64 0, .bool false, .bool false]) rfl Tryz.underlying70 ty82 (by decide) rfl rfl) fun x12_3 g1 g2 => ?_)
  replace h := h x12_3 g1 g2
  refine Ls rfl rfl (X_call rfl Tryz.func36 rfl rfl rfl (ACalls.mono h ?_))
  rintro v σ ⟨x13_4a, x13_4b, x13_4c, x13_5, rfl, h⟩
  refine Lp (V_move rfl rfl) rfl rfl ?_
  refine Lp (V_ext rfl rfl rfl) rfl rfl ?_
  refine Lp (V_ext rfl rfl rfl) rfl rfl ?_
  refine Ls rfl rfl (X_new (A_alloc rfl ty77) fun x2_6 g1 g2 => ?_)
  replace h := h x2_6 g1 g2
  refine Ls rfl rfl (X_st rfl ty77 rfl rfl rfl rfl (stN_mono h fun σ h => ?_))
  refine Lp (V_asg rfl rfl) rfl rfl ?_
  refine Lnil ?_
  refine thenN ?_
  refine AW.seq ?_
  refine AW.reg ?_
  refine Lp (V_move rfl rfl) rfl rfl ?_
  refine Lp (V_eql rfl rfl rfl) rfl rfl ?_
  refine Lp (V_move rfl rfl) rfl rfl ?_
  refine LsplitJ 4 (decide (x13_5 = 0)) decide_eq_true_iff h (fun fr σ => ∃ (x22_8 : Bool), FrLe [(1, .pointer x5_2), (2, .pointer (some ⟨x2_6, 0, none⟩)), (22, .bool x22_8)] fr ∧ j7_law08_awake B ro x2_6 x5_2 Q x22_8 σ) ?_ ?_ ?_
  · intro h e2 hk2
    refine Lypb (V_fld rfl Tryz.underlying77 rfl ty3 (by decide) rfl) rfl rfl rfl rfl e2 ?_
    obtain ⟨x20_20, hc, h⟩ := h
    refine Lyb rfl rfl rfl rfl e2 (X_ld rfl Tryz.underlying3 rfl rfl hc ?_)
    refine Lypb (V_eql rfl rfl rfl) rfl rfl rfl rfl e2 ?_
    refine Lp (V_pickT rfl (evb e2) rfl) rfl rfl ?_
    exact hk2 _ _ ⟨_, (FrLe.cons rfl (FrLe.cons rfl (FrLe.cons rfl (FrLe.nil _)))), h⟩
  · intro h e2 hk2
    refine Ln rfl rfl rfl rfl (.inl (by rw [e2]; rfl)) ?_
    refine Ln rfl rfl rfl rfl (.inl (by rw [e2]; rfl)) ?_
    refine Ln rfl rfl rfl rfl (.inl (by rw [e2]; rfl)) ?_
    refine Lp (V_pickF rfl (evb e2) rfl) rfl rfl ?_
    exact hk2 _ _ ⟨_, (FrLe.cons rfl (FrLe.cons rfl (FrLe.cons rfl (FrLe.nil _)))), h⟩
  rintro fr σ ⟨x22_8, hl, h⟩
  unfold j7_law08_awake at h
  refine Lfr hl ?_
  refine Lp (V_move rfl rfl) rfl rfl ?_
  refine LsplitJ 5 x22_8 Iff.rfl h (fun fr σ => ∃ (x28_10 : Bool), FrLe [(1, .pointer x5_2), (2, .pointer (some ⟨x2_6, 0, none⟩)), (28, .bool x28_10)] fr ∧ j9_law08_awake B ro x2_6 x5_2 Q x28_10 σ) ?_ ?_ ?_
  · intro h e7 hk7
    refine Lypb (V_fld rfl Tryz.underlying77 rfl ty74 (by decide) rfl) rfl rfl rfl rfl e7 ?_
    obtain ⟨x25_19, hc, h⟩ := h
    refine Lyb rfl rfl rfl rfl e7 (X_ld rfl Tryz.underlying74 rfl rfl hc ?_)
    refine Lypb (V_lenL rfl rfl Tryz.underlying74 rfl rfl) rfl rfl rfl rfl e7 ?_
    refine Lypb (V_eql rfl rfl rfl) rfl rfl rfl rfl e7 ?_
    refine Lp (V_pickT rfl (evb e7) rfl) rfl rfl ?_
    exact hk7 _ _ ⟨_, (FrLe.cons rfl (FrLe.cons rfl (FrLe.cons rfl (FrLe.nil _)))), h⟩
  · intro h e7 hk7
    refine Ln rfl rfl rfl rfl (.inl (by rw [e7]; rfl)) ?_
    refine Ln rfl rfl rfl rfl (.inl (by rw [e7]; rfl)) ?_
    refine Ln rfl rfl rfl rfl (.inl (by rw [e7]; rfl)) ?_
    refine Ln rfl rfl rfl rfl (.inl (by rw [e7]; rfl)) ?_
    refine Lp (V_pickF rfl (evb e7) rfl) rfl rfl ?_
    exact hk7 _ _ ⟨_, (FrLe.cons rfl (FrLe.cons rfl (FrLe.cons rfl (FrLe.nil _)))), h⟩
  rintro fr σ ⟨x28_10, hl, h⟩
  unfold j9_law08_awake at h
  refine Lfr hl ?_
  refine Lp (V_move rfl rfl) rfl rfl ?_
  refine LsplitJ 7 x28_10 Iff.rfl h (fun fr σ => ∃ (x36_12 : Bool), FrLe [(1, .pointer x5_2), (36, .bool x36_12)] fr ∧ j11_law08_awake B ro x5_2 Q x36_12 σ) ?_ ?_ ?_
  · intro h e13 hk13
    refine Lypb (V_fld rfl Tryz.underlying77 rfl ty74 (by decide) rfl) rfl rfl rfl rfl e13 ?_
    obtain ⟨x31_16, hc, h⟩ := h
    refine Lyb rfl rfl rfl rfl e13 (X_ld rfl Tryz.underlying74 rfl rfl hc ?_)
    obtain ⟨p32_17, ha, h0, h1, h⟩ := h
    refine Lypb (V_ixA rfl Tryz.underlying74 ty84 (ixL rfl ha) rfl h0 h1) rfl rfl rfl rfl e13 ?_
    refine Lypb (V_fld rfl Tryz.underlying84 rfl ty9 (by decide) rfl) rfl rfl rfl rfl e13 ?_
    obtain ⟨x34_18, hc, h⟩ := h
    refine Lyb rfl rfl rfl rfl e13 (X_ld rfl Tryz.underlying9 rfl rfl hc ?_)
    refine Lypb (V_eqlS rfl rfl rfl) rfl rfl rfl rfl e13 ?_
    refine Lp (V_pickT rfl (evb e13) rfl) rfl rfl ?_
    exact hk13 _ _ ⟨_, (FrLe.cons rfl (FrLe.cons rfl (FrLe.nil _))), h⟩
  · intro h e13 hk13
    refine Ln rfl rfl rfl rfl (.inl (by rw [e13]; rfl)) ?_
    refine Ln rfl rfl rfl rfl (.inl (by rw [e13]; rfl)) ?_
    refine Ln rfl rfl rfl rfl (.inl (by rw [e13]; rfl)) ?_
    refine Ln rfl rfl rfl rfl (.inl (by rw [e13]; rfl)) ?_
    refine Ln rfl rfl rfl rfl (.inl (by rw [e13]; rfl)) ?_
    refine Ln rfl rfl rfl rfl (.inl (by rw [e13]; rfl)) ?_
    refine Lp (V_pickF rfl (evb e13) rfl) rfl rfl ?_
    exact hk13 _ _ ⟨_, (FrLe.cons rfl (FrLe.cons rfl (FrLe.nil _))), h⟩
  rintro fr σ ⟨x36_12, hl, h⟩
  unfold j11_law08_awake at h
  refine Lfr hl ?_
  refine Lp (V_move rfl rfl) rfl rfl ?_
  refine LsplitJ 4 x36_12 Iff.rfl h (fun fr σ => ∃ (x41_14 : Bool), FrLe [(41, .bool x41_14)] fr ∧ j13_law08_awake B ro Q x41_14 σ) ?_ ?_ ?_
  · intro h e21 hk21
    refine Lypb (V_move rfl rfl) rfl rfl rfl rfl e21 ?_
    refine Lyb rfl rfl rfl rfl e21 (X_call rfl Tryz.func16 rfl rfl rfl (ACalls.mono h ?_))
    rintro v σ ⟨x39_15, rfl, h⟩
    refine Lypb (V_eql rfl rfl rfl) rfl rfl rfl rfl e21 ?_
    refine Lp (V_pickT rfl (evb e21) rfl) rfl rfl ?_
    exact hk21 _ _ ⟨_, (FrLe.cons rfl (FrLe.nil _)), h⟩
  · intro h e21 hk21
    refine Ln rfl rfl rfl rfl (.inl (by rw [e21]; rfl)) ?_
    refine Ln rfl rfl rfl rfl (.inl (by rw [e21]; rfl)) ?_
    refine Ln rfl rfl rfl rfl (.inl (by rw [e21]; rfl)) ?_
    refine Lp (V_pickF rfl (evb e21) rfl) rfl rfl ?_
    exact hk21 _ _ ⟨_, (FrLe.cons rfl (FrLe.nil _)), h⟩
  rintro fr σ ⟨x41_14, hl, h⟩
  unfold j13_law08_awake at h
  refine Lfr hl ?_
  refine Lp (V_asg rfl rfl) rfl rfl ?_
  refine Lnil ?_
  refine thenN ?_
  refine AW.ret ?_
  exact bR1 Tryz.results38 rfl ⟨_, rfl, h⟩

def j1_law08_ops (B : World) (ro : AH) (Q : Sl → AH → Prop) (x3_2 : Sl) (σ : AH) : Prop :=
 Q x3_2 σ

def l3_law08_ops (B : World) (ro : AH) (a0 : Sl) (Q : Sl → AH → Prop) : (Sl × Int) → AH → ((Sl × Int) → AH → Prop) → Prop := fun ⟨x3_4, x8_5⟩ σ Y3 =>
 if x8_5 < (a0.len : Int) then
  ∃ p10_6 : Addr, a0.a = some p10_6 ∧ (0 : Int) ≤ x8_5 ∧ x8_5 < (a0.len : Int) ∧
  ∃ (x11_7a : Int) (x11_7b : ByteArray) (x11_7c : Sl) (x11_7d : Int) (x11_7e : Bool) (x11_7f : Bool), cellsAt ro σ (p10_6.add (Int.toNat x8_5 * 6)) 0 [.int .i64 x11_7a, .string x11_7b, Sl.v x11_7c, .int .i64 x11_7d, .bool x11_7e, .bool x11_7f] ∧
  nw ro σ (.cells #[.int .i64 0, .string ByteArray.empty, Sl.v (⟨none, 0, 0⟩ : Sl), .int .i64 0, .bool false, .bool false] 82) fun x5_8 σ =>
  stN ⟨x5_8, 0, none⟩ (fun σ =>
   ∃ (x13_9a : Int) (x13_9b : ByteArray) (x13_9c : Sl) (x13_9d : Int) (x13_9e : Bool) (x13_9f : Bool), cellsAt ro σ ⟨x5_8, 0, none⟩ 0 [.int .i64 x13_9a, .string x13_9b, Sl.v x13_9c, .int .i64 x13_9d, .bool x13_9e, .bool x13_9f] ∧
   c_law08_op B ro x13_9a x13_9b x13_9c x13_9d x13_9e x13_9f σ fun x14_10a x14_10b x14_10c x14_10d x14_10e x14_10f σ =>
   nw ro σ (.cells #[.int .i64 x14_10a, .string x14_10b, Sl.v x14_10c, .int .i64 x14_10d, .bool x14_10e, .bool x14_10f] 179) fun x15_11 σ =>
   awp Tryz.prog ro (Builtin.append_ #[96, 96] 96 #[Sl.v x3_4, Sl.v (⟨some ⟨x15_11, 0, none⟩, 1, 1⟩ : Sl)]) (fun v σ => ∃ (x16_12 : Sl), v = Sl.v x16_12 ∧
    Y3 (x16_12, IntKind.i64.wrap (x8_5 + 1)) σ) σ) [.int .i64 x11_7a, .string x11_7b, Sl.v x11_7c, .int .i64 x11_7d, .bool x11_7e, .bool x11_7f] 0 σ
 else
 j1_law08_ops B ro Q x3_4 σ

def f_law08_ops (B : World) (ro : AH) (a0 : Sl) (σ : AH) (Q : Sl → AH → Prop) : Prop :=
 lfpD (l3_law08_ops B ro a0 Q ) ((⟨none, 0, 0⟩ : Sl), 0) σ

set_option maxRecDepth 100000 in
set_option maxHeartbeats 4000000 in
theorem law08_ops_ok {B : World} {ro : AH} {a0 : Sl} {σ : AH} {Q : Sl → AH → Prop} (h : Sep ro σ → f_law08_ops B ro a0 σ Q) : c_law08_ops B ro a0 σ Q := by
  refine ACalls.of_sep fun hsep => ?_
  replace h := h hsep
  refine ACalls.of_body (args := [Sl.v a0]) Tryz.func42 rfl (by rw [Tryz.ntmps42]; simp) ?_
  rw [Tryz.ntmps42]
  unfold f_law08_ops at h
  refine AW.seq ?_
  refine AW.reg ?_
  refine Lp (V_asg rfl rfl) rfl rfl ?_
  refine Lnil ?_
  refine thenN ?_
  refine AW.seq ?_
  refine AW.reg ?_
  refine Lp (V_asg rfl rfl) rfl rfl ?_
  refine Lnil ?_
  refine thenN ?_
  refine AW.seqJ (fun fr σ => ∃ (x3_2 : Sl), FrLe [(3, Sl.v x3_2)] fr ∧ j1_law08_ops B ro Q x3_2 σ) ?_ ?_
  · rintro fr σ ⟨x3_2, hl, h⟩
    refine AW.weaken ?_ hl (HLe.refl _)
    unfold j1_law08_ops at h
    refine AW.seq ?_
    refine AW.reg ?_
    refine Lp (V_move rfl rfl) rfl rfl ?_
    refine Lp (V_asg rfl rfl) rfl rfl ?_
    refine Lnil ?_
    refine thenN ?_
    refine AW.ret ?_
    exact bR1 Tryz.results42 rfl ⟨_, rfl, h⟩
  refine AW.seq ?_
  refine AW.reg ?_
  refine Lp (V_move rfl rfl) rfl rfl ?_
  refine Lp (V_lenL rfl rfl Tryz.underlying70 rfl rfl) rfl rfl ?_
  refine Lp (V_move rfl rfl) rfl rfl ?_
  refine Lnil ?_
  refine thenN ?_
  refine AW.block ?_
  refine ARound.loop (fr' := [(6, Sl.v a0), (7, .int .i64 (a0.len : Int)), (3, Sl.v (⟨none, 0, 0⟩ : Sl)), (8, .int .i64 0)]) ?_ (FrLe.cons rfl (FrLe.cons rfl (FrLe.cons rfl (FrLe.cons rfl (FrLe.nil _)))))
  refine h (fun ⟨x3_4, x8_5⟩ σ => ARound _ _ _ _ _ _ [(6, Sl.v a0), (7, .int .i64 (a0.len : Int)), (3, Sl.v x3_4), (8, .int .i64 x8_5)] σ) ?_
  rintro ⟨x3_4, x8_5⟩ σ Y3 hY3 h
  show AW _ _ _ _ _ _ _ _
  unfold l3_law08_ops at h
  dsimp only at h
  refine AW.seq ?_
  refine AW.reg ?_
  refine Lp (V_lss rfl rfl rfl) rfl rfl ?_
  refine Lnil ?_
  refine thenN ?_
  refine AW.seq ?_
  refine AW.iff rfl decide_eq_true_iff h (fun h => ?_) (fun h => ?_)
  rotate_left
  · refine AW.exit ?_
    refine thenE ?_
    refine thenE ?_
    refine blockE ?_
    refine thenN ?_
    exact ⟨_, (FrLe.cons rfl (FrLe.nil _)), h⟩
  refine AW.skip ?_
  refine thenN ?_
  refine AW.seq ?_
  refine AW.block ?_
  refine AW.seq ?_
  refine AW.reg ?_
  obtain ⟨p10_6, ha, h0, h1, h⟩ := h
  refine Lp (V_ixA rfl Tryz.underlying70 ty82 (ixL rfl ha) rfl h0 h1) rfl rfl ?_
  obtain ⟨x11_7a, x11_7b, x11_7c, x11_7d, x11_7e, x11_7f, hc, h⟩ := h
  refine Ls rfl rfl (X_lda rfl Tryz.underlying82 rfl ty82 rfl hc ?_)
  refine Ls rfl rfl (X_new (A_alloc rfl ty82) fun x5_8 g1 g2 => ?_)
  replace h := h x5_8 g1 g2
  refine Ls rfl rfl (X_st rfl ty82 rfl rfl rfl rfl (stN_mono h fun σ h => ?_))
  refine Lnil ?_
  refine thenN ?_
  refine AW.reg ?_
  refine Lp (V_move rfl rfl) rfl rfl ?_
  obtain ⟨x13_9a, x13_9b, x13_9c, x13_9d, x13_9e, x13_9f, hc, h⟩ := h
  refine Ls rfl rfl (X_lda rfl Tryz.underlying82 rfl ty82 rfl hc ?_)
  refine Ls rfl rfl (X_call rfl Tryz.func100 rfl rfl rfl (ACalls.mono h ?_))
  rintro v σ ⟨x14_10a, x14_10b, x14_10c, x14_10d, x14_10e, x14_10f, rfl, h⟩
  refine Ls rfl rfl (X_new (A_bsl (vs := [(0, .agg #[.int .i64 x14_10a, .string x14_10b, Sl.v x14_10c, .int .i64 x14_10d, .bool x14_10e, .bool x14_10f])]) (cs := #[.int .i64 x14_10a, .string x14_10b, Sl.v x14_10c, .int .i64 x14_10d, .bool x14_10e, .bool x14_10f]) rfl Tryz.underlying96 ty179 (by decide) rfl rfl) fun x15_11 g1 g2 => ?_)
  replace h := h x15_11 g1 g2
  refine Ls rfl rfl (X_bi (s := Builtin.append_ #[96, 96] 96 #[Sl.v x3_4, Sl.v (⟨some ⟨x15_11, 0, none⟩, 1, 1⟩ : Sl)]) rfl rfl (fun _ => rfl) (awp_mono _ h ?_))
  rintro v σ ⟨x16_12, rfl, h⟩
  refine Lp (V_asg rfl rfl) rfl rfl ?_
  refine Lnil ?_
  refine blockN ?_
  refine thenN ?_
  refine AW.reg ?_
  refine Lp (V_add rfl rfl rfl) rfl rfl ?_
  refine Lp (V_move rfl rfl) rfl rfl ?_
  refine Lnil ?_
  refine thenN ?_
  refine ARound.head (fr' := [(6, Sl.v a0), (7, .int .i64 (a0.len : Int)), (3, Sl.v x16_12), (8, .int .i64 (IntKind.i64.wrap (x8_5 + 1)))]) ?_ (FrLe.cons rfl (FrLe.cons rfl (FrLe.cons rfl (FrLe.cons rfl (FrLe.nil _)))))
  exact hY3 _ _ h

def f_law08_op (B : World) (ro : AH) (a0_0 : Int) (a0_1 : ByteArray) (a0_2 : Sl) (a0_3 : Int) (a0_4 : Bool) (a0_5 : Bool) (σ : AH) (Q : Int → ByteArray → Sl → Int → Bool → Bool → AH → Prop) : Prop :=
 nw ro σ (.cells #[.int .i64 a0_0, .string a0_1, Sl.v a0_2, .int .i64 a0_3, .bool a0_4, .bool a0_5] 82) fun x1_1 σ =>
 nw ro σ (.cells #[.int .i64 0, .string ByteArray.empty, Sl.v (⟨none, 0, 0⟩ : Sl), .int .i64 0, .bool false, .bool false] 179) fun x2_2 σ =>
 ∃ (x4_3 : Int), acell ro σ ⟨x1_1, 0, none⟩ = some (.int .i64 x4_3) ∧
 ∃ (x6_4 : ByteArray), acell ro σ ((⟨x1_1, 0, none⟩ : Addr).add 1) = some (.string x6_4) ∧
 ∃ (x8_5 : Sl), acell ro σ ((⟨x1_1, 0, none⟩ : Addr).add 2) = some (Sl.v x8_5) ∧
 ∃ (x10_6 : Int), acell ro σ ((⟨x1_1, 0, none⟩ : Addr).add 3) = some (.int .i64 x10_6) ∧
 ∃ (x12_7 : Bool), acell ro σ ((⟨x1_1, 0, none⟩ : Addr).add 4) = some (.bool x12_7) ∧
 ∃ (x14_8 : Bool), acell ro σ ((⟨x1_1, 0, none⟩ : Addr).add 5) = some (.bool x14_8) ∧
 stN ⟨x2_2, 0, none⟩ (fun σ =>
  ∃ (x2_9a : Int) (x2_9b : ByteArray) (x2_9c : Sl) (x2_9d : Int) (x2_9e : Bool) (x2_9f : Bool), cellsAt ro σ ⟨x2_2, 0, none⟩ 0 [.int .i64 x2_9a, .string x2_9b, Sl.v x2_9c, .int .i64 x2_9d, .bool x2_9e, .bool x2_9f] ∧
  Q x2_9a x2_9b x2_9c x2_9d x2_9e x2_9f σ) [.int .i64 x4_3, .string x6_4, Sl.v x8_5, .int .i64 x10_6, .bool x12_7, .bool x14_8] 0 σ

set_option maxRecDepth 100000 in
set_option maxHeartbeats 4000000 in
theorem law08_op_ok {B : World} {ro : AH} {a0_0 : Int} {a0_1 : ByteArray} {a0_2 : Sl} {a0_3 : Int} {a0_4 : Bool} {a0_5 : Bool} {σ : AH} {Q : Int → ByteArray → Sl → Int → Bool → Bool → AH → Prop} (h : Sep ro σ → f_law08_op B ro a0_0 a0_1 a0_2 a0_3 a0_4 a0_5 σ Q) : c_law08_op B ro a0_0 a0_1 a0_2 a0_3 a0_4 a0_5 σ Q := by
  refine ACalls.of_sep fun hsep => ?_
  replace h := h hsep
  refine ACalls.of_body (args := [.agg #[.int .i64 a0_0, .string a0_1, Sl.v a0_2, .int .i64 a0_3, .bool a0_4, .bool a0_5]]) Tryz.func100 rfl (by rw [Tryz.ntmps100]; simp) ?_
  rw [Tryz.ntmps100]
  unfold f_law08_op at h
  refine AW.seq ?_
  refine AW.reg ?_
  refine Ls rfl rfl (X_new (A_box rfl rfl) fun x1_1 g1 g2 => ?_)
  replace h := h x1_1 g1 g2
  refine Ls rfl rfl (X_new (A_alloc rfl ty179) fun x2_2 g1 g2 => ?_)
  replace h := h x2_2 g1 g2
  refine Lnil ?_
  refine thenN ?_
  refine AW.seq ?_
  refine AW.reg ?_
  refine Lp (V_fld rfl Tryz.underlying82 rfl ty3 (by decide) rfl) rfl rfl ?_
  obtain ⟨x4_3, hc, h⟩ := h
  refine Ls rfl rfl (X_ld rfl Tryz.underlying3 rfl rfl hc ?_)
  refine Lp (V_fld rfl Tryz.underlying82 rfl ty9 (by decide) rfl) rfl rfl ?_
  obtain ⟨x6_4, hc, h⟩ := h
  refine Ls rfl rfl (X_ld rfl Tryz.underlying9 rfl rfl hc ?_)
  refine Lp (V_fld rfl Tryz.underlying82 rfl ty30 (by decide) rfl) rfl rfl ?_
  obtain ⟨x8_5, hc, h⟩ := h
  refine Ls rfl rfl (X_ld rfl Tryz.underlying30 rfl rfl hc ?_)
  refine Lp (V_fld rfl Tryz.underlying82 rfl ty3 (by decide) rfl) rfl rfl ?_
  obtain ⟨x10_6, hc, h⟩ := h
  refine Ls rfl rfl (X_ld rfl Tryz.underlying3 rfl rfl hc ?_)
  refine Lp (V_fld rfl Tryz.underlying82 rfl ty4 (by decide) rfl) rfl rfl ?_
  obtain ⟨x12_7, hc, h⟩ := h
  refine Ls rfl rfl (X_ld rfl Tryz.underlying4 rfl rfl hc ?_)
  refine Lp (V_fld rfl Tryz.underlying82 rfl ty4 (by decide) rfl) rfl rfl ?_
  obtain ⟨x14_8, hc, h⟩ := h
  refine Ls rfl rfl (X_ld rfl Tryz.underlying4 rfl rfl hc ?_)
  refine Lp (V_bld (vs := [(0, .int .i64 x4_3), (1, .string x6_4), (2, Sl.v x8_5), (3, .int .i64 x10_6), (4, .bool x12_7), (5, .bool x14_8)]) (cs := #[.int .i64 x4_3, .string x6_4, Sl.v x8_5, .int .i64 x10_6, .bool x12_7, .bool x14_8]) rfl Tryz.underlying179 ty179 pl179 rfl rfl) rfl rfl ?_
  refine Ls rfl rfl (X_st rfl ty179 rfl rfl rfl rfl (stN_mono h fun σ h => ?_))
  refine Lnil ?_
  refine thenN ?_
  refine AW.ret ?_
  obtain ⟨x2_9a, x2_9b, x2_9c, x2_9d, x2_9e, x2_9f, hc0, h⟩ := h
  exact bRM1 Tryz.results100 (rCons (rAgg rfl Tryz.underlying179 rfl ty179 hc0) rNil) ⟨_, _, _, _, _, _, rfl, h⟩

end Go.Proofs.YthfpmipeejjogaaGreatDoor.G

/- Trees with homes, copies of ops, and the law's own example. -/
namespace Go.Proofs.YthfpmipeejjogaaGreatDoor.Zt
open Go Go.Proofs.YthfpmipeejjogaaGreatDoor.SL Go.Proofs.YthfpmipeejjogaaGreatDoor.G Go.Proofs.YthfpmipeejjogaaGreatDoor.Pa
set_option linter.unusedSimpArgs false
set_option linter.unusedVariables false
variable {B : World} {ro σ σ' : AH} {tag tag' : Nat → Nat}

def startE (hs : List Str) : St := hs.foldl (fun st h => (create st (47 :: h) [] 0 false).1) St.new
theorem invB_start : ∀ (hs : List Str), hs.length ≤ 1073741824 → InvB hs.length (startE hs) := by
  intro hs hl
  have key : ∀ (l : List Str) (b : Nat) (st : St), InvB b st → b + l.length ≤ 1073741824 → InvB (b + l.length) (l.foldl (fun st h => (create st (47 :: h) [] 0 false).1) st) := by
    intro l
    induction l with
    | nil => intro b st h _; exact h
    | cons x l ih =>
      intro b st h hb
      simp only [List.length_cons] at hb ⊢
      have h1 := ih (b + 1) _ (invB_create (p := 47 :: x) (d := []) (o := 0) (seq := false) h (by omega)) (by omega)
      rw [List.foldl_cons, show b + (l.length + 1) = b + 1 + l.length by omega]
      exact h1
  have := key hs 0 St.new invB_new (by omega)
  rw [Nat.zero_add] at this; exact this
set_option maxRecDepth 100000 in
theorem start_ok {a0 : Sl} {hs : List Str} {Q : Option Addr → AH → Prop} (r : Nat) (g : Glob ro) (hr : r < 64) (hr6 : r ≠ 6) (hr0 : r ≠ 0) (hrd : ∀ tag' σ', StepC r ro tag σ tag' σ' → SL.Read ro σ' a0 (hs.map Pa.vS)) (hl : hs.length ≤ 1073741824) (hhl : ∀ h ∈ hs, h.length ≤ 4611686018427387903)
    (hQ : ∀ T tag' σ', StepC r ro tag σ tag' σ' → TreeIs tag' σ' r T (startE hs) → InvB hs.length (startE hs) → Q (some ⟨T, 0, none⟩) σ') : c_law08_start B ro a0 σ Q := by
  refine law08_start_ok fun hsep => ?_
  unfold f_law08_start
  refine new_ok (tag := tag) r hr hr6 fun T tag1 σ1 st1 h1 => ?_
  rw [if_neg (by simp)]
  have hln : a0.len = hs.length := by rw [(hrd tag1 σ1 st1).1, List.length_map]
  suffices ∀ m j tag2 σ2, j + m = hs.length → StepC r ro tag σ tag2 σ2 → TreeIs tag2 σ2 r T (startE (hs.take j)) → lfpD (l3_law08_start B ro a0 (some ⟨T, 0, none⟩) Q) (j : Int) σ2 from
    this _ 0 tag1 σ1 (Nat.zero_add _) st1 h1
  intro m
  induction m with
  | zero =>
    intro j tag2 σ2 hj st2 h2
    refine lfpD.intro ?_
    unfold l3_law08_start
    rw [if_neg (by omega)]
    unfold j2_law08_start
    rw [List.take_of_length_le (by omega)] at h2
    exact hQ T tag2 σ2 st2 h2 (invB_start hs hl)
  | succ m ih =>
    intro j tag2 σ2 hj st2 h2
    have hjl : j < hs.length := by omega
    have rd := hrd tag2 σ2 st2
    obtain ⟨p, hp⟩ : ∃ p, a0.a = some p := by
      cases e : a0.a with
      | none => have := rd.2.1 e; simp at this; rw [this] at hjl; simp at hjl
      | some p => exact ⟨p, rfl⟩
    have hcell := rd.2.2 p hp j (Pa.vS hs[j]) (by rw [List.getElem?_map, List.getElem?_eq_getElem hjl]; rfl)
    have hxl := hhl _ (List.getElem_mem hjl)
    refine lfpD.intro ?_
    unfold l3_law08_start
    rw [if_pos (by omega)]
    refine ⟨p, hp, by omega, by omega, S hs[j], by rw [Int.toNat_natCast, Nat.mul_one]; exact hcell, ?_⟩
    refine ⟨by rw [show (⟨#[47]⟩ : ByteArray).size = 1 from rfl, show (S hs[j]).size = hs[j].length from by rw [← L_len, L_S]]; omega, ?_⟩
    have hcat : (⟨#[47]⟩ : ByteArray) ++ S hs[j] = S (47 :: hs[j]) := by
      rw [show (⟨#[47]⟩ : ByteArray) = S [47] from rfl, S_append]; rfl
    rw [hcat]
    refine create_ok (d := []) g hr hr6 hr0 h2 ⟨rfl, fun _ => rfl, fun p h => by cases h⟩ (by decide) fun tag3 σ3 st3 h3 => ?_
    rw [L_S] at h3
    rw [Pa.inc j (by omega)]
    refine ih (j + 1) tag3 σ3 (by omega) (st2.trans st3) ?_
    have e : startE (hs.take (j + 1)) = (create (startE (hs.take j)) (47 :: hs[j]) [] 0 false).1 := by
      unfold startE
      rw [List.take_add_one, List.getElem?_eq_getElem hjl, List.foldl_append]; rfl
    rw [e]; exact h3

/-- ops as they came in -/
def OpsR (ro : AH) (s : Sl) (ops : List MOp) : Prop := s.len = ops.length ∧ ∀ j o, ops[j]? = some o → ∃ q ds, s.a = some q ∧ (∀ σ, SL.cellsAt ro σ (q.add (j * 6)) 0 (opV o ds)) ∧ SL.Read ro (fun _ => none) ds (o.data.map vU) ∧ o.data.length ≤ 140737488351232
theorem OpsR.data {s : Sl} {ops : List MOp} (h : OpsR ro s ops) : ∀ o ∈ ops, o.data.length < 4611686018427387904 := fun o ho => by
  obtain ⟨j, hj, rfl⟩ := List.getElem_of_mem ho
  obtain ⟨_, _, _, _, _, h5⟩ := h.2 j _ (List.getElem?_eq_getElem hj)
  omega
/-- ops in memory, to be read only -/
def OpsM (ro σ : AH) (s : Sl) (ops : List MOp) : Prop := s.len = ops.length ∧ ∀ j o, ops[j]? = some o → ∃ q ds, s.a = some q ∧ SL.cellsAt ro σ (q.add (j * 6)) 0 (opV o ds) ∧ SL.Read ro (fun _ => none) ds (o.data.map vU) ∧ o.data.length ≤ 140737488351232
theorem OpsR.m {s : Sl} {ops : List MOp} (h : OpsR ro s ops) (σ : AH) : OpsM ro σ s ops := ⟨h.1, fun j o ho => by
  obtain ⟨q, ds, h1, h2, h3, h4⟩ := h.2 j o ho
  exact ⟨q, ds, h1, h2 σ, h3, h4⟩⟩
set_option maxRecDepth 100000 in
theorem copied_in {a0 : Sl} {ops : List MOp} {Q : Sl → AH → Prop} (hO : ∀ tag' σ', StepS [0, 24, 28] ro tag σ tag' σ' → OpsM ro σ' a0 ops) (hl : ops.length ≤ 2199023255488) (hQ : ∀ s tag' σ', StepS [0, 24, 28] ro tag σ tag' σ' → OpsAt tag' σ' 24 s ops → Q s σ') : c_law08_copied B ro a0 σ Q := by
  refine law08_copied_ok fun hsep => ?_
  unfold f_law08_copied
  have hln := (hO tag σ (StepS.refl hsep)).1
  suffices ∀ m j s tag2 σ2, j + m = ops.length → StepS [0, 24, 28] ro tag σ tag2 σ2 → OpsAt tag2 σ2 24 s (ops.take j) → lfpD (l3_law08_copied B ro a0 Q) (s, (j : Int)) σ2 from
    this _ 0 ⟨none, 0, 0⟩ tag σ (Nat.zero_add _) (StepS.refl hsep) ⟨[], rfl, RowW.nil _ _ _, fun i o d h => by cases h⟩
  intro m
  induction m with
  | zero =>
    intro j s tag2 σ2 hj st2 h2
    refine lfpD.intro ?_
    unfold l3_law08_copied
    simp only
    rw [if_neg (by omega)]
    unfold j1_law08_copied
    rw [List.take_of_length_le (by omega)] at h2
    exact hQ s tag2 σ2 st2 h2
  | succ m ih =>
    intro j s tag2 σ2 hj st2 h2
    have hjl : j < ops.length := by omega
    obtain ⟨q, ds, hq, hc, hrd, hdl⟩ := (hO tag2 σ2 st2).2 j ops[j] (List.getElem?_eq_getElem hjl)
    refine lfpD.intro ?_
    unfold l3_law08_copied
    simp only
    rw [if_pos (by omega)]
    refine ⟨q, hq, by omega, by omega, ops[j].kind, S ops[j].path, ds, ops[j].ver, ops[j].eph, ops[j].seq, by rw [Int.toNat_natCast]; exact hc, ?_⟩
    refine nw_st (tag := tag2) 28 st2.sep rfl (by simp [storable, Sl.v]) fun x tag3 σ3 st3 r3 => ?_
    obtain ⟨p3, hp3, hg3⟩ := r3.ptr (st3 []).sep (by simp)
    cases hp3
    refine ⟨ds, hg3 2 _ rfl, ?_⟩
    refine copy_ok (tag := tag3) (hrd.keep) (st3 []).sep (by simp; omega) (by simp [storable]) fun s' tag4 σ4 st4 r4 => ?_
    refine (r3.keep (st4 []) (by simp)).st (i := 2) (st4 []).sep rfl (by simp) rfl fun σ5 st5 r5 => ?_
    refine ⟨ops[j].kind, S ops[j].path, s', ops[j].ver, ops[j].eph, ops[j].seq, Row.cellsAt r5 st5.sep, ?_⟩
    refine nw_cells (tag := tag4) 0 st5.sep fun y tag6 σ6 st6 r6 => ?_
    have st26 : StepS [0, 24, 28] ro tag2 σ2 tag6 σ6 := ((st3 []).s (by simp)).trans (((st4 []).s (by simp)).trans ((st5.s (by simp)).trans ((st6 []).s (by simp))))
    have k26 : StepS [28] ro tag2 σ2 tag6 σ6 := ((st3 []).s (by simp)).trans (((st4 []).s (by simp)).trans ((st5.s (by simp)).trans ((st6 []).s (by simp))))
    obtain ⟨dd, d1, d2, d3⟩ := h2.keepS k26 (by decide) (by decide)
    have hlz : (List.zipWith opV (ops.take j) dd).length = j := by rw [List.length_zipWith, d1, Nat.min_self, List.length_take]; omega
    refine awp_appendW (l2 := [opV ops[j] s']) d2 (st6 []).sep (Row.readW1 r6 (st6 []).sep rfl (by decide)) (t := 70) (by kernel_rfl) ty82 rfl (by simp [opV, storable, Sl.v]) (by rw [hlz]; simp; omega) (by decide) fun sn tag7 σ7 st7 r7 => ?_
    have st7' := st7 [24] (.inr (by simp))
    refine ⟨sn, rfl, ?_⟩
    rw [Pa.inc j (by omega)]
    refine ih (j + 1) sn tag7 σ7 (by omega) (st2.trans (st26.trans (st7'.s (by simp)))) ?_
    have etk : ops.take (j + 1) = ops.take j ++ [ops[j]] := by rw [List.take_add_one, List.getElem?_eq_getElem hjl]; rfl
    rw [etk]
    refine ⟨dd ++ [s'], by rw [List.length_append, List.length_append, d1]; rfl, ?_, fun i o d ho hd => ?_⟩
    · rw [List.zipWith_append d1.symm]; exact r7
    · rcases Nat.lt_or_ge i (ops.take j).length with h | h
      · rw [List.getElem?_append_left h] at ho
        rw [List.getElem?_append_left (by omega)] at hd
        exact (d3 i o d ho hd).keep st7' (by simp)
      · rw [List.getElem?_append_right h] at ho
        rw [List.getElem?_append_right (by omega), d1] at hd
        cases hz : i - (ops.take j).length with
        | zero =>
          rw [hz] at ho hd
          cases ho; cases hd
          exact ((r4.keep st5 (by simp)).keep (st6 []) (by simp)).keep st7' (by simp)
        | succ k => rw [hz] at ho; cases ho

theorem copied_ok {a0 : Sl} {ops : List MOp} {Q : Sl → AH → Prop} (hO : OpsR ro a0 ops) (hl : ops.length ≤ 2199023255488) (hQ : ∀ s tag' σ', StepS [0, 24, 28] ro tag σ tag' σ' → OpsAt tag' σ' 24 s ops → Q s σ') : c_law08_copied B ro a0 σ Q :=
  copied_in (fun _ σ' _ => hO.m σ') hl hQ

def awakeSt : St := [([47], ⟨0, 1, 0, 1, []⟩), ([47, 97], ⟨0, 0, 0, 0, []⟩)]
set_option maxRecDepth 100000 in
theorem awake_start : startE [[97]] = awakeSt := by rfl
theorem awake_srt : srt awakeSt = awakeSt := by
  refine (srt_of ?_ (List.Perm.refl _)).symm
  unfold Srt awakeSt
  simp [List.pairwise_cons]
def awakeOp : MOp := ⟨1, [47, 97, 47, 120], [], 0, false, false⟩
theorem awake_apply : (applyE (startE [[97]]) [97] 5 9 99 [awakeOp]).err = 0 ∧ (applyE (startE [[97]]) [97] 5 9 99 [awakeOp]).bad = -1 ∧ (applyE (startE [[97]]) [97] 5 9 99 [awakeOp]).res = [([47, 97, 47, 120], 0)] ∧ (applyE (startE [[97]]) [97] 5 9 99 [awakeOp]).st.length = 3 := by
  rw [awake_start]
  unfold applyE
  rw [if_neg (by decide), if_neg (by decide), awake_srt]
  refine ⟨by decide, by decide, by decide, by decide⟩
set_option maxRecDepth 100000 in
theorem awake8_ok {Q : Bool → AH → Prop} (g : Glob ro) (hQ : ∀ σ, SL.Sep ro σ → Q true σ) : c_law08_awake B ro σ Q := by
  refine law08_awake_ok fun hs => ?_
  unfold f_law08_awake
  refine nw_cells (tag := fun _ => 0) 22 hs fun x4 tag1 σ1 st1 r1 => ?_
  have e97 : (⟨#[97]⟩ : ByteArray) = S [97] := rfl
  refine start_ok (tag := tag1) (hs := [[97]]) 10 g (by decide) (by decide) (by decide) (fun tag2 σ2 st2 => (r1.keepC st2 (by decide)).read st2.sep) (by decide) (by simp) fun T tag2 σ2 st2 h2 hi => ?_
  rw [if_neg (by simp)]
  refine nw_cells (tag := tag2) 24 st2.sep fun x12 tag3 σ3 st3 r3 => ?_
  have hops : OpsAt tag3 σ3 24 ⟨some ⟨x12, 0, none⟩, 1, 1⟩ [awakeOp] := by
    refine ⟨[⟨none, 0, 0⟩], rfl, ?_, fun i o d ho hd => ?_⟩
    · rcases r3 with ⟨h, _⟩ | ⟨b, cs, ha, htg, hbk, hln, hcp, hle, hg⟩
      · cases h
      · cases ha
        refine .inr ⟨x12, cs, rfl, htg, hbk, rfl, by simpa using hcp.symm, by simp, by simp [opV], fun i v hv => ?_⟩
        have hv' : [vI 1, Pa.vS [47, 97, 47, 120], Sl.v ⟨none, 0, 0⟩, vI 0, Value.bool false, Value.bool false][i]? = some v := by simpa [opV, awakeOp] using hv
        have hi6 : i < 6 := by
          rcases Nat.lt_or_ge i 6 with h | h
          · exact h
          · rw [List.getElem?_eq_none (by simpa using h)] at hv'; cases hv'
        rw [hg i (by simpa using hi6)]; exact hv'
    · rcases i with _ | i
      · cases ho; cases hd; exact Row.nil _ _
      · cases ho
  have hap := awake_apply
  rw [e97]
  refine apply_ok (b := 1) (q := 24) g (by decide) (by decide) (by decide) (by decide) (by decide) (by decide) (h2.keep (st3 []) (by simp)) hi (by decide) hops (fun o ho => by rw [List.mem_singleton.1 ho]; decide) (by decide) fun rs es tag4 σ4 st4 h4 r4 _ => ?_
  obtain ⟨a1, a2, a3, a4⟩ := hap
  rw [a3] at r4
  refine nw_st (tag := tag4) 22 st4.sep rfl (by simp [storable, Sl.v]) fun x2 tag5 σ5 st5 r5 => ?_
  have r45 := r4.keep (st5 []) (by simp)
  obtain ⟨p5, hp5, hg5⟩ := r5.ptr (st5 []).sep (by simp)
  cases hp5
  rw [a1, if_pos rfl]
  refine ⟨_, hg5 2 _ rfl, ?_⟩
  rw [a2, show decide ((-1 : Int) = -1) = true from rfl]
  unfold j7_law08_awake
  rw [if_pos rfl]
  refine ⟨rs, hg5 0 _ rfl, ?_⟩
  rw [show decide ((rs.len : Int) = 1) = true from by rw [r45.len]; rfl]
  unfold j9_law08_awake
  rw [if_pos rfl]
  obtain ⟨b, hb, _, hget⟩ := r45.get (st5 []).sep (j := 0) rfl
  refine ⟨rs, hg5 0 _ rfl, _, hb, by decide, by rw [r45.len]; decide, S [47, 97, 47, 120], hget 0 _ rfl, ?_⟩
  rw [show decide (S [47, 97, 47, 120] = (⟨#[47, 97, 47, 120]⟩ : ByteArray)) = true from by decide]
  unfold j11_law08_awake
  rw [if_pos rfl]
  obtain ⟨M, bs, hA⟩ := h4.keep (st5 []) (by simp)
  refine size_ok hA ?_
  unfold j13_law08_awake
  rw [a4]
  exact hQ σ5 (st5 []).sep
end Go.Proofs.YthfpmipeejjogaaGreatDoor.Zt

/- Ops as bytes, the plain part. -/
namespace Go.Proofs.YthfpmipeejjogaaGreatDoor.Zt
open Go Go.Proofs.YthfpmipeejjogaaGreatDoor.SL Go.Proofs.YthfpmipeejjogaaGreatDoor.Pa Go.Proofs.YthfpmipeejjogaaGreatDoor.Wi
set_option linter.unusedSimpArgs false
set_option linter.unusedVariables false

def okOp (o : MOp) : Prop := 1 ≤ o.kind ∧ o.kind ≤ 4 ∧ -1 ≤ o.ver ∧ o.ver < 4611686018427387903
instance (o : MOp) : Decidable (okOp o) := by unfold okOp; infer_instance
def flagN (o : MOp) : Nat := (if o.eph then 1 else 0) + (if o.seq then 2 else 0)
def encOp (o : MOp) : Str := vput o.kind.toNat ++ (blob o.path ++ (blob o.data ++ (vput (o.ver + 1).toNat ++ vput (flagN o))))
def encOps (l : List MOp) : Str := vput l.length ++ l.flatMap encOp
def putE (l : List MOp) : Option Str := if 16 < l.length then none else if ∀ o ∈ l, okOp o then some (encOps l) else none
/-- one op off a reader -/
def rop (r : Rd) : (MOp × Nat) × Rd :=
  let a := rnum r
  let b := rblob a.2
  let c := rblob b.2
  let d := rnum c.2
  let e := rnum d.2
  ((⟨a.1, b.1, c.1, (d.1 : Int) - 1, decide (e.1 % 2 = 1), decide (1 < e.1)⟩, e.1), e.2)
def badOp (x : (MOp × Nat) × Rd) : Prop := x.2.err ≠ 0 ∨ x.1.1.kind < 1 ∨ 4 < x.1.1.kind ∨ 3 < x.1.2
instance (x : (MOp × Nat) × Rd) : Decidable (badOp x) := by unfold badOp; infer_instance
def getL : Nat → Rd → Option (List MOp × Rd)
  | 0, r => some ([], r)
  | n + 1, r => if badOp (rop r) then none else match getL n (rop r).2 with
    | none => none
    | some (l, r') => some ((rop r).1.1 :: l, r')
def getE (b : Str) : Option (List MOp) :=
  let h := rnum ⟨b, 0⟩
  if h.2.err ≠ 0 ∨ 16 < h.1 then none
  else match getL h.1 h.2 with
    | none => none
    | some (l, r) => if r.rest = [] then some l else none
theorem flagN_lt (o : MOp) : flagN o ≤ 3 := by unfold flagN; split <;> split <;> decide
theorem rop_put {o : MOp} (h : okOp o) (h1 : o.path.length < 4611686018427387904) (h2 : o.data.length < 4611686018427387904) (r : Str) : rop ⟨encOp o ++ r, 0⟩ = ((o, flagN o), ⟨r, 0⟩) := by
  obtain ⟨k1, k2, v1, v2⟩ := h
  have hf := flagN_lt o
  unfold rop encOp
  simp only [List.append_assoc]
  rw [rnum_put (by omega), rblob_put h1, rblob_put h2, rnum_put (by omega), rnum_put (by omega)]
  have e1 : ((o.kind.toNat : Nat) : Int) = o.kind := by omega
  have e2 : (((o.ver + 1).toNat : Nat) : Int) - 1 = o.ver := by omega
  simp only [e1, e2]
  obtain ⟨k, p, d, v, e, s⟩ := o
  unfold flagN
  cases e <;> cases s <;> simp
theorem getL_put : ∀ (l : List MOp) (r : Str), (∀ o ∈ l, okOp o ∧ o.path.length < 4611686018427387904 ∧ o.data.length < 4611686018427387904) → getL l.length ⟨l.flatMap encOp ++ r, 0⟩ = some (l, ⟨r, 0⟩) := by
  intro l
  induction l with
  | nil => intro r _; rfl
  | cons o l ih =>
    intro r h
    obtain ⟨h1, h2, h3⟩ := h o (by simp)
    have e := rop_put h1 h2 h3 (l.flatMap encOp ++ r)
    rw [List.flatMap_cons, List.append_assoc, List.length_cons]
    unfold getL
    rw [e, ih r fun x hx => h x (by simp [hx])]
    have hf := flagN_lt o
    rw [if_neg]
    obtain ⟨k1, k2, _, _⟩ := h1
    unfold badOp
    simp only [not_or]
    exact ⟨by simp, by omega, by omega, by omega⟩
theorem getE_put {l : List MOp} {b : Str} (h : putE l = some b) (hs : ∀ o ∈ l, o.path.length < 4611686018427387904 ∧ o.data.length < 4611686018427387904) : getE b = some l := by
  unfold putE at h
  split at h
  · cases h
  rename_i hl
  split at h
  · rename_i hok
    cases h
    unfold getE encOps
    rw [rnum_put (by omega)]
    simp only
    rw [if_neg (by simp; omega)]
    have := getL_put l [] fun o ho => ⟨hok o ho, hs o ho⟩
    rw [List.append_nil] at this
    rw [this]
    simp
  · cases h
/-- what is read is right -/
theorem getL_err : ∀ (n : Nat) (r r' : Rd) (l : List MOp), getL n r = some (l, r') → r.err = 0 → r'.err = 0 ∧ l.length = n := by
  intro n
  induction n with
  | zero => intro r r' l h he; cases h; exact ⟨he, rfl⟩
  | succ n ih =>
    intro r r' l h he
    unfold getL at h
    split at h
    · cases h
    rename_i hb
    unfold badOp at hb
    simp only [not_or, Classical.not_not] at hb
    cases e : getL n (rop r).2 with
    | none => rw [e] at h; cases h
    | some x =>
      obtain ⟨l', r2⟩ := x
      rw [e] at h
      cases h
      obtain ⟨h1, h2⟩ := ih _ _ _ e hb.1
      exact ⟨h1, by simp [h2]⟩
theorem wnum_ok {a : Str} {n : Int} (h : 0 ≤ n) (h2 : n ≤ 4611686018427387903) : rightN n = true := by
  unfold rightN; simp; omega
end Go.Proofs.YthfpmipeejjogaaGreatDoor.Zt

/- The document's tree in memory: finding a node, counting what is below it. -/
namespace Go.Proofs.YthfpmipeejjogaaGreatDoor.Zt
open Go Go.Proofs.YthfpmipeejjogaaGreatDoor.SL Go.Proofs.YthfpmipeejjogaaGreatDoor.G Go.Proofs.YthfpmipeejjogaaGreatDoor.Pa
set_option linter.unusedSimpArgs false
set_option linter.unusedVariables false
variable {B : World} {ro σ σ' : AH} {tag tag' : Nat → Nat}

/-- a node of the document's tree, its cells -/
def nodeV (p : Str × Nd) (d : Sl) : List Value := [.string (S p.1), Sl.v d, .int .i64 p.2.ver, .int .i64 p.2.ctr, .int .i64 p.2.own]
/-- the document's tree, to be read -/
def RefM (ro σ : AH) (T : Nat) (l : St) : Prop := ∃ s : Sl, acell ro σ ⟨T, 0, none⟩ = some (Sl.v s) ∧ s.len = l.length ∧
  ∀ (j : Nat) (p : Str × Nd), l[j]? = some p → ∃ b d, s.a = some ⟨b, 0, none⟩ ∧ (∀ (i : Nat) (v : Value), (nodeV p d)[i]? = some v → acell ro σ ⟨b, j * 5 + i, none⟩ = some v) ∧ SL.Read ro σ d (p.2.data.map vU)
end Go.Proofs.YthfpmipeejjogaaGreatDoor.Zt

/- Usage stays within its quota; two blocks lent; scripts while blocks are lent. -/
namespace Go.Proofs.YthfpmipeejjogaaGreatDoor.SL
open Go
variable {ro σ σ' : AH} {tag tag' : Nat → Nat}
theorem acell_ro {ψ τ : AH} {a : Addr} {v : Value} (h : acell ro (fun _ => none) a = some v) : acell (join ro ψ) τ a = some v := by
  unfold acell rd at h ⊢
  cases e : ro a.block with
  | none => rw [e] at h; simp [cellOf] at h
  | some o => rw [e] at h; rw [join_left e]; exact h
theorem StepS.back {C : List Nat} {b : Nat} {τ : AH} (h : StepS C (join ro (one σ b)) tag (del σ b) tag' τ) (hs : Sep ro σ) (hd : Disj (one σ b) τ) (hb : ∃ o, σ b = some o) : StepS C ro tag σ (setTag tag' b (tag b)) (join (one σ b) τ) := by
  obtain ⟨R, h1, h2⟩ := h
  exact ⟨R, h1, h2.back hs hd hb⟩
end Go.Proofs.YthfpmipeejjogaaGreatDoor.SL
namespace Go.Proofs.YthfpmipeejjogaaGreatDoor.Zt
open Go Go.Proofs.YthfpmipeejjogaaGreatDoor.SL Go.Proofs.YthfpmipeejjogaaGreatDoor.G Go.Proofs.YthfpmipeejjogaaGreatDoor.Pa
set_option linter.unusedSimpArgs false
set_option linter.unusedVariables false
variable {B : World} {ro σ σ' : AH} {tag tag' : Nat → Nat}

/-! usage -/
/-! scripts -/
end Go.Proofs.YthfpmipeejjogaaGreatDoor.Zt

/- results compared -/
namespace Go.Proofs.YthfpmipeejjogaaGreatDoor.Zt
open Go Go.Proofs.YthfpmipeejjogaaGreatDoor.SL Go.Proofs.YthfpmipeejjogaaGreatDoor.G Go.Proofs.YthfpmipeejjogaaGreatDoor.Pa
set_option linter.unusedSimpArgs false
set_option linter.unusedVariables false
set_option maxRecDepth 100000
variable {B : World} {ro σ σ' : AH} {tag tag' : Nat → Nat}
theorem aread_bind {α β : Type} {P : Program} (s : Sem α) (f : α → Sem β) {τ : AH} {a : α} (h : aread P ro s τ = some a) : aread P ro (Sem.bind s f) τ = aread P ro (f a) τ := by
  induction s with
  | pure x => cases h; rfl
  | load m x k ih =>
    simp only [aread] at h
    simp only [Sem.bind, aread]
    split at h
    · exact ih _ h
    · cases h
  | program k ih => exact ih _ h
  | mark m k ih => exact ih h
  | _ => cases h
end Go.Proofs.YthfpmipeejjogaaGreatDoor.Zt

/- Several changes are as one by one; a transaction read from a block that is lent. -/
namespace Go.Proofs.YthfpmipeejjogaaGreatDoor.Zt
open Go Go.Proofs.YthfpmipeejjogaaGreatDoor.SL Go.Proofs.YthfpmipeejjogaaGreatDoor.G Go.Proofs.YthfpmipeejjogaaGreatDoor.Pa
set_option linter.unusedSimpArgs false
set_option linter.unusedVariables false
variable {B : World} {ro σ σ' : AH} {tag tag' : Nat → Nat}

/-! the same on trees that are the same but for their order -/
/-! a block lent -/
theorem RowW.back {r : Nat} {e : TypeId} {w : Nat} {s : Sl} {l : List (List Value)} {b r' : Nat} {τ : AH} (h : RowW tag' τ r e w s l) (hd : Disj (SL.one σ b) τ) (hb : ∃ o, σ b = some o) : RowW (setTag tag' b r') (join (SL.one σ b) τ) r e w s l := by
  rcases h with h | ⟨c, cs, ha, ht, hs, hx⟩
  · exact .inl h
  · have hcb : c ≠ b := fun e => by
      obtain ⟨o, ho⟩ := hb
      have := hd b o (by unfold SL.one; rw [if_pos rfl]; exact ho)
      rw [← e, hs] at this; cases this
    exact .inr ⟨c, cs, ha, by unfold setTag; rw [if_neg hcb]; exact ht, by unfold join SL.one; rw [if_neg hcb]; exact hs, hx⟩
end Go.Proofs.YthfpmipeejjogaaGreatDoor.Zt

/- The document's tree in memory: its blocks, and Get. -/
namespace Go.Proofs.YthfpmipeejjogaaGreatDoor.SL
open Go
variable {ro σ σ' : AH} {tag tag' : Nat → Nat}
theorem acell_lent (b : Nat) (a : Addr) : acell (join ro (one σ b)) (SL.del σ b) a = acell ro σ a := by unfold acell; rw [rd_lent]
theorem acell_one {a : Addr} {v : Value} {τ : AH} (h : acell ro σ a = some v) : acell (join ro (one σ a.block)) τ a = some v := by
  unfold acell rd at h ⊢
  unfold join one
  cases e : ro a.block with
  | some o => rw [e] at h; exact h
  | none =>
    rw [e] at h
    simp only [if_true]
    cases e' : σ a.block with
    | some o => rw [e'] at h; exact h
    | none => rw [e'] at h; simp [cellOf] at h
end Go.Proofs.YthfpmipeejjogaaGreatDoor.SL
namespace Go.Proofs.YthfpmipeejjogaaGreatDoor.Zt
open Go Go.Proofs.YthfpmipeejjogaaGreatDoor.SL Go.Proofs.YthfpmipeejjogaaGreatDoor.G Go.Proofs.YthfpmipeejjogaaGreatDoor.Pa
set_option linter.unusedSimpArgs false
set_option linter.unusedVariables false
variable {B : World} {ro σ σ' : AH} {tag tag' : Nat → Nat}

/-- the document's tree: its block (role r), its nodes (role r + 64), their data in rows of data -/
def RefIs (tag : Nat → Nat) (σ : AH) (r T : Nat) (l : St) : Prop := ∃ (s : Sl) (ds : List Sl), ds.length = l.length ∧ Row tag σ r 157 ⟨some ⟨T, 0, none⟩, 1, 1⟩ [Sl.v s] ∧ RowW tag σ (r + 64) 159 5 s (List.zipWith nodeV l ds) ∧
  ∀ (i : Nat) (p : Str × Nd) (d : Sl), l[i]? = some p → ds[i]? = some d → Row tag σ 6 5 d (p.2.data.map vU)
theorem RefIs.keepS {C : List Nat} {r T : Nat} {l : St} (h : RefIs tag σ r T l) (k : StepS C ro tag σ tag' σ') (hr : r % 64 ∉ C) (h6 : 6 ∉ C) : RefIs tag' σ' r T l := by
  obtain ⟨s, ds, h1, h2, h3, h4⟩ := h
  exact ⟨s, ds, h1, h2.keepS k hr, RowW.keepS h3 k (by rw [show (r + 64) % 64 = r % 64 by omega]; exact hr), fun i p d hp hd => (h4 i p d hp hd).keepS k h6⟩
theorem RefIs.m {r T : Nat} {l : St} (h : RefIs tag σ r T l) (hs : SL.Sep ro σ) : RefM ro σ T l := by
  obtain ⟨s, ds, h1, h2, h3, h4⟩ := h
  obtain ⟨p, hp, hg⟩ := h2.ptr hs (by simp)
  cases hp
  have hl := h3.len
  rw [List.length_zipWith, h1, Nat.min_self] at hl
  refine ⟨s, by have := hg 0 _ rfl; rwa [Nat.zero_mul, add_zero] at this, hl, fun j p hj => ?_⟩
  have hjl : j < l.length := by
    rcases Nat.lt_or_ge j l.length with h | h
    · exact h
    · rw [List.getElem?_eq_none h] at hj; cases hj
  have hd : ds[j]? = some ds[j] := List.getElem?_eq_getElem (by omega)
  obtain ⟨b, ha, _, hc⟩ := RowW.get h3 hs (j := j) (x := nodeV p ds[j]) (by rw [List.getElem?_zipWith, hj, hd])
  exact ⟨b, ds[j], ha, hc, (h4 j p _ hj hd).read hs⟩
theorem RefM.lent {T : Nat} {l : St} (b : Nat) (h : RefM ro σ T l) : RefM (join ro (SL.one σ b)) (SL.del σ b) T l := by
  obtain ⟨s, h1, h2, h3⟩ := h
  refine ⟨s, by rw [acell_lent]; exact h1, h2, fun j p hj => ?_⟩
  obtain ⟨c, d, ha, hc, hd⟩ := h3 j p hj
  exact ⟨c, d, ha, fun i v hv => by rw [acell_lent]; exact hc i v hv, hd.lent b⟩
end Go.Proofs.YthfpmipeejjogaaGreatDoor.Zt

/- The document's tree: Children, Paths. -/
namespace Go.Proofs.YthfpmipeejjogaaGreatDoor.Zt
open Go Go.Proofs.YthfpmipeejjogaaGreatDoor.SL Go.Proofs.YthfpmipeejjogaaGreatDoor.G Go.Proofs.YthfpmipeejjogaaGreatDoor.Pa
set_option linter.unusedSimpArgs false
set_option linter.unusedVariables false
variable {B : World} {ro σ σ' : AH} {tag tag' : Nat → Nat}

theorem RefM.len {T : Nat} {l : St} (h : RefM ro σ T l) : ∃ s : Sl, acell ro σ ⟨T, 0, none⟩ = some (Sl.v s) ∧ s.len = l.length := by
  obtain ⟨s, h1, h2, _⟩ := h
  exact ⟨s, h1, h2⟩
end Go.Proofs.YthfpmipeejjogaaGreatDoor.Zt

/- The document's bytes: Put, Join, Blob. -/
namespace Go.Proofs.YthfpmipeejjogaaGreatDoor.SL
open Go
variable {ro σ σ' σ1 : AH} {tag tag' tag1 : Nat → Nat}
/-- what was made anew in role 1, all else of role 0: as it stands beside any roles -/
theorem fresh_step {x : Nat} (hx : x ≠ 0) (st : Step [x] ro (fun _ => 0) σ tag1 σ1) (tag : Nat → Nat) (y : Nat) :
    ∃ tag', (∀ R, Step R ro tag σ tag' σ1) ∧ ∀ e s l, Row tag1 σ1 x e s l → Row tag' σ1 y e s l := by
  refine ⟨fun c => if (σ c).isSome then tag c else y, fun R => ⟨fun b o hb _ => ⟨by simp [hb], ?_⟩, fun b o hb => ⟨by simp [hb], o, ?_⟩, st.sep⟩, fun e s l h => ?_⟩
  · exact (st.keep b o hb (by simp; omega)).2
  · exact (st.keep b o hb (by simp; omega)).2
  · rcases h with h | ⟨b, cs, ha, ht, hb, hx'⟩
    · exact .inl h
    · refine .inr ⟨b, cs, ha, ?_, hb, hx'⟩
      cases e : σ b with
      | none => simp [e]
      | some o =>
        have := (st.old b o e).1
        rw [ht] at this; exact absurd this hx
theorem Read.fresh {x : Nat} {s : Sl} {l : List Value} (hx : x ≠ 0) (h : Read ro σ s l) (st : Step [x] ro (fun _ => 0) σ tag1 σ1) : Read ro σ1 s l := by
  obtain ⟨tg, k, _⟩ := fresh_step hx st (fun _ => 0) 0
  exact h.step (k [])
end Go.Proofs.YthfpmipeejjogaaGreatDoor.SL
namespace Go.Proofs.YthfpmipeejjogaaGreatDoor.Zt
open Go Go.Proofs.YthfpmipeejjogaaGreatDoor.SL Go.Proofs.YthfpmipeejjogaaGreatDoor.G Go.Proofs.YthfpmipeejjogaaGreatDoor.Pa Go.Proofs.YthfpmipeejjogaaGreatDoor.Wi
set_option linter.unusedSimpArgs false
set_option linter.unusedVariables false
variable {B : World} {ro σ σ' : AH} {tag tag' : Nat → Nat}

set_option maxRecDepth 100000 in
theorem rput_ok {x : Int} {Q : Sl → AH → Prop} (h0 : 0 ≤ x) (hx : x ≤ 4611686018427387903) (hQ : ∀ s tag' σ', (∀ R, Step R ro tag σ tag' σ') → Row tag' σ' 6 5 s ((vput x.toNat).map vU) → Q s σ') : c_ref01_Put B ro x σ Q := by
  refine ref01_Put_ok fun hs => ?_
  unfold f_ref01_Put
  refine nw_cells (tag := fun _ => 0) 1 hs fun b tag1 σ1 st1 r1 => ?_
  have fin : ∀ s tag2 σ2, Step [1] ro (fun _ => 0) σ tag2 σ2 → Row tag2 σ2 1 5 s ((vput x.toNat).map vU) → Q s σ2 := fun s tag2 σ2 st2 r2 => by
    obtain ⟨tg, k1, k2⟩ := fresh_step (by decide) st2 tag 6
    exact hQ s tg σ2 k1 (k2 _ _ _ r2)
  suffices ∀ (m : Nat) (n : Nat) (acc : Str) (s : Sl) tag2 σ2, n < 128 ^ (m + 1) → n ≤ 4611686018427387903 → acc.length + m ≤ 20 → acc ++ vput n = vput x.toNat → Step [1] ro (fun _ => 0) σ tag2 σ2 → Row tag2 σ2 1 5 s (acc.map vU) → lfpD (l7_ref01_Put B ro Q) ((n : Int), s) σ2 by
    have := this 10 x.toNat [] _ tag1 σ1 (by omega) (by omega) (by simp) rfl (st1 _) r1
    rwa [Int.toNat_of_nonneg h0] at this
  intro m
  induction m with
  | zero =>
    intro n acc s tag2 σ2 hn hn2 hl he st2 r2
    refine lfpD.intro ?_
    unfold l7_ref01_Put
    simp only
    rw [if_neg (by omega)]
    unfold j2_ref01_Put
    refine nw_cells (tag := tag2) 0 st2.sep fun c tag3 σ3 st3 r3 => ?_
    refine awp_append1 (r2.keep (st3 []) (by simp)) (st3 []).sep u30 ty5 rfl rfl (Row.cell1 r3 (st3 []).sep) rfl (by rw [List.length_map]; omega) (by decide) fun s' tag4 σ4 st4 r4 => ?_
    refine ⟨s', rfl, fin s' tag4 σ4 (st2.trans ((st3 _).trans st4)) ?_⟩
    rw [← he]
    unfold vput
    rw [if_pos (by omega), List.map_append]
    have : IntKind.u8.wrap (n : Int) = ((UInt8.ofNat n).toNat : Int) := by
      rw [u8_of n (by omega)]
      simp [IntKind.wrap, IntKind.signed, IntKind.bits]; omega
    rw [this] at r4
    exact r4
  | succ m ih =>
    intro n acc s tag2 σ2 hn hn2 hl he st2 r2
    refine lfpD.intro ?_
    unfold l7_ref01_Put
    simp only
    by_cases c : 128 ≤ n
    · rw [if_pos (by omega)]
      refine nw_cells (tag := tag2) 0 st2.sep fun c' tag3 σ3 st3 r3 => ?_
      refine awp_append1 (r2.keep (st3 []) (by simp)) (st3 []).sep u30 ty5 rfl rfl (Row.cell1 r3 (st3 []).sep) rfl (by rw [List.length_map]; omega) (by decide) fun s' tag4 σ4 st4 r4 => ?_
      refine ⟨s', rfl, ?_⟩
      have e1 : IntKind.i64.wrap (Int.tdiv (n : Int) 128) = ((n / 128 : Nat) : Int) := by
        rw [Int.tdiv_eq_ediv_of_nonneg (by omega), SL.w64_eq (by omega) (by omega)]; omega
      rw [e1]
      have e2 : IntKind.u8.wrap (IntKind.i64.wrap (128 + (Int.tmod (n : Int) 128))) = ((UInt8.ofNat (n % 128 + 128)).toNat : Int) := by
        rw [u8_of _ (by omega), Int.tmod_eq_emod_of_nonneg (by omega), SL.w64_eq (by omega) (by omega)]
        simp [IntKind.wrap, IntKind.signed, IntKind.bits]; omega
      rw [e2] at r4
      refine ih (n / 128) (acc ++ [UInt8.ofNat (n % 128 + 128)]) s' tag4 σ4 ?_ (by omega) (by simp; omega) ?_ (st2.trans ((st3 _).trans st4)) (by rw [List.map_append]; exact r4)
      · rw [Nat.pow_succ] at hn
        exact Nat.div_lt_of_lt_mul (by omega)
      · rw [← he]
        conv => rhs; unfold vput
        rw [if_neg (by omega), List.append_assoc]; rfl
    · rw [if_neg (by omega)]
      unfold j2_ref01_Put
      refine nw_cells (tag := tag2) 0 st2.sep fun c tag3 σ3 st3 r3 => ?_
      refine awp_append1 (r2.keep (st3 []) (by simp)) (st3 []).sep u30 ty5 rfl rfl (Row.cell1 r3 (st3 []).sep) rfl (by rw [List.length_map]; omega) (by decide) fun s' tag4 σ4 st4 r4 => ?_
      refine ⟨s', rfl, fin s' tag4 σ4 (st2.trans ((st3 _).trans st4)) ?_⟩
      rw [← he]
      unfold vput
      rw [if_pos (by omega), List.map_append]
      have : IntKind.u8.wrap (n : Int) = ((UInt8.ofNat n).toNat : Int) := by
        rw [u8_of n (by omega)]
        simp [IntKind.wrap, IntKind.signed, IntKind.bits]; omega
      rw [this] at r4
      exact r4
set_option maxRecDepth 100000 in
theorem rjoin_ok {a0 : Sl} {ss : List Sl} {ls : List Str} {Q : Sl → AH → Prop} (h : SL.Read ro σ a0 (ss.map Sl.v)) (hl : ls.length = ss.length) (hd : ∀ (i : Nat) (s : Sl) (l : Str), ss[i]? = some s → ls[i]? = some l → SL.Read ro σ s (l.map vU)) (hn : ls.flatten.length ≤ 140737488355328) (hs1 : ss.length ≤ 1000)
    (hQ : ∀ s tag' σ', (∀ R, Step R ro tag σ tag' σ') → Row tag' σ' 6 5 s (ls.flatten.map vU) → Q s σ') : c_ref01_Join B ro a0 σ Q := by
  refine ref01_Join_ok fun hs => ?_
  unfold f_ref01_Join
  refine nw_cells (tag := fun _ => 0) 1 hs fun b tag1 σ1 st1 r1 => ?_
  have ha : a0.len = ss.length := by rw [h.1, List.length_map]
  suffices ∀ (m j : Nat) (s : Sl) tag2 σ2, j + m = ss.length → Step [1] ro (fun _ => 0) σ tag2 σ2 → Row tag2 σ2 1 5 s ((ls.take j).flatten.map vU) → lfpD (l4_ref01_Join B ro a0 Q) (s, (j : Int)) σ2 from
    this _ 0 _ tag1 σ1 (Nat.zero_add _) (st1 _) r1
  intro m
  induction m with
  | zero =>
    intro j s tag2 σ2 hj st2 r2
    refine lfpD.intro ?_
    unfold l4_ref01_Join
    simp only
    rw [if_neg (by omega)]
    unfold j2_ref01_Join
    rw [List.take_of_length_le (by omega)] at r2
    obtain ⟨tg, k1, k2⟩ := fresh_step (by decide) st2 tag 6
    exact hQ s tg σ2 k1 (k2 _ _ _ r2)
  | succ m ih =>
    intro j s tag2 σ2 hj st2 r2
    have hjs : j < ss.length := by omega
    have hjl : j < ls.length := by omega
    have h2 := h.fresh (by decide) st2
    have hd2 := (hd j _ _ (List.getElem?_eq_getElem hjs) (List.getElem?_eq_getElem hjl)).fresh (by decide) st2
    obtain ⟨p, hp⟩ : ∃ p, a0.a = some p := by
      cases e : a0.a with
      | none => have := h.2.1 e; simp at this; rw [this] at hjs; simp at hjs
      | some p => exact ⟨p, rfl⟩
    have hcell := h2.2.2 p hp j (Sl.v ss[j]) (by rw [List.getElem?_map, List.getElem?_eq_getElem hjs]; rfl)
    have etk : (ls.take (j + 1)).flatten = (ls.take j).flatten ++ ls[j] := by
      rw [List.take_add_one, List.getElem?_eq_getElem hjl, List.flatten_append]; simp
    have hlen : (ls.take (j + 1)).flatten.length ≤ ls.flatten.length := by
      conv => rhs; rw [← List.take_append_drop (j + 1) ls, List.flatten_append, List.length_append]
      omega
    rw [etk, List.length_append] at hlen
    refine lfpD.intro ?_
    unfold l4_ref01_Join
    simp only
    rw [if_pos (by omega)]
    refine ⟨p, hp, by omega, by omega, ss[j], by rw [Int.toNat_natCast, Nat.mul_one]; exact hcell, ?_⟩
    refine awp_appendN r2 st2.sep hd2 u30 ty5 rfl (by simp [storable]) (by rw [List.length_map, List.length_map]; omega) (by decide) fun s' tag3 σ3 st3 r3 => ?_
    refine ⟨s', rfl, ?_⟩
    rw [Pa.inc j (by omega)]
    refine ih (j + 1) s' tag3 σ3 (by omega) (st2.trans (st3 _ (.inr (by simp)))) ?_
    rw [etk, List.map_append]; exact r3
theorem rblobp_ok {a0 : Sl} {d : Str} {Q : Sl → AH → Prop} (h : SL.Read ro σ a0 (d.map vU)) (hl : d.length ≤ 70368744177664) (hQ : ∀ s tag' σ', (∀ R, Step R ro tag σ tag' σ') → Row tag' σ' 6 5 s ((blob d).map vU) → Q s σ') : c_ref01_Blob B ro a0 σ Q := by
  refine ref01_Blob_ok fun hs => ?_
  unfold f_ref01_Blob
  have ha : a0.len = d.length := by rw [h.1, List.length_map]
  refine rput_ok (tag := tag) (by omega) (by omega) fun s1 tag1 σ1 st1 r1 => ?_
  rw [ha, Int.toNat_natCast] at r1
  refine nw_cells (tag := tag1) 0 (st1 []).sep fun b tag2 σ2 st2 r2 => ?_
  have hv := (vput_len 8 d.length (by omega)).2
  refine rjoin_ok (tag := tag2) (ss := [s1, a0]) (ls := [vput d.length, d]) (r2.read (st2 []).sep) rfl (fun i s l hs' hl' => ?_) (by simp; omega) (by simp) fun s tag3 σ3 st3 r3 => ?_
  · rcases i with _ | _ | i
    · cases hs'; cases hl'; exact (r1.keep (st2 []) (by simp)).read (st2 []).sep
    · cases hs'; cases hl'; exact (h.step (st1 [])).step (st2 [])
    · cases hs'
  · refine hQ s tag3 σ3 (fun R => (st1 R).trans ((st2 R).trans (st3 R))) ?_
    have : [vput d.length, d].flatten = blob d := by unfold blob; simp
    rw [this] at r3; exact r3
end Go.Proofs.YthfpmipeejjogaaGreatDoor.Zt

/- The document's tree: its bytes. -/
namespace Go.Proofs.YthfpmipeejjogaaGreatDoor.Zt
open Go Go.Proofs.YthfpmipeejjogaaGreatDoor.SL Go.Proofs.YthfpmipeejjogaaGreatDoor.G Go.Proofs.YthfpmipeejjogaaGreatDoor.Pa Go.Proofs.YthfpmipeejjogaaGreatDoor.Wi
set_option linter.unusedSimpArgs false
set_option linter.unusedVariables false
variable {B : World} {ro σ σ' : AH} {tag tag' : Nat → Nat}

theorem upd_upd (σ : AH) (b : Nat) (x y : Obj) : upd (upd σ b x) b y = upd σ b y := by
  funext c; unfold upd; split <;> rfl
theorem awp_s2b {l : Str} {K : Value → AH → Prop} (hs : SL.Sep ro σ) (hK : ∀ s tag' σ', (∀ R, Step R ro tag σ tag' σ') → SL.Read ro σ' s (l.map vU) → K (Sl.v s) σ') : awp Tryz.prog ro (convert 9 30 (.string (S l))) K σ := by
  unfold convert
  simp only [bind_def]
  rw [awp_underlying u9, awp_underlying u30]
  simp only
  rw [awp_underlying u5'']
  simp only
  unfold Conv.stringToBytes
  simp only [bind_def]
  refine awp_choose rfl fun n => ?_
  have hsz : (S l).size = l.length := by rw [← L_len, L_S]
  have hcut : (S l).size ≤ (Question.appendCap (S l).size 0 5).cut n := by simp only [Question.cut]; omega
  generalize (Question.appendCap (S l).size 0 5).cut n = N at hcut
  show ∀ b, ro b = none → σ b = none → awp Tryz.prog ro (Sem.bind (markStringish ⟨b, 0, none⟩) fun _ => Sem.pure (Value.slice (some ⟨b, 0, none⟩) (S l).size N)) K (upd σ b _)
  intro b hro hb
  unfold markStringish
  show ∃ o, rd ro (upd σ b _) b = some o ∧ _
  refine ⟨_, by unfold rd; rw [hro]; exact upd_same _ _ _, ?_⟩
  show (1 : Nat) ≠ 0 ∧ ∃ o, upd σ b _ b = some o ∧ _
  refine ⟨by decide, _, upd_same _ _ _, ?_⟩
  rw [upd_upd]
  refine hK ⟨some ⟨b, 0, none⟩, (S l).size, N⟩ (setTag tag b 6) _ (fun _ => Step.fresh hs hro hb) ⟨by simp [hsz], (fun h => by cases h), fun p hp i v hv => ?_⟩
  cases hp
  have hi : i < l.length := by
    rcases Nat.lt_or_ge i l.length with h | h
    · exact h
    · rw [List.getElem?_eq_none (by simpa using h)] at hv; cases hv
  rw [add_add, Nat.zero_add]
  unfold acell rd
  rw [show ro (⟨b, i, none⟩ : Addr).block = none from hro]
  simp only [upd_same]
  rw [← hv]
  show (Array.map (fun b => Value.int IntKind.u8 (b.toNat : Int)) (S l).data ++ Array.replicate (N - (S l).size) (Value.int IntKind.u8 0))[i]? = _
  rw [Array.getElem?_append_left (by simp [S]; omega)]
  simp [S, vU]
end Go.Proofs.YthfpmipeejjogaaGreatDoor.Zt

/- The tree and the document's tree are alike: sizes, owners, bytes. -/
namespace Go.Proofs.YthfpmipeejjogaaGreatDoor.Zt
open Go Go.Proofs.YthfpmipeejjogaaGreatDoor.SL Go.Proofs.YthfpmipeejjogaaGreatDoor.G Go.Proofs.YthfpmipeejjogaaGreatDoor.Pa Go.Proofs.YthfpmipeejjogaaGreatDoor.Wi
set_option linter.unusedSimpArgs false
set_option linter.unusedVariables false
variable {B : World} {ro σ σ' : AH} {tag tag' : Nat → Nat}

theorem RowW.del {r r' : Nat} {e : TypeId} {w : Nat} {s : Sl} {l : List (List Value)} {b : Nat} (h : RowW tag σ r e w s l) (hb : tag b = r') (hr : r ≠ r') : RowW tag (SL.del σ b) r e w s l := by
  rcases h with h | ⟨c, cs, ha, ht, hs, hx⟩
  · exact .inl h
  · refine .inr ⟨c, cs, ha, ht, ?_, hx⟩
    have : c ≠ b := fun e => hr (by rw [← ht, e, hb])
    unfold SL.del; rw [if_neg this]; exact hs
end Go.Proofs.YthfpmipeejjogaaGreatDoor.Zt

/- The document's numbers are read as the wire's. -/
namespace Go.Proofs.YthfpmipeejjogaaGreatDoor.Zt
open Go Go.Proofs.YthfpmipeejjogaaGreatDoor.SL Go.Proofs.YthfpmipeejjogaaGreatDoor.G Go.Proofs.YthfpmipeejjogaaGreatDoor.Pa Go.Proofs.YthfpmipeejjogaaGreatDoor.Wi
set_option linter.unusedSimpArgs false
set_option linter.unusedVariables false
set_option maxRecDepth 100000
variable {B : World} {ro σ σ' : AH} {tag tag' : Nat → Nat}

theorem val_cut {m : Str} {k : Nat} {c : UInt8} (hk : m[k]? = some c) (hc : c.toNat < 128) : val (m.take (k + 1)) = val (m.take k) + 128 ^ k * c.toNat := by
  have hkl : k < m.length := by
    rcases Nat.lt_or_ge k m.length with h | h
    · exact h
    · rw [List.getElem?_eq_none h] at hk; cases hk
  rw [List.take_add_one, hk]
  simp only [Option.toList_some]
  rw [val_snoc, List.length_take, Nat.min_eq_left (by omega), Nat.mod_eq_of_lt hc]
theorem rnumber_ok {s : Sl} {l : Str} {p : Nat} {Q : Int → Int → Int → AH → Prop} (h : SL.Read ro σ s (l.map vU)) (hl : l.length ≤ 140737488355328) (hp : p ≤ l.length)
    (hQ : Q (num (l.drop p)).1 (if (num (l.drop p)).2.2 = 0 then ((p + (num (l.drop p)).2.1 : Nat) : Int) else 0) (num (l.drop p)).2.2 σ) : c_ref01_Number B ro s (p : Int) σ Q := by
  refine ref01_Number_ok fun _ => ?_
  unfold f_ref01_Number
  have hln : s.len = l.length := by rw [h.1, List.length_map]
  rw [if_neg (by omega)]
  obtain ⟨m, hm⟩ : ∃ m, l.drop p = m := ⟨_, rfl⟩
  have hml : m.length + p = l.length := by rw [← hm, List.length_drop]; omega
  rw [hm] at hQ
  have cell : ∀ i (hi : i < m.length), ∃ q : Addr, s.a = some q ∧ acell ro σ (q.add (Int.toNat (IntKind.i64.wrap ((p : Int) + (i : Int))) * 1)) = some (.int .u8 (m[i].toNat : Int)) ∧ IntKind.i64.wrap ((p : Int) + (i : Int)) = ((p + i : Nat) : Int) := fun i hi => by
    obtain ⟨q, hq⟩ : ∃ q, s.a = some q := by
      cases e : s.a with
      | none =>
        have := h.2.1 e
        rw [List.map_eq_nil_iff] at this
        rw [this, List.length_nil] at hml; omega
      | some q => exact ⟨q, rfl⟩
    have e : IntKind.i64.wrap ((p : Int) + (i : Int)) = ((p + i : Nat) : Int) := by rw [SL.w64_eq (by omega) (by omega)]; omega
    refine ⟨q, hq, ?_, e⟩
    rw [e, Int.toNat_natCast, Nat.mul_one]
    refine h.2.2 q hq (p + i) _ ?_
    have : l[p + i]? = some m[i] := by rw [← List.getElem?_drop, hm]; exact List.getElem?_eq_getElem hi
    rw [List.getElem?_map, this]; rfl
  -- the value, from the top
  have value : ∀ (k : Nat) (hk : k < m.length), (∀ i c, i < k → m[i]? = some c → 128 ≤ c.toNat) → k ≤ 8 → val (m.take (k + 1)) < 4611686018427387904 → num m = (val (m.take (k + 1)), k + 1, 0) →
      lfpD (l9_ref01_Number B ro s (p : Int) (k : Int) Q) ((0 : Int), (k : Int)) σ := by
    intro k hk hhi hk8 hv en
    rw [en] at hQ
    simp only [if_true] at hQ
    -- what is left: the places i .. 0; the value so far is that of the places above
    suffices ∀ (i : Nat) (v : Nat), i ≤ k + 1 → val (m.take (k + 1)) = val (m.take i) + 128 ^ i * v → lfpD (l9_ref01_Number B ro s (p : Int) (k : Int) Q) ((v : Int), (i : Int) - 1) σ by
      have h0 := this (k + 1) 0 (by omega) (by rw [Nat.mul_zero]; rfl)
      rw [show (((k + 1 : Nat) : Int) - 1) = (k : Int) by omega] at h0
      exact h0
    intro i
    induction i with
    | zero =>
      intro v hi he
      refine lfpD.intro ?_
      unfold l9_ref01_Number
      simp only
      rw [if_neg (by omega)]
      unfold j7_ref01_Number
      have e1 : val (m.take 0) = 0 := rfl
      rw [e1, Nat.pow_zero, Nat.one_mul, Nat.zero_add] at he
      rw [he] at hQ
      rw [show IntKind.i64.wrap ((IntKind.i64.wrap ((p : Int) + (k : Int))) + 1) = ((p + (k + 1) : Nat) : Int) by rw [SL.w64_eq (n := (p : Int) + (k : Int)) (by omega) (by omega), SL.w64_eq (by omega) (by omega)]; omega]
      exact hQ
    | succ i ih =>
      intro v hi he
      have him : i < m.length := by omega
      obtain ⟨q, hq, hcell, ew⟩ := cell i him
      have hp0 : 0 < 128 ^ i := Nat.pow_pos (by decide)
      have ets : val (m.take (i + 1)) = val (m.take i) + 128 ^ i * (m[i].toNat % 128) := by
        rw [List.take_add_one, List.getElem?_eq_getElem him]
        simp only [Option.toList_some]
        rw [val_snoc, List.length_take, Nat.min_eq_left (by omega)]
      have he2 : val (m.take (k + 1)) = val (m.take i) + 128 ^ i * (v * 128 + m[i].toNat % 128) := by
        rw [he, ets, Nat.pow_succ, Nat.mul_add, Nat.add_assoc, Nat.add_comm (128 ^ i * (v * 128)), Nat.mul_assoc, Nat.mul_comm 128 v]
      have hvb : v * 128 + m[i].toNat % 128 ≤ val (m.take (k + 1)) := by
        rw [he2]
        have := Nat.le_mul_of_pos_left (v * 128 + m[i].toNat % 128) hp0
        omega
      refine lfpD.intro ?_
      unfold l9_ref01_Number
      simp only
      rw [if_pos (by omega)]
      rw [show (((i + 1 : Nat) : Int) - 1) = (i : Int) by omega]
      refine ⟨q, hq, by rw [ew]; omega, by rw [ew]; omega, (m[i].toNat : Int), hcell, ?_⟩
      have hlt := u8_lt m[i]
      have e1 : IntKind.i64.wrap ((IntKind.i64.wrap ((v : Int) * 128)) + (Int.tmod (IntKind.i64.wrap (m[i].toNat : Int)) 128)) = ((v * 128 + m[i].toNat % 128 : Nat) : Int) := by
        rw [SL.w64_eq (n := (v : Int) * 128) (by omega) (by omega), SL.w64_eq (n := (m[i].toNat : Int)) (by omega) (by omega), Int.tmod_eq_emod_of_nonneg (by omega), SL.w64_eq (by omega) (by omega)]
        omega
      rw [e1, show IntKind.i64.wrap ((i : Int) - 1) = (i : Int) - 1 by rw [SL.w64_eq (by omega) (by omega)]]
      exact ih _ (by omega) he2
  have after : ∀ x7 : Int, (x7 = -1 ∧ scan 9 m = none) ∨ (∃ k : Nat, x7 = k ∧ scan 9 m = some k) → j1_ref01_Number B ro s (p : Int) Q x7 σ := by
    intro x7 hx
    have ew : IntKind.i64.wrap ((s.len : Int) - (p : Int)) = (m.length : Int) := by rw [SL.w64_eq (by omega) (by omega)]; omega
    unfold j1_ref01_Number
    rw [ew]
    rcases hx with ⟨rfl, hsc⟩ | ⟨k, rfl, hsc⟩
    · have en : num m = (0, 0, if m.length < 9 then 12 else 13) := by unfold num; rw [hsc]
      rw [en] at hQ
      by_cases c : m.length < 9
      · rw [if_pos (by omega)]
        rw [if_pos c] at hQ; exact hQ
      · rw [if_neg (by omega), if_pos (by decide)]
        unfold j3_ref01_Number
        rw [if_pos rfl]
        unfold j5_ref01_Number
        rw [if_pos rfl]
        rw [if_neg c] at hQ; exact hQ
    · obtain ⟨k9, hkm, hhi, c, hck, hc128⟩ := scan_some 9 m k hsc
      rw [if_neg (by omega), if_neg (by omega)]
      have bad : (0 < k ∧ m[k]? = some 0) ∨ 4611686018427387904 ≤ val (m.take (k + 1)) → Q 0 0 13 σ := fun hb => by
        have en : num m = (0, 0, 13) := by unfold num; rw [hsc]; simp only; rw [if_pos hb]
        rw [en] at hQ; exact hQ
      have good : ¬ ((0 < k ∧ m[k]? = some 0) ∨ 4611686018427387904 ≤ val (m.take (k + 1))) → j5_ref01_Number B ro s (p : Int) (k : Int) Q false σ := fun hb => by
        have en : num m = (val (m.take (k + 1)), k + 1, 0) := by unfold num; rw [hsc]; simp only; rw [if_neg hb]
        unfold j5_ref01_Number
        rw [if_neg (by simp)]
        exact value k hkm hhi (by omega) (by omega) en
      have hmk : m[k] = c := by rw [List.getElem?_eq_getElem hkm] at hck; exact Option.some.inj hck
      have hvt := val_take m k
      have hvc := val_cut hck hc128
      have second : (¬ (0 < k ∧ m[k]? = some 0)) → j3_ref01_Number B ro s (p : Int) (k : Int) Q false σ := fun hz => by
        unfold j3_ref01_Number
        rw [if_neg (by simp)]
        by_cases c8 : k = 8
        · subst c8
          rw [if_pos (by rfl)]
          obtain ⟨q, hq, hcell, ew⟩ := cell 8 hkm
          rw [show ((8 : Nat) : Int) = 8 from rfl] at hcell ew
          refine ⟨q, hq, by rw [ew]; omega, by rw [ew]; omega, (m[8].toNat : Int), hcell, ?_⟩
          unfold j14_ref01_Number
          rw [hmk]
          have e8 : (128 : Nat) ^ 8 = 72057594037927936 := by decide
          rw [e8] at hvt hvc
          by_cases c63 : 63 < c.toNat
          · rw [decide_eq_true (by omega)]
            unfold j5_ref01_Number
            rw [if_pos rfl]
            exact bad (.inr (by omega))
          · rw [decide_eq_false (by omega)]
            exact good (by rintro (h | h); exact hz h; omega)
        · rw [if_neg (by omega)]
          unfold j14_ref01_Number
          refine good ?_
          rintro (h | h)
          · exact hz h
          · have : (128 : Nat) ^ (k + 1) ≤ 128 ^ 8 := Nat.pow_le_pow_right (by decide) (by omega)
            have hv := val_take m (k + 1)
            have e8 : (128 : Nat) ^ 8 = 72057594037927936 := by decide
            omega
      by_cases c0 : 0 < k
      · rw [if_pos (by omega)]
        obtain ⟨q, hq, hcell, ew⟩ := cell k hkm
        refine ⟨q, hq, by rw [ew]; omega, by rw [ew]; omega, (m[k].toNat : Int), hcell, ?_⟩
        unfold j18_ref01_Number
        by_cases cz : c.toNat = 0
        · rw [decide_eq_true (by rw [hmk]; omega)]
          unfold j3_ref01_Number
          rw [if_pos rfl]
          unfold j5_ref01_Number
          rw [if_pos rfl]
          exact bad (.inl ⟨c0, by rw [hck, show c = 0 from u8_eq (by simpa using cz)]⟩)
        · rw [decide_eq_false (by rw [hmk]; omega)]
          refine second ?_
          rintro ⟨_, hz⟩
          rw [hck] at hz
          exact cz (by rw [Option.some.inj hz]; rfl)
      · rw [if_neg (by omega)]
        unfold j18_ref01_Number
        exact second fun h => c0 h.1
  suffices ∀ d i, i + d = 9 → i ≤ m.length → (∀ j c, j < i → m[j]? = some c → 128 ≤ c.toNat) → lfpD (l22_ref01_Number B ro s (p : Int) Q) ((-1 : Int), (i : Int)) σ from
    this 9 0 rfl (Nat.zero_le _) fun j c h => absurd h (Nat.not_lt_zero _)
  intro d
  induction d with
  | zero =>
    intro i hi him hall
    refine lfpD.intro ?_
    unfold l22_ref01_Number
    simp only
    rw [if_neg (by omega)]
    exact after _ (.inl ⟨rfl, scan_none_of 9 m fun j c hj hc => hall j c (by omega) hc⟩)
  | succ d ih =>
    intro i hi him hall
    have ew : IntKind.i64.wrap ((p : Int) + (i : Int)) = ((p + i : Nat) : Int) := by rw [SL.w64_eq (by omega) (by omega)]; omega
    refine lfpD.intro ?_
    unfold l22_ref01_Number
    simp only
    by_cases c : i < m.length
    · rw [if_pos ⟨⟨by omega, by rw [ew]; omega⟩, by decide⟩]
      obtain ⟨q, hq, hcell, _⟩ := cell i c
      refine ⟨q, hq, by rw [ew]; omega, by rw [ew]; omega, (m[i].toNat : Int), hcell, ?_⟩
      by_cases c1 : m[i].toNat < 128
      · rw [if_pos (by omega)]
        unfold j25_ref01_Number
        rw [Pa.inc i (by omega)]
        refine lfpD.intro ?_
        simp only
        rw [if_neg (by omega)]
        exact after _ (.inr ⟨i, rfl, scan_of 9 m i m[i] (by omega) hall (List.getElem?_eq_getElem c) c1⟩)
      · rw [if_neg (by omega)]
        unfold j25_ref01_Number
        rw [Pa.inc i (by omega)]
        refine ih (i + 1) (by omega) (by omega) fun j x hj hx => ?_
        rcases Nat.lt_or_ge j i with h | h
        · exact hall j x h hx
        · obtain rfl : j = i := by omega
          rw [List.getElem?_eq_getElem c] at hx
          cases hx; omega
    · rw [if_neg (by rw [ew]; omega)]
      refine after _ (.inl ⟨rfl, scan_none_of 9 m fun j x hj hx => ?_⟩)
      have hjl : j < m.length := by
        rcases Nat.lt_or_ge j m.length with h | h
        · exact h
        · rw [List.getElem?_eq_none h] at hx; cases hx
      exact hall j x (by omega) hx
end Go.Proofs.YthfpmipeejjogaaGreatDoor.Zt

/- The document's reader. -/
namespace Go.Proofs.YthfpmipeejjogaaGreatDoor.Zt
open Go Go.Proofs.YthfpmipeejjogaaGreatDoor.SL Go.Proofs.YthfpmipeejjogaaGreatDoor.G Go.Proofs.YthfpmipeejjogaaGreatDoor.Pa Go.Proofs.YthfpmipeejjogaaGreatDoor.Wi
set_option linter.unusedSimpArgs false
set_option linter.unusedVariables false
set_option maxRecDepth 100000
variable {B : World} {ro σ σ' : AH} {tag tag' : Nat → Nat}

/-- a reader of the document: its block, the bytes (read only), what is left and the error -/
def RdIs (tag : Nat → Nat) (σ : AH) (q X : Nat) (s : Sl) (l : Str) (rd : Rd) : Prop := ∃ p : Nat, p ≤ l.length ∧ rd.rest = l.drop p ∧ Row tag σ q 154 ⟨some ⟨X, 0, none⟩, 3, 3⟩ [Sl.v s, .int .i64 (p : Int), .int .i64 rd.err]
theorem rdnum_ok {q X : Nat} {s : Sl} {l : Str} {rd : Rd} {Q : Int → AH → Prop} (h : RdIs tag σ q X s l rd) (hr : SL.Read ro (fun _ => none) s (l.map vU)) (hl : l.length ≤ 140737488355328)
    (hQ : ∀ σ', Step [q] ro tag σ tag σ' → RdIs tag σ' q X s l (rnum rd).2 → Q ((rnum rd).1 : Nat) σ') : c_ref01_Reader_Num B ro (some ⟨X, 0, none⟩) σ Q := by
  refine ref01_Reader_Num_ok fun hs => ?_
  unfold f_ref01_Reader_Num
  obtain ⟨p, hp, hrest, r⟩ := id h
  obtain ⟨pp, hpp, hg⟩ := r.ptr hs (by simp)
  cases hpp
  refine ⟨_, rfl, _, hg 2 _ rfl, ?_⟩
  by_cases c : rd.err = 0
  · rw [if_neg (by simpa using c)]
    refine ⟨_, rfl, _, rfl, s, hg 0 _ rfl, _, hg 1 _ rfl, ?_⟩
    refine rnumber_ok hr.keep hl hp ?_
    have e : rnum rd = ((num (l.drop p)).1, ⟨(l.drop p).drop (num (l.drop p)).2.1, (num (l.drop p)).2.2⟩) := by
      unfold rnum; rw [if_neg (by simpa using c), hrest]
    rw [e] at hQ
    have hle := (num_le (l.drop p)).1
    rw [List.length_drop] at hle
    by_cases c2 : (num (l.drop p)).2.2 = 0
    · rw [if_pos c2, if_neg (by simpa using c2)]
      refine ⟨_, rfl, ?_⟩
      refine r.st (i := 1) hs rfl (by simp) rfl fun σ2 st2 r2 => ?_
      refine hQ σ2 st2 ⟨p + (num (l.drop p)).2.1, by omega, by rw [List.drop_drop], ?_⟩
      simp only [c2]
      rw [c] at r2; exact r2
    · obtain ⟨e1, e2, _⟩ := num_err c2
      rw [if_neg c2, if_pos c2]
      refine ⟨_, rfl, ?_⟩
      refine r.st (i := 2) hs rfl (by simp) rfl fun σ2 st2 r2 => ?_
      rw [e1] at hQ
      exact hQ σ2 st2 ⟨p, hp, by rw [e2]; rfl, r2⟩
  · rw [if_pos c]
    rw [rnum_bad c] at hQ
    exact hQ σ (Step.refl hs) h
theorem rdleft_ok {q X : Nat} {s : Sl} {l : Str} {rd : Rd} {Q : Int → AH → Prop} (h : RdIs tag σ q X s l rd) (hr : SL.Read ro (fun _ => none) s (l.map vU)) (hl : l.length ≤ 140737488355328)
    (hQ : Q (rd.rest.length : Nat) σ) : c_ref01_Reader_Left B ro (some ⟨X, 0, none⟩) σ Q := by
  refine ref01_Reader_Left_ok fun hs => ?_
  unfold f_ref01_Reader_Left
  obtain ⟨p, hp, hrest, r⟩ := id h
  obtain ⟨pp, hpp, hg⟩ := r.ptr hs (by simp)
  cases hpp
  have hln : s.len = l.length := by rw [hr.1, List.length_map]
  refine ⟨_, rfl, _, rfl, s, hg 0 _ rfl, _, hg 1 _ rfl, ?_⟩
  rw [SL.w64_eq (by omega) (by omega)]
  rw [hrest, List.length_drop] at hQ
  rw [show ((s.len : Int) - (p : Int)) = ((l.length - p : Nat) : Int) by omega]
  exact hQ
end Go.Proofs.YthfpmipeejjogaaGreatDoor.Zt

/- The document's reader: Blob. -/
namespace Go.Proofs.YthfpmipeejjogaaGreatDoor.SL
open Go
variable {ro σ σ' : AH} {tag tag' : Nat → Nat}
theorem addr_add (a : Addr) (p i : Nat) : (a.add p).add i = a.add (p + i) := by
  unfold Addr.add
  by_cases hp : p = 0
  · subst hp; simp
  · by_cases hi : i = 0
    · subst hi; simp [hp]
    · simp [hp, hi, Nat.add_assoc]
theorem Read.cut {s : Sl} {l : List Value} {p n : Nat} (h : Read ro σ s l) (hc : s.len ≤ s.cap) (hn : p + n ≤ l.length) : Read ro σ ⟨cutA s.a p s.cap 1, p + n - p, s.cap - p⟩ ((l.drop p).take n) := by
  have hl := h.1
  refine ⟨by simp; omega, fun ha => ?_, fun a ha i v hv => ?_⟩
  · unfold cutA at ha
    split at ha
    · rename_i e
      have : n = 0 := by omega
      subst this; simp
    · cases hs : s.a with
      | none => rw [h.2.1 hs] at hn ⊢; simp
      | some x => rw [hs] at ha; simp at ha
  · rw [List.getElem?_take] at hv
    split at hv
    · rename_i hin
      rw [List.getElem?_drop] at hv
      unfold cutA at ha
      split at ha
      · omega
      · cases hs : s.a with
        | none => rw [hs] at ha; cases ha
        | some x =>
          rw [hs] at ha
          simp only [Option.map_some, Nat.mul_one] at ha
          cases ha
          rw [addr_add]
          exact h.2.2 x hs (p + i) v hv
    · cases hv
end Go.Proofs.YthfpmipeejjogaaGreatDoor.SL
namespace Go.Proofs.YthfpmipeejjogaaGreatDoor.Zt
open Go Go.Proofs.YthfpmipeejjogaaGreatDoor.SL Go.Proofs.YthfpmipeejjogaaGreatDoor.G Go.Proofs.YthfpmipeejjogaaGreatDoor.Pa Go.Proofs.YthfpmipeejjogaaGreatDoor.Wi
set_option linter.unusedSimpArgs false
set_option linter.unusedVariables false
set_option maxRecDepth 100000
variable {B : World} {ro σ σ' : AH} {tag tag' : Nat → Nat}
theorem rdblob_ok {q X : Nat} {s : Sl} {l : Str} {rd : Rd} {Q : Sl → AH → Prop} (hq6 : q ≠ 6) (h : RdIs tag σ q X s l rd) (hr : SL.Read ro (fun _ => none) s (l.map vU)) (hc : s.len ≤ s.cap) (hl : l.length ≤ 140737488355328)
    (hQ : ∀ d tag' σ', Step [q] ro tag σ tag' σ' → RdIs tag' σ' q X s l (rblob rd).2 → Row tag' σ' 6 5 d ((rblob rd).1.map vU) → Q d σ') : c_ref01_Reader_Blob B ro (some ⟨X, 0, none⟩) σ Q := by
  refine ref01_Reader_Blob_ok fun hs => ?_
  unfold f_ref01_Reader_Blob
  have hln : s.len = l.length := by rw [hr.1, List.length_map]
  obtain ⟨p, hp, hrest, r⟩ := id h
  obtain ⟨pp, hpp, hg⟩ := r.ptr hs (by simp)
  cases hpp
  refine ⟨_, rfl, _, hg 1 _ rfl, ?_⟩
  refine rdnum_ok h hr hl fun σ1 st1 h1 => ?_
  obtain ⟨p1, hp1, hrest1, r1⟩ := id h1
  obtain ⟨pp, hpp, hg1⟩ := r1.ptr st1.sep (by simp)
  cases hpp
  refine ⟨_, rfl, _, hg1 2 _ rfl, ?_⟩
  by_cases c : (rnum rd).2.err = 0
  · rw [if_neg (by simpa using c)]
    refine rdleft_ok h1 hr hl ?_
    by_cases c2 : (rnum rd).2.rest.length < (rnum rd).1
    · rw [if_pos (by omega)]
      have e : rblob rd = ([], ⟨rd.rest, 12⟩) := by unfold rblob; rw [if_neg (by simpa using c), if_pos c2]
      rw [e] at hQ
      refine ⟨_, rfl, ?_⟩
      refine r1.st (i := 2) st1.sep rfl (by simp) rfl fun σ2 st2 r2 => ?_
      refine ⟨_, rfl, ?_⟩
      refine r2.st (i := 1) st2.sep rfl (by simp) rfl fun σ3 st3 r3 => ?_
      exact hQ _ tag σ3 (st1.trans (st2.trans st3)) ⟨p, hp, hrest, r3⟩ (Row.nil _ _)
    · rw [if_neg (by omega)]
      have e : rblob rd = ((rnum rd).2.rest.take (rnum rd).1, ⟨(rnum rd).2.rest.drop (rnum rd).1, 0⟩) := by unfold rblob; rw [if_neg (by simpa using c), if_neg c2]
      rw [e] at hQ
      generalize (rnum rd).1 = n at c2 hQ
      rw [hrest1, List.length_drop] at c2
      rw [hrest1] at hQ
      have ew : IntKind.i64.wrap ((p1 : Int) + (n : Int)) = ((p1 + n : Nat) : Int) := by rw [SL.w64_eq (by omega) (by omega)]; omega
      refine ⟨_, rfl, _, rfl, _, rfl, s, hg1 0 _ rfl, _, hg1 1 _ rfl, _, hg1 1 _ rfl, ?_⟩
      rw [ew, Int.toNat_natCast, Int.toNat_natCast]
      refine ⟨⟨⟨by omega, by omega⟩, ⟨by omega, by simp [cutHi]; omega⟩⟩, ?_⟩
      have hcut := Read.cut (p := p1) (n := n) (hr.keep (σ := σ1)) hc (by rw [List.length_map]; omega)
      refine copy_ok (tag := tag) (l := ((l.drop p1).take n).map vU) (by rw [List.map_take, List.map_drop]; exact hcut) st1.sep (by rw [List.length_map, List.length_take, List.length_drop]; omega) (fun v hv => by obtain ⟨c, _, rfl⟩ := List.mem_map.1 hv; rfl) fun d tag2 σ2 st2 r2 => ?_
      have r12 := r1.keep (st2 []) (by simp)
      obtain ⟨pp, hpp, hg2⟩ := r12.ptr (st2 []).sep (by simp)
      cases hpp
      refine ⟨_, rfl, _, hg2 1 _ rfl, _, rfl, ?_⟩
      rw [ew]
      refine r12.st (i := 1) (st2 []).sep rfl (by simp) rfl fun σ3 st3 r3 => ?_
      rw [c] at r3
      exact hQ d tag2 σ3 (st1.trans ((st2 _).trans st3)) ⟨p1 + n, by omega, by simp only; rw [List.drop_drop], r3⟩ (r2.keep st3 (by simp; omega))
  · rw [if_pos c]
    have e : rblob rd = ([], (rnum rd).2) := by unfold rblob; rw [if_pos c]
    rw [e] at hQ
    exact hQ _ tag σ1 st1 h1 (Row.nil _ _)
end Go.Proofs.YthfpmipeejjogaaGreatDoor.Zt
