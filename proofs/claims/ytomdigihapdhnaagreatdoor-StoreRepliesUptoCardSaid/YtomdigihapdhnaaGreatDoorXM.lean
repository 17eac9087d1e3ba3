/- GL17a, ReG -/
import Derived.Test.YtomdigihapdhnaaGreatDoorXL
/- Functions as predicate transformers, and the proofs that the code does what they tell: printed by wip/tools/gen.py. -/
namespace Go.Proofs.YtomdigihapdhnaaGreatDoor.G
open Go Go.Proofs.YtomdigihapdhnaaGreatDoor.SL
set_option linter.unusedVariables false
set_option linter.unusedSimpArgs false

def j27_law17_StoreReplies (B : World) (ro : AH) (Q : Bool → AH → Prop) (x4_28 : Bool) (σ : AH) : Prop :=
 Q x4_28 σ

def j21_law17_StoreReplies (B : World) (ro : AH) (x2_1 : Nat) (x17_3 : Sl) (x23_8 : Bool) (Q : Bool → AH → Prop) (x76_22 : Bool) (σ : AH) : Prop :=
 if x76_22 = true then
  Q false σ
 else
 if ¬ (x23_8 = true) then
  c_law17_awake B ro σ fun x79_23 σ =>
  Q x79_23 σ
 else
 c_store_GetReply B ro x17_3 σ fun x82_24a x82_24b x82_24c x82_24d x82_24e x82_24f x82_24g x82_24h x82_24i x82_24j x82_24k x82_24l x82_25 σ =>
 nw ro σ (.cells #[.int .i64 0, .int .i64 0, Sl.v (⟨none, 0, 0⟩ : Sl), .int .i64 0, Sl.v (⟨none, 0, 0⟩ : Sl), .int .i64 0, .int .i64 0, .int .i64 0, .int .i64 0, Sl.v (⟨none, 0, 0⟩ : Sl), Sl.v (⟨none, 0, 0⟩ : Sl), .int .i64 0] 30) fun x13_26 σ =>
 stN ⟨x13_26, 0, none⟩ (fun σ =>
  lent σ fun ψ σ =>
   if x82_25 = 0 then
    ∃ (x90_29a : Int) (x90_29b : Int) (x90_29c : Sl) (x90_29d : Int) (x90_29e : Sl) (x90_29f : Int) (x90_29g : Int) (x90_29h : Int) (x90_29i : Int) (x90_29j : Sl) (x90_29k : Sl) (x90_29l : Int), cellsAt (join ro ψ) (fun _ => none) ⟨x2_1, 0, none⟩ 0 [.int .i64 x90_29a, .int .i64 x90_29b, Sl.v x90_29c, .int .i64 x90_29d, Sl.v x90_29e, .int .i64 x90_29f, .int .i64 x90_29g, .int .i64 x90_29h, .int .i64 x90_29i, Sl.v x90_29j, Sl.v x90_29k, .int .i64 x90_29l] ∧
    ∃ (x88_30a : Int) (x88_30b : Int) (x88_30c : Sl) (x88_30d : Int) (x88_30e : Sl) (x88_30f : Int) (x88_30g : Int) (x88_30h : Int) (x88_30i : Int) (x88_30j : Sl) (x88_30k : Sl) (x88_30l : Int), cellsAt (join ro ψ) σ ⟨x13_26, 0, none⟩ 0 [.int .i64 x88_30a, .int .i64 x88_30b, Sl.v x88_30c, .int .i64 x88_30d, Sl.v x88_30e, .int .i64 x88_30f, .int .i64 x88_30g, .int .i64 x88_30h, .int .i64 x88_30i, Sl.v x88_30j, Sl.v x88_30k, .int .i64 x88_30l] ∧
    c_law17_reply B (join ro ψ) x88_30a x88_30b x88_30c x88_30d x88_30e x88_30f x88_30g x88_30h x88_30i x88_30j x88_30k x88_30l σ fun x89_31a x89_31b x89_31c x89_31d x89_31e x89_31f x89_31g x89_31h x89_31i x89_31j x89_31k x89_31l σ =>
    c_law17_reply B (join ro ψ) x90_29a x90_29b x90_29c x90_29d x90_29e x90_29f x90_29g x90_29h x90_29i x90_29j x90_29k x90_29l σ fun x91_32a x91_32b x91_32c x91_32d x91_32e x91_32f x91_32g x91_32h x91_32i x91_32j x91_32k x91_32l σ =>
    c_ref17_Same B (join ro ψ) x89_31a x89_31b x89_31c x89_31d x89_31e x89_31f x89_31g x89_31h x89_31i x89_31j x89_31k x89_31l x91_32a x91_32b x91_32c x91_32d x91_32e x91_32f x91_32g x91_32h x91_32i x91_32j x91_32k x91_32l σ fun x92_33 σ =>
    if x92_33 = true then
     c_law17_awake B (join ro ψ) σ fun x95_34 σ =>
     (Disj ψ σ → (fun σ => 
      j27_law17_StoreReplies B ro Q x95_34 σ) (join ψ σ))
    else
    (Disj ψ σ → (fun σ => 
     j27_law17_StoreReplies B ro Q false σ) (join ψ σ))
   else
   (Disj ψ σ → (fun σ => 
    j27_law17_StoreReplies B ro Q false σ) (join ψ σ))) [.int .i64 x82_24a, .int .i64 x82_24b, Sl.v x82_24c, .int .i64 x82_24d, Sl.v x82_24e, .int .i64 x82_24f, .int .i64 x82_24g, .int .i64 x82_24h, .int .i64 x82_24i, Sl.v x82_24j, Sl.v x82_24k, .int .i64 x82_24l] 0 σ

def j19_law17_StoreReplies (B : World) (ro : AH) (x2_1 : Nat) (x9_12 : Nat) (x11_15 : Nat) (x17_3 : Sl) (x23_8 : Bool) (x34_14 : Bool) (Q : Bool → AH → Prop) (x68_20 : Bool) (σ : AH) : Prop :=
 if x68_20 = true then
  Q false σ
 else
 lent σ fun ψ σ =>
  if x34_14 = true then
   ∃ (x73_35a : Int) (x73_35b : Int) (x73_35c : Sl) (x73_35d : Int) (x73_35e : Sl) (x73_35f : Int) (x73_35g : Int) (x73_35h : Int) (x73_35i : Int) (x73_35j : Sl) (x73_35k : Sl) (x73_35l : Int), cellsAt (join ro ψ) (fun _ => none) ⟨x11_15, 0, none⟩ 0 [.int .i64 x73_35a, .int .i64 x73_35b, Sl.v x73_35c, .int .i64 x73_35d, Sl.v x73_35e, .int .i64 x73_35f, .int .i64 x73_35g, .int .i64 x73_35h, .int .i64 x73_35i, Sl.v x73_35j, Sl.v x73_35k, .int .i64 x73_35l] ∧
   ∃ (x71_36a : Int) (x71_36b : Int) (x71_36c : Sl) (x71_36d : Int) (x71_36e : Sl) (x71_36f : Int) (x71_36g : Int) (x71_36h : Int) (x71_36i : Int) (x71_36j : Sl) (x71_36k : Sl) (x71_36l : Int), cellsAt (join ro ψ) σ ⟨x9_12, 0, none⟩ 0 [.int .i64 x71_36a, .int .i64 x71_36b, Sl.v x71_36c, .int .i64 x71_36d, Sl.v x71_36e, .int .i64 x71_36f, .int .i64 x71_36g, .int .i64 x71_36h, .int .i64 x71_36i, Sl.v x71_36j, Sl.v x71_36k, .int .i64 x71_36l] ∧
   c_law17_reply B (join ro ψ) x71_36a x71_36b x71_36c x71_36d x71_36e x71_36f x71_36g x71_36h x71_36i x71_36j x71_36k x71_36l σ fun x72_37a x72_37b x72_37c x72_37d x72_37e x72_37f x72_37g x72_37h x72_37i x72_37j x72_37k x72_37l σ =>
   c_ref17_Same B (join ro ψ) x72_37a x72_37b x72_37c x72_37d x72_37e x72_37f x72_37g x72_37h x72_37i x72_37j x72_37k x72_37l x73_35a x73_35b x73_35c x73_35d x73_35e x73_35f x73_35g x73_35h x73_35i x73_35j x73_35k x73_35l σ fun x74_38 σ =>
   (Disj ψ σ → (fun σ => 
    j21_law17_StoreReplies B ro x2_1 x17_3 x23_8 Q (!x74_38) σ) (join ψ σ))
  else
  (Disj ψ σ → (fun σ => 
   j21_law17_StoreReplies B ro x2_1 x17_3 x23_8 Q false σ) (join ψ σ))

def j17_law17_StoreReplies (B : World) (ro : AH) (x2_1 : Nat) (x9_12 : Nat) (x11_15 : Nat) (x17_3 : Sl) (x23_8 : Bool) (x29_11 : Int) (x34_14 : Bool) (Q : Bool → AH → Prop) (x54_18 : Bool) (σ : AH) : Prop :=
 if (x54_18 = true) ∨ (¬ (x34_14 = (decide (x29_11 = 0)))) then
  j19_law17_StoreReplies B ro x2_1 x9_12 x11_15 x17_3 x23_8 x34_14 Q true σ
 else
 j19_law17_StoreReplies B ro x2_1 x9_12 x11_15 x17_3 x23_8 x34_14 Q ((!x34_14) && (!(decide (x29_11 = 13)))) σ

def f_law17_StoreReplies (B : World) (ro : AH) (a0_0 : Int) (a0_1 : Int) (a0_2 : Sl) (a0_3 : Int) (a0_4 : Sl) (a0_5 : Int) (a0_6 : Int) (a0_7 : Int) (a0_8 : Int) (a0_9 : Sl) (a0_10 : Sl) (a0_11 : Int) (a1 : Sl) (σ : AH) (Q : Bool → AH → Prop) : Prop :=
 nw ro σ (.cells #[.int .i64 a0_0, .int .i64 a0_1, Sl.v a0_2, .int .i64 a0_3, Sl.v a0_4, .int .i64 a0_5, .int .i64 a0_6, .int .i64 a0_7, .int .i64 a0_8, Sl.v a0_9, Sl.v a0_10, .int .i64 a0_11] 30) fun x2_1 σ =>
 ∃ (x16_2a : Int) (x16_2b : Int) (x16_2c : Sl) (x16_2d : Int) (x16_2e : Sl) (x16_2f : Int) (x16_2g : Int) (x16_2h : Int) (x16_2i : Int) (x16_2j : Sl) (x16_2k : Sl) (x16_2l : Int), cellsAt ro σ ⟨x2_1, 0, none⟩ 0 [.int .i64 x16_2a, .int .i64 x16_2b, Sl.v x16_2c, .int .i64 x16_2d, Sl.v x16_2e, .int .i64 x16_2f, .int .i64 x16_2g, .int .i64 x16_2h, .int .i64 x16_2i, Sl.v x16_2j, Sl.v x16_2k, .int .i64 x16_2l] ∧
 c_store_PutReply B ro x16_2a x16_2b x16_2c x16_2d x16_2e x16_2f x16_2g x16_2h x16_2i x16_2j x16_2k x16_2l σ fun x17_3 x17_4 σ =>
 ∃ (x21_5a : Int) (x21_5b : Int) (x21_5c : Sl) (x21_5d : Int) (x21_5e : Sl) (x21_5f : Int) (x21_5g : Int) (x21_5h : Int) (x21_5i : Int) (x21_5j : Sl) (x21_5k : Sl) (x21_5l : Int), cellsAt ro σ ⟨x2_1, 0, none⟩ 0 [.int .i64 x21_5a, .int .i64 x21_5b, Sl.v x21_5c, .int .i64 x21_5d, Sl.v x21_5e, .int .i64 x21_5f, .int .i64 x21_5g, .int .i64 x21_5h, .int .i64 x21_5i, Sl.v x21_5j, Sl.v x21_5k, .int .i64 x21_5l] ∧
 c_law17_reply B ro x21_5a x21_5b x21_5c x21_5d x21_5e x21_5f x21_5g x21_5h x21_5i x21_5j x21_5k x21_5l σ fun x22_6a x22_6b x22_6c x22_6d x22_6e x22_6f x22_6g x22_6h x22_6i x22_6j x22_6k x22_6l σ =>
 c_ref17_PutReply B ro x22_6a x22_6b x22_6c x22_6d x22_6e x22_6f x22_6g x22_6h x22_6i x22_6j x22_6k x22_6l σ fun x23_7 x23_8 σ =>
 c_ref01_Copy B ro a1 σ fun x28_9 σ =>
 c_store_GetReply B ro x28_9 σ fun x29_10a x29_10b x29_10c x29_10d x29_10e x29_10f x29_10g x29_10h x29_10i x29_10j x29_10k x29_10l x29_11 σ =>
 nw ro σ (.cells #[.int .i64 0, .int .i64 0, Sl.v (⟨none, 0, 0⟩ : Sl), .int .i64 0, Sl.v (⟨none, 0, 0⟩ : Sl), .int .i64 0, .int .i64 0, .int .i64 0, .int .i64 0, Sl.v (⟨none, 0, 0⟩ : Sl), Sl.v (⟨none, 0, 0⟩ : Sl), .int .i64 0] 30) fun x9_12 σ =>
 stN ⟨x9_12, 0, none⟩ (fun σ =>
  c_ref17_GetReply B ro a1 σ fun x34_13a x34_13b x34_13c x34_13d x34_13e x34_13f x34_13g x34_13h x34_13i x34_13j x34_13k x34_13l x34_14 σ =>
  nw ro σ (.cells #[.int .i64 0, .int .i64 0, Sl.v (⟨none, 0, 0⟩ : Sl), .int .i64 0, Sl.v (⟨none, 0, 0⟩ : Sl), .int .i64 0, .int .i64 0, .int .i64 0, .int .i64 0, Sl.v (⟨none, 0, 0⟩ : Sl), Sl.v (⟨none, 0, 0⟩ : Sl), .int .i64 0] 39) fun x11_15 σ =>
  stN ⟨x11_15, 0, none⟩ (fun σ =>
   c_ref01_Same B ro x17_3 x23_7 σ fun x39_16 σ =>
   if (¬ (x39_16 = true)) ∨ (¬ (x23_8 = (decide (x17_4 = 0)))) then
    j17_law17_StoreReplies B ro x2_1 x9_12 x11_15 x17_3 x23_8 x29_11 x34_14 Q true σ
   else
   j17_law17_StoreReplies B ro x2_1 x9_12 x11_15 x17_3 x23_8 x29_11 x34_14 Q ((!x23_8) && (!(decide (x17_4 = 170)))) σ) [.int .i64 x34_13a, .int .i64 x34_13b, Sl.v x34_13c, .int .i64 x34_13d, Sl.v x34_13e, .int .i64 x34_13f, .int .i64 x34_13g, .int .i64 x34_13h, .int .i64 x34_13i, Sl.v x34_13j, Sl.v x34_13k, .int .i64 x34_13l] 0 σ) [.int .i64 x29_10a, .int .i64 x29_10b, Sl.v x29_10c, .int .i64 x29_10d, Sl.v x29_10e, .int .i64 x29_10f, .int .i64 x29_10g, .int .i64 x29_10h, .int .i64 x29_10i, Sl.v x29_10j, Sl.v x29_10k, .int .i64 x29_10l] 0 σ

set_option maxRecDepth 100000 in
set_option maxHeartbeats 4000000 in
theorem law17_StoreReplies_ok {B : World} {ro : AH} {a0_0 : Int} {a0_1 : Int} {a0_2 : Sl} {a0_3 : Int} {a0_4 : Sl} {a0_5 : Int} {a0_6 : Int} {a0_7 : Int} {a0_8 : Int} {a0_9 : Sl} {a0_10 : Sl} {a0_11 : Int} {a1 : Sl} {σ : AH} {Q : Bool → AH → Prop} (h : Sep ro σ → f_law17_StoreReplies B ro a0_0 a0_1 a0_2 a0_3 a0_4 a0_5 a0_6 a0_7 a0_8 a0_9 a0_10 a0_11 a1 σ Q) : c_law17_StoreReplies B ro a0_0 a0_1 a0_2 a0_3 a0_4 a0_5 a0_6 a0_7 a0_8 a0_9 a0_10 a0_11 a1 σ Q := by
  refine ACalls.of_sep fun hsep => ?_
  replace h := h hsep
  refine ACalls.of_body (args := [.agg #[.int .i64 a0_0, .int .i64 a0_1, Sl.v a0_2, .int .i64 a0_3, Sl.v a0_4, .int .i64 a0_5, .int .i64 a0_6, .int .i64 a0_7, .int .i64 a0_8, Sl.v a0_9, Sl.v a0_10, .int .i64 a0_11], Sl.v a1]) Tryz.func3 rfl (by rw [Tryz.ntmps3]; simp) ?_
  rw [Tryz.ntmps3]
  unfold f_law17_StoreReplies at h
  refine AW.seq ?_
  refine AW.reg ?_
  refine Ls rfl rfl (X_new (A_box rfl rfl) fun x2_1 g1 g2 => ?_)
  replace h := h x2_1 g1 g2
  refine Lp (V_asg rfl rfl) rfl rfl ?_
  refine Lnil ?_
  refine thenN ?_
  refine AW.seq ?_
  refine AW.reg ?_
  obtain ⟨x16_2a, x16_2b, x16_2c, x16_2d, x16_2e, x16_2f, x16_2g, x16_2h, x16_2i, x16_2j, x16_2k, x16_2l, hc, h⟩ := h
  refine Ls rfl rfl (X_lda rfl Tryz.underlying30 rfl ty30 rfl hc ?_)
  refine Ls rfl rfl (X_call rfl Tryz.func12 rfl rfl rfl (ACalls.mono h ?_))
  rintro v σ ⟨x17_3, x17_4, rfl, h⟩
  refine Lp (V_move rfl rfl) rfl rfl ?_
  refine Lp (V_ext rfl rfl rfl) rfl rfl ?_
  refine Lp (V_ext rfl rfl rfl) rfl rfl ?_
  refine Lp (V_asg rfl rfl) rfl rfl ?_
  refine Lp (V_asg rfl rfl) rfl rfl ?_
  refine Lnil ?_
  refine thenN ?_
  refine AW.seq ?_
  refine AW.reg ?_
  obtain ⟨x21_5a, x21_5b, x21_5c, x21_5d, x21_5e, x21_5f, x21_5g, x21_5h, x21_5i, x21_5j, x21_5k, x21_5l, hc, h⟩ := h
  refine Ls rfl rfl (X_lda rfl Tryz.underlying30 rfl ty30 rfl hc ?_)
  refine Ls rfl rfl (X_call rfl Tryz.func14 rfl rfl rfl (ACalls.mono h ?_))
  rintro v σ ⟨x22_6a, x22_6b, x22_6c, x22_6d, x22_6e, x22_6f, x22_6g, x22_6h, x22_6i, x22_6j, x22_6k, x22_6l, rfl, h⟩
  refine Ls rfl rfl (X_call rfl Tryz.func13 rfl rfl rfl (ACalls.mono h ?_))
  rintro v σ ⟨x23_7, x23_8, rfl, h⟩
  refine Lp (V_move rfl rfl) rfl rfl ?_
  refine Lp (V_ext rfl rfl rfl) rfl rfl ?_
  refine Lp (V_ext rfl rfl rfl) rfl rfl ?_
  refine Lp (V_asg rfl rfl) rfl rfl ?_
  refine Lp (V_asg rfl rfl) rfl rfl ?_
  refine Lnil ?_
  refine thenN ?_
  refine AW.seq ?_
  refine AW.reg ?_
  refine Lp (V_move rfl rfl) rfl rfl ?_
  refine Ls rfl rfl (X_call rfl Tryz.func16 rfl rfl rfl (ACalls.mono h ?_))
  rintro v σ ⟨x28_9, rfl, h⟩
  refine Ls rfl rfl (X_call rfl Tryz.func15 rfl rfl rfl (ACalls.mono h ?_))
  rintro v σ ⟨x29_10a, x29_10b, x29_10c, x29_10d, x29_10e, x29_10f, x29_10g, x29_10h, x29_10i, x29_10j, x29_10k, x29_10l, x29_11, rfl, h⟩
  refine Lp (V_move rfl rfl) rfl rfl ?_
  refine Lp (V_ext rfl rfl rfl) rfl rfl ?_
  refine Lp (V_ext rfl rfl rfl) rfl rfl ?_
  refine Ls rfl rfl (X_new (A_alloc rfl ty30) fun x9_12 g1 g2 => ?_)
  replace h := h x9_12 g1 g2
  refine Ls rfl rfl (X_st rfl ty30 rfl rfl rfl rfl (stN_mono h fun σ h => ?_))
  refine Lp (V_asg rfl rfl) rfl rfl ?_
  refine Lnil ?_
  refine thenN ?_
  refine AW.seq ?_
  refine AW.reg ?_
  refine Lp (V_move rfl rfl) rfl rfl ?_
  refine Ls rfl rfl (X_call rfl Tryz.func17 rfl rfl rfl (ACalls.mono h ?_))
  rintro v σ ⟨x34_13a, x34_13b, x34_13c, x34_13d, x34_13e, x34_13f, x34_13g, x34_13h, x34_13i, x34_13j, x34_13k, x34_13l, x34_14, rfl, h⟩
  refine Lp (V_move rfl rfl) rfl rfl ?_
  refine Lp (V_ext rfl rfl rfl) rfl rfl ?_
  refine Lp (V_ext rfl rfl rfl) rfl rfl ?_
  refine Ls rfl rfl (X_new (A_alloc rfl ty39) fun x11_15 g1 g2 => ?_)
  replace h := h x11_15 g1 g2
  refine Ls rfl rfl (X_st rfl ty39 rfl rfl rfl rfl (stN_mono h fun σ h => ?_))
  refine Lp (V_asg rfl rfl) rfl rfl ?_
  refine Lnil ?_
  refine thenN ?_
  refine AW.seq ?_
  refine AW.seq ?_
  refine AW.reg ?_
  refine Lp (V_move rfl rfl) rfl rfl ?_
  refine Lp (V_move rfl rfl) rfl rfl ?_
  refine Ls rfl rfl (X_call rfl Tryz.func18 rfl rfl rfl (ACalls.mono h ?_))
  rintro v σ ⟨x39_16, rfl, h⟩
  refine Lp (V_not rfl rfl) rfl rfl ?_
  refine Lp (V_move rfl rfl) rfl rfl ?_
  refine Lsplit 5 (!x39_16) [(2, .pointer (some ⟨x2_1, 0, none⟩)), (5, Sl.v x17_3), (6, .int .i64 x17_4), (8, .bool x23_8), (9, .pointer (some ⟨x9_12, 0, none⟩)), (10, .int .i64 x29_11), (11, .pointer (some ⟨x11_15, 0, none⟩)), (12, .bool x34_14), (46, .bool ((!x39_16) || (!(x23_8 == (decide (x17_4 = 0))))))] ?_ ?_ ?_
  · intro e4 hk4
    refine Ln rfl rfl rfl rfl (.inl (by rw [e4]; rfl)) ?_
    refine Ln rfl rfl rfl rfl (.inl (by rw [e4]; rfl)) ?_
    refine Ln rfl rfl rfl rfl (.inl (by rw [e4]; rfl)) ?_
    refine Ln rfl rfl rfl rfl (.inl (by rw [e4]; rfl)) ?_
    refine Lp (V_pickT rfl (evb e4) rfl) rfl rfl ?_
    exact hk4 _ (FrLe.cons rfl (FrLe.cons rfl (FrLe.cons rfl (FrLe.cons rfl (FrLe.cons rfl (FrLe.cons rfl (FrLe.cons rfl (FrLe.cons rfl (FrLe.cons (by rw [e4]; rfl) (FrLe.nil _))))))))))
  · intro e4 hk4
    refine Lypb (V_move rfl rfl) rfl rfl rfl rfl e4 ?_
    refine Lypb (V_move rfl rfl) rfl rfl rfl rfl e4 ?_
    refine Lypb (V_eql rfl rfl rfl) rfl rfl rfl rfl e4 ?_
    refine Lypb (V_neB rfl Tryz.underlying4 rfl rfl) rfl rfl rfl rfl e4 ?_
    refine Lp (V_pickF rfl (evb e4) rfl) rfl rfl ?_
    exact hk4 _ (FrLe.cons rfl (FrLe.cons rfl (FrLe.cons rfl (FrLe.cons rfl (FrLe.cons rfl (FrLe.cons rfl (FrLe.cons rfl (FrLe.cons rfl (FrLe.cons (by rw [e4]; rfl) (FrLe.nil _))))))))))
  intro fr hl
  refine Lfr hl ?_
  refine Lp (V_move rfl rfl) rfl rfl ?_
  refine LsplitJ 7 ((!x39_16) || (!(x23_8 == (decide (x17_4 = 0))))) (bor_iff (bnot_iff Iff.rfl) (bnot_iff beq_iff')) h (fun fr σ => ∃ (x54_18 : Bool), FrLe [(2, .pointer (some ⟨x2_1, 0, none⟩)), (5, Sl.v x17_3), (8, .bool x23_8), (9, .pointer (some ⟨x9_12, 0, none⟩)), (10, .int .i64 x29_11), (11, .pointer (some ⟨x11_15, 0, none⟩)), (12, .bool x34_14), (54, .bool x54_18)] fr ∧ j17_law17_StoreReplies B ro x2_1 x9_12 x11_15 x17_3 x23_8 x29_11 x34_14 Q x54_18 σ) ?_ ?_ ?_
  · intro h e10 hk10
    refine Ln rfl rfl rfl rfl (.inl (by rw [e10]; rfl)) ?_
    refine Ln rfl rfl rfl rfl (.inl (by rw [e10]; rfl)) ?_
    refine Ln rfl rfl rfl rfl (.inl (by rw [e10]; rfl)) ?_
    refine Ln rfl rfl rfl rfl (.inr rfl) ?_
    refine Ln rfl rfl rfl rfl (.inr rfl) ?_
    refine Ln rfl rfl rfl rfl (.inl (by rw [e10]; rfl)) ?_
    refine Lp (V_pickT rfl (evb e10) rfl) rfl rfl ?_
    exact hk10 _ _ ⟨_, (FrLe.cons rfl (FrLe.cons rfl (FrLe.cons rfl (FrLe.cons rfl (FrLe.cons rfl (FrLe.cons rfl (FrLe.cons rfl (FrLe.cons rfl (FrLe.nil _))))))))), h⟩
  · intro h e10 hk10
    refine Lypb (V_move rfl rfl) rfl rfl rfl rfl e10 ?_
    refine Lypb (V_not rfl rfl) rfl rfl rfl rfl e10 ?_
    refine Lypb (V_move rfl rfl) rfl rfl rfl rfl e10 ?_
    refine Lsplit 3 (!x23_8) [(2, .pointer (some ⟨x2_1, 0, none⟩)), (5, Sl.v x17_3), (8, .bool x23_8), (9, .pointer (some ⟨x9_12, 0, none⟩)), (10, .int .i64 x29_11), (11, .pointer (some ⟨x11_15, 0, none⟩)), (12, .bool x34_14), (47, .bool ((!x39_16) || (!(x23_8 == (decide (x17_4 = 0)))))), (53, .bool ((!x23_8) && (!(decide (x17_4 = 170)))))] ?_ ?_ ?_
    · intro e13 hk13
      refine Lypb (V_move rfl rfl) rfl rfl rfl rfl e13 ?_
      refine Lypb (V_neq rfl rfl rfl) rfl rfl rfl rfl e13 ?_
      refine Lypb (V_pickT rfl (evb e13) rfl) rfl rfl rfl rfl e10 ?_
      exact hk13 _ (FrLe.cons rfl (FrLe.cons rfl (FrLe.cons rfl (FrLe.cons rfl (FrLe.cons rfl (FrLe.cons rfl (FrLe.cons rfl (FrLe.cons rfl (FrLe.cons (by rw [e13]; rfl) (FrLe.nil _))))))))))
    · intro e13 hk13
      refine Ln rfl rfl rfl rfl (.inl (by rw [e13]; rfl)) ?_
      refine Ln rfl rfl rfl rfl (.inl (by rw [e13]; rfl)) ?_
      refine Lypb (V_pickF rfl (evb e13) rfl) rfl rfl rfl rfl e10 ?_
      exact hk13 _ (FrLe.cons rfl (FrLe.cons rfl (FrLe.cons rfl (FrLe.cons rfl (FrLe.cons rfl (FrLe.cons rfl (FrLe.cons rfl (FrLe.cons rfl (FrLe.cons (by rw [e13]; rfl) (FrLe.nil _))))))))))
    intro fr hl
    refine Lfr hl ?_
    refine Lp (V_pickF rfl (evb e10) rfl) rfl rfl ?_
    exact hk10 _ _ ⟨_, (FrLe.cons rfl (FrLe.cons rfl (FrLe.cons rfl (FrLe.cons rfl (FrLe.cons rfl (FrLe.cons rfl (FrLe.cons rfl (FrLe.cons rfl (FrLe.nil _))))))))), h⟩
  rintro fr σ ⟨x54_18, hl, h⟩
  unfold j17_law17_StoreReplies at h
  refine Lfr hl ?_
  refine Lp (V_move rfl rfl) rfl rfl ?_
  refine Lsplit 5 x54_18 [(2, .pointer (some ⟨x2_1, 0, none⟩)), (5, Sl.v x17_3), (8, .bool x23_8), (9, .pointer (some ⟨x9_12, 0, none⟩)), (10, .int .i64 x29_11), (11, .pointer (some ⟨x11_15, 0, none⟩)), (12, .bool x34_14), (60, .bool (x54_18 || (!(x34_14 == (decide (x29_11 = 0))))))] ?_ ?_ ?_
  · intro e18 hk18
    refine Ln rfl rfl rfl rfl (.inl (by rw [e18]; rfl)) ?_
    refine Ln rfl rfl rfl rfl (.inl (by rw [e18]; rfl)) ?_
    refine Ln rfl rfl rfl rfl (.inl (by rw [e18]; rfl)) ?_
    refine Ln rfl rfl rfl rfl (.inl (by rw [e18]; rfl)) ?_
    refine Lp (V_pickT rfl (evb e18) rfl) rfl rfl ?_
    exact hk18 _ (FrLe.cons rfl (FrLe.cons rfl (FrLe.cons rfl (FrLe.cons rfl (FrLe.cons rfl (FrLe.cons rfl (FrLe.cons rfl (FrLe.cons (by rw [e18]; rfl) (FrLe.nil _)))))))))
  · intro e18 hk18
    refine Lypb (V_move rfl rfl) rfl rfl rfl rfl e18 ?_
    refine Lypb (V_move rfl rfl) rfl rfl rfl rfl e18 ?_
    refine Lypb (V_eql rfl rfl rfl) rfl rfl rfl rfl e18 ?_
    refine Lypb (V_neB rfl Tryz.underlying4 rfl rfl) rfl rfl rfl rfl e18 ?_
    refine Lp (V_pickF rfl (evb e18) rfl) rfl rfl ?_
    exact hk18 _ (FrLe.cons rfl (FrLe.cons rfl (FrLe.cons rfl (FrLe.cons rfl (FrLe.cons rfl (FrLe.cons rfl (FrLe.cons rfl (FrLe.cons (by rw [e18]; rfl) (FrLe.nil _)))))))))
  intro fr hl
  refine Lfr hl ?_
  refine Lp (V_move rfl rfl) rfl rfl ?_
  refine LsplitJ 7 (x54_18 || (!(x34_14 == (decide (x29_11 = 0))))) (bor_iff Iff.rfl (bnot_iff beq_iff')) h (fun fr σ => ∃ (x68_20 : Bool), FrLe [(2, .pointer (some ⟨x2_1, 0, none⟩)), (5, Sl.v x17_3), (8, .bool x23_8), (9, .pointer (some ⟨x9_12, 0, none⟩)), (11, .pointer (some ⟨x11_15, 0, none⟩)), (12, .bool x34_14), (68, .bool x68_20)] fr ∧ j19_law17_StoreReplies B ro x2_1 x9_12 x11_15 x17_3 x23_8 x34_14 Q x68_20 σ) ?_ ?_ ?_
  · intro h e24 hk24
    refine Ln rfl rfl rfl rfl (.inl (by rw [e24]; rfl)) ?_
    refine Ln rfl rfl rfl rfl (.inl (by rw [e24]; rfl)) ?_
    refine Ln rfl rfl rfl rfl (.inl (by rw [e24]; rfl)) ?_
    refine Ln rfl rfl rfl rfl (.inr rfl) ?_
    refine Ln rfl rfl rfl rfl (.inr rfl) ?_
    refine Ln rfl rfl rfl rfl (.inl (by rw [e24]; rfl)) ?_
    refine Lp (V_pickT rfl (evb e24) rfl) rfl rfl ?_
    exact hk24 _ _ ⟨_, (FrLe.cons rfl (FrLe.cons rfl (FrLe.cons rfl (FrLe.cons rfl (FrLe.cons rfl (FrLe.cons rfl (FrLe.cons rfl (FrLe.nil _)))))))), h⟩
  · intro h e24 hk24
    refine Lypb (V_move rfl rfl) rfl rfl rfl rfl e24 ?_
    refine Lypb (V_not rfl rfl) rfl rfl rfl rfl e24 ?_
    refine Lypb (V_move rfl rfl) rfl rfl rfl rfl e24 ?_
    refine Lsplit 3 (!x34_14) [(2, .pointer (some ⟨x2_1, 0, none⟩)), (5, Sl.v x17_3), (8, .bool x23_8), (9, .pointer (some ⟨x9_12, 0, none⟩)), (11, .pointer (some ⟨x11_15, 0, none⟩)), (12, .bool x34_14), (61, .bool (x54_18 || (!(x34_14 == (decide (x29_11 = 0)))))), (67, .bool ((!x34_14) && (!(decide (x29_11 = 13)))))] ?_ ?_ ?_
    · intro e27 hk27
      refine Lypb (V_move rfl rfl) rfl rfl rfl rfl e27 ?_
      refine Lypb (V_neq rfl rfl rfl) rfl rfl rfl rfl e27 ?_
      refine Lypb (V_pickT rfl (evb e27) rfl) rfl rfl rfl rfl e24 ?_
      exact hk27 _ (FrLe.cons rfl (FrLe.cons rfl (FrLe.cons rfl (FrLe.cons rfl (FrLe.cons rfl (FrLe.cons rfl (FrLe.cons rfl (FrLe.cons (by rw [e27]; rfl) (FrLe.nil _)))))))))
    · intro e27 hk27
      refine Ln rfl rfl rfl rfl (.inl (by rw [e27]; rfl)) ?_
      refine Ln rfl rfl rfl rfl (.inl (by rw [e27]; rfl)) ?_
      refine Lypb (V_pickF rfl (evb e27) rfl) rfl rfl rfl rfl e24 ?_
      exact hk27 _ (FrLe.cons rfl (FrLe.cons rfl (FrLe.cons rfl (FrLe.cons rfl (FrLe.cons rfl (FrLe.cons rfl (FrLe.cons rfl (FrLe.cons (by rw [e27]; rfl) (FrLe.nil _)))))))))
    intro fr hl
    refine Lfr hl ?_
    refine Lp (V_pickF rfl (evb e24) rfl) rfl rfl ?_
    exact hk24 _ _ ⟨_, (FrLe.cons rfl (FrLe.cons rfl (FrLe.cons rfl (FrLe.cons rfl (FrLe.cons rfl (FrLe.cons rfl (FrLe.cons rfl (FrLe.nil _)))))))), h⟩
  rintro fr σ ⟨x68_20, hl, h⟩
  unfold j19_law17_StoreReplies at h
  refine Lfr hl ?_
  refine Lnil ?_
  refine thenN ?_
  refine AW.iff rfl Iff.rfl h (fun h => ?_) (fun h => ?_)
  · refine AW.seq ?_
    refine AW.reg ?_
    refine Lp (V_asg rfl rfl) rfl rfl ?_
    refine Lnil ?_
    refine thenN ?_
    refine AW.ret ?_
    refine thenR ?_
    exact bR1 Tryz.results3 rfl ⟨_, rfl, h⟩
  refine AW.skip ?_
  refine thenN ?_
  refine AW.seq ?_
  refine AW.seqJ (fun fr σ => ∃ (x76_22 : Bool), FrLe [(2, .pointer (some ⟨x2_1, 0, none⟩)), (5, Sl.v x17_3), (8, .bool x23_8), (76, .bool x76_22)] fr ∧ j21_law17_StoreReplies B ro x2_1 x17_3 x23_8 Q x76_22 σ) ?_ ?_
  rotate_left
  · refine AW.drawnL (fun i => ([0, 0, 3, 2, 0, 2, 0, 0] : List Nat).getD i 2) [(2, 3), (2, 5)] [0, 1, 4, 2, 3, 5, 6, 7] Tryz.mixed h (by decide +kernel) ?_
    clear h
    intro ψ σ h
    refine Dp rfl rfl rfl rfl (V_move rfl rfl) ?_
    refine Dp rfl rfl rfl rfl (V_move rfl rfl) ?_
    refine splitP x34_14 Iff.rfl h ?_ ?_
    rotate_left
    · intro h e1
      refine Dpn rfl rfl rfl rfl rfl (.inl (by rw [e1]; rfl)) rfl ?_
      refine Drn rfl rfl rfl rfl rfl (.inl (by rw [e1]; rfl)) rfl ?_
      refine Dgn rfl rfl rfl rfl rfl (.inl (by rw [e1]; rfl)) rfl ?_
      refine Dgn rfl rfl rfl rfl rfl (.inl (by rw [e1]; rfl)) rfl ?_
      refine Dpn rfl rfl rfl rfl rfl (.inl (by rw [e1]; rfl)) rfl ?_
      refine Dp rfl rfl rfl rfl (V_pickF rfl (evb e1) rfl) ?_
      refine ⟨_, FrEq.refl _, fun hdj => ?_⟩
      replace h := h hdj
      refine thenN ?_
      exact ⟨_, (FrLe.cons rfl (FrLe.cons rfl (FrLe.cons rfl (FrLe.cons rfl (FrLe.nil _))))), h⟩
    intro h e1
    obtain ⟨x73_35a, x73_35b, x73_35c, x73_35d, x73_35e, x73_35f, x73_35g, x73_35h, x73_35i, x73_35j, x73_35k, x73_35l, hc, h⟩ := h
    refine Dpy rfl rfl rfl rfl rfl e1 rfl (V_lda rfl Tryz.underlying39 rfl ty39 rfl hc) ?_
    obtain ⟨x71_36a, x71_36b, x71_36c, x71_36d, x71_36e, x71_36f, x71_36g, x71_36h, x71_36i, x71_36j, x71_36k, x71_36l, hc, h⟩ := h
    refine Dry rfl rfl rfl rfl rfl e1 rfl (R_lda rfl Tryz.underlying30 rfl ty30 rfl hc) ?_
    refine Dgy rfl rfl rfl rfl rfl e1 rfl (X_call rfl Tryz.func14 rfl rfl rfl (ACalls.mono h ?_))
    rintro v σ ⟨x72_37a, x72_37b, x72_37c, x72_37d, x72_37e, x72_37f, x72_37g, x72_37h, x72_37i, x72_37j, x72_37k, x72_37l, rfl, h⟩
    refine Dgy rfl rfl rfl rfl rfl e1 rfl (X_call rfl Tryz.func19 rfl rfl rfl (ACalls.mono h ?_))
    rintro v σ ⟨x74_38, rfl, h⟩
    refine Dpy rfl rfl rfl rfl rfl e1 rfl (V_not rfl rfl) ?_
    refine Dp rfl rfl rfl rfl (V_pickT rfl (evb e1) rfl) ?_
    refine ⟨_, FrEq.refl _, fun hdj => ?_⟩
    replace h := h hdj
    refine thenN ?_
    exact ⟨_, (FrLe.cons rfl (FrLe.cons rfl (FrLe.cons rfl (FrLe.cons rfl (FrLe.nil _))))), h⟩
  rintro fr σ ⟨x76_22, hl, h⟩
  refine AW.weaken ?_ hl (HLe.refl _)
  unfold j21_law17_StoreReplies at h
  refine AW.iff rfl Iff.rfl h (fun h => ?_) (fun h => ?_)
  · refine AW.seq ?_
    refine AW.reg ?_
    refine Lp (V_asg rfl rfl) rfl rfl ?_
    refine Lnil ?_
    refine thenN ?_
    refine AW.ret ?_
    refine thenR ?_
    exact bR1 Tryz.results3 rfl ⟨_, rfl, h⟩
  refine AW.skip ?_
  refine thenN ?_
  refine AW.seq ?_
  refine AW.seq ?_
  refine AW.reg ?_
  refine Lp (V_move rfl rfl) rfl rfl ?_
  refine Lp (V_not rfl rfl) rfl rfl ?_
  refine Lnil ?_
  refine thenN ?_
  refine AW.iff rfl (bnot_iff Iff.rfl) h (fun h => ?_) (fun h => ?_)
  · refine AW.seq ?_
    refine AW.reg ?_
    refine Ls rfl rfl (X_call rfl Tryz.func20 rfl rfl rfl (ACalls.mono h ?_))
    rintro v σ ⟨x79_23, rfl, h⟩
    refine Lp (V_asg rfl rfl) rfl rfl ?_
    refine Lnil ?_
    refine thenN ?_
    refine AW.ret ?_
    refine thenR ?_
    exact bR1 Tryz.results3 rfl ⟨_, rfl, h⟩
  refine AW.skip ?_
  refine thenN ?_
  refine AW.seq ?_
  refine AW.reg ?_
  refine Lp (V_move rfl rfl) rfl rfl ?_
  refine Ls rfl rfl (X_call rfl Tryz.func15 rfl rfl rfl (ACalls.mono h ?_))
  rintro v σ ⟨x82_24a, x82_24b, x82_24c, x82_24d, x82_24e, x82_24f, x82_24g, x82_24h, x82_24i, x82_24j, x82_24k, x82_24l, x82_25, rfl, h⟩
  refine Lp (V_move rfl rfl) rfl rfl ?_
  refine Lp (V_ext rfl rfl rfl) rfl rfl ?_
  refine Lp (V_ext rfl rfl rfl) rfl rfl ?_
  refine Ls rfl rfl (X_new (A_alloc rfl ty30) fun x13_26 g1 g2 => ?_)
  replace h := h x13_26 g1 g2
  refine Ls rfl rfl (X_st rfl ty30 rfl rfl rfl rfl (stN_mono h fun σ h => ?_))
  refine Lp (V_asg rfl rfl) rfl rfl ?_
  refine Lnil ?_
  refine thenN ?_
  refine AW.seqJ (fun fr σ => ∃ (x4_28 : Bool), FrLe [(4, .bool x4_28)] fr ∧ j27_law17_StoreReplies B ro Q x4_28 σ) ?_ ?_
  · rintro fr σ ⟨x4_28, hl, h⟩
    refine AW.weaken ?_ hl (HLe.refl _)
    unfold j27_law17_StoreReplies at h
    refine AW.ret ?_
    exact bR1 Tryz.results3 rfl ⟨_, rfl, h⟩
  refine AW.drawnL (fun i => ([0, 0, 0, 3, 2, 0, 2, 2, 0, 0, 2, 0, 0] : List Nat).getD i 2) [(3, 4), (3, 6), (3, 7), (3, 8), (3, 9), (3, 10), (4, 7), (4, 8), (4, 9), (4, 10), (6, 7), (6, 8), (6, 9), (6, 10), (7, 9), (7, 10)] [0, 1, 2, 5, 3, 4, 6, 7, 8, 9, 10, 11, 12] Tryz.mixed h (by decide +kernel) ?_
  clear h
  intro ψ σ h
  refine Dp rfl rfl rfl rfl (V_move rfl rfl) ?_
  refine Dp rfl rfl rfl rfl (V_eql rfl rfl rfl) ?_
  refine Dp rfl rfl rfl rfl (V_move rfl rfl) ?_
  refine splitP (decide (x82_25 = 0)) decide_eq_true_iff h ?_ ?_
  rotate_left
  · intro h e2
    refine Dpn rfl rfl rfl rfl rfl (.inl (by rw [e2]; rfl)) rfl ?_
    refine Drn rfl rfl rfl rfl rfl (.inl (by rw [e2]; rfl)) rfl ?_
    refine Dgn rfl rfl rfl rfl rfl (.inl (by rw [e2]; rfl)) rfl ?_
    refine Dgn rfl rfl rfl rfl rfl (.inl (by rw [e2]; rfl)) rfl ?_
    refine Dgn rfl rfl rfl rfl rfl (.inl (by rw [e2]; rfl)) rfl ?_
    refine Dp rfl rfl rfl rfl (V_pickF rfl (evb e2) rfl) ?_
    refine Dp rfl rfl rfl rfl (V_move rfl rfl) ?_
    refine Dgn rfl rfl rfl rfl rfl (.inl rfl) rfl ?_
    refine Dp rfl rfl rfl rfl (V_pickF rfl (evb rfl) rfl) ?_
    refine Dp rfl rfl rfl rfl (V_asg rfl rfl) ?_
    refine ⟨_, FrEq.refl _, fun hdj => ?_⟩
    replace h := h hdj
    refine thenN ?_
    exact ⟨_, (FrLe.cons rfl (FrLe.nil _)), h⟩
  intro h e2
  obtain ⟨x90_29a, x90_29b, x90_29c, x90_29d, x90_29e, x90_29f, x90_29g, x90_29h, x90_29i, x90_29j, x90_29k, x90_29l, hc, h⟩ := h
  refine Dpy rfl rfl rfl rfl rfl e2 rfl (V_lda rfl Tryz.underlying30 rfl ty30 rfl hc) ?_
  obtain ⟨x88_30a, x88_30b, x88_30c, x88_30d, x88_30e, x88_30f, x88_30g, x88_30h, x88_30i, x88_30j, x88_30k, x88_30l, hc, h⟩ := h
  refine Dry rfl rfl rfl rfl rfl e2 rfl (R_lda rfl Tryz.underlying30 rfl ty30 rfl hc) ?_
  refine Dgy rfl rfl rfl rfl rfl e2 rfl (X_call rfl Tryz.func14 rfl rfl rfl (ACalls.mono h ?_))
  rintro v σ ⟨x89_31a, x89_31b, x89_31c, x89_31d, x89_31e, x89_31f, x89_31g, x89_31h, x89_31i, x89_31j, x89_31k, x89_31l, rfl, h⟩
  refine Dgy rfl rfl rfl rfl rfl e2 rfl (X_call rfl Tryz.func14 rfl rfl rfl (ACalls.mono h ?_))
  rintro v σ ⟨x91_32a, x91_32b, x91_32c, x91_32d, x91_32e, x91_32f, x91_32g, x91_32h, x91_32i, x91_32j, x91_32k, x91_32l, rfl, h⟩
  refine Dgy rfl rfl rfl rfl rfl e2 rfl (X_call rfl Tryz.func19 rfl rfl rfl (ACalls.mono h ?_))
  rintro v σ ⟨x92_33, rfl, h⟩
  refine Dp rfl rfl rfl rfl (V_pickT rfl (evb e2) rfl) ?_
  refine Dp rfl rfl rfl rfl (V_move rfl rfl) ?_
  refine splitP x92_33 Iff.rfl h ?_ ?_
  rotate_left
  · intro h e9
    refine Dgn rfl rfl rfl rfl rfl (.inl (by rw [e9]; rfl)) rfl ?_
    refine Dp rfl rfl rfl rfl (V_pickF rfl (evb e9) rfl) ?_
    refine Dp rfl rfl rfl rfl (V_asg rfl rfl) ?_
    refine ⟨_, FrEq.refl _, fun hdj => ?_⟩
    replace h := h hdj
    refine thenN ?_
    exact ⟨_, (FrLe.cons rfl (FrLe.nil _)), h⟩
  intro h e9
  refine Dgy rfl rfl rfl rfl rfl e9 rfl (X_call rfl Tryz.func20 rfl rfl rfl (ACalls.mono h ?_))
  rintro v σ ⟨x95_34, rfl, h⟩
  refine Dp rfl rfl rfl rfl (V_pickT rfl (evb e9) rfl) ?_
  refine Dp rfl rfl rfl rfl (V_asg rfl rfl) ?_
  refine ⟨_, FrEq.refl _, fun hdj => ?_⟩
  replace h := h hdj
  refine thenN ?_
  exact ⟨_, (FrLe.cons rfl (FrLe.nil _)), h⟩

def j15_law17_reply (B : World) (ro : AH) (x2_2 : Nat) (x3_13 : Nat) (Q : Int → Int → Sl → Int → Sl → Int → Int → Int → Int → Sl → Sl → Int → AH → Prop) (σ : AH) : Prop :=
 ∃ (x72_16a : Int) (x72_16b : Int) (x72_16c : Sl) (x72_16d : Int) (x72_16e : Sl) (x72_16f : Int) (x72_16g : Int) (x72_16h : Int) (x72_16i : Int) (x72_16j : Sl) (x72_16k : Sl) (x72_16l : Int), cellsAt ro σ ⟨x3_13, 0, none⟩ 0 [.int .i64 x72_16a, .int .i64 x72_16b, Sl.v x72_16c, .int .i64 x72_16d, Sl.v x72_16e, .int .i64 x72_16f, .int .i64 x72_16g, .int .i64 x72_16h, .int .i64 x72_16i, Sl.v x72_16j, Sl.v x72_16k, .int .i64 x72_16l] ∧
 stN ⟨x2_2, 0, none⟩ (fun σ =>
  ∃ (x2_17a : Int) (x2_17b : Int) (x2_17c : Sl) (x2_17d : Int) (x2_17e : Sl) (x2_17f : Int) (x2_17g : Int) (x2_17h : Int) (x2_17i : Int) (x2_17j : Sl) (x2_17k : Sl) (x2_17l : Int), cellsAt ro σ ⟨x2_2, 0, none⟩ 0 [.int .i64 x2_17a, .int .i64 x2_17b, Sl.v x2_17c, .int .i64 x2_17d, Sl.v x2_17e, .int .i64 x2_17f, .int .i64 x2_17g, .int .i64 x2_17h, .int .i64 x2_17i, Sl.v x2_17j, Sl.v x2_17k, .int .i64 x2_17l] ∧
  Q x2_17a x2_17b x2_17c x2_17d x2_17e x2_17f x2_17g x2_17h x2_17i x2_17j x2_17k x2_17l σ) [.int .i64 x72_16a, .int .i64 x72_16b, Sl.v x72_16c, .int .i64 x72_16d, Sl.v x72_16e, .int .i64 x72_16f, .int .i64 x72_16g, .int .i64 x72_16h, .int .i64 x72_16i, Sl.v x72_16j, Sl.v x72_16k, .int .i64 x72_16l] 0 σ

def l19_law17_reply (B : World) (ro : AH) (x2_2 : Nat) (x3_13 : Nat) (x53_18 : Sl) (Q : Int → Int → Sl → Int → Sl → Int → Int → Int → Int → Sl → Sl → Int → AH → Prop) : (Int) → AH → ((Int) → AH → Prop) → Prop := fun x55_20 σ Y19 =>
 if x55_20 < (x53_18.len : Int) then
  ∃ p57_21 : Addr, x53_18.a = some p57_21 ∧ (0 : Int) ≤ x55_20 ∧ x55_20 < (x53_18.len : Int) ∧
  ∃ (x58_22a : Int) (x58_22b : Int) (x58_22c : ByteArray), cellsAt ro σ (p57_21.add (Int.toNat x55_20 * 3)) 0 [.int .i64 x58_22a, .int .i64 x58_22b, .string x58_22c] ∧
  nw ro σ (.cells #[.int .i64 0, .int .i64 0, .string ByteArray.empty] 132) fun x7_23 σ =>
  stN ⟨x7_23, 0, none⟩ (fun σ =>
   ∃ (x60_24 : Sl), acell ro σ ((⟨x3_13, 0, none⟩ : Addr).add 10) = some (Sl.v x60_24) ∧
   ∃ (x62_25 : Int), acell ro σ ⟨x7_23, 0, none⟩ = some (.int .i64 x62_25) ∧
   ∃ (x64_26 : Int), acell ro σ ((⟨x7_23, 0, none⟩ : Addr).add 1) = some (.int .i64 x64_26) ∧
   ∃ (x66_27 : ByteArray), acell ro σ ((⟨x7_23, 0, none⟩ : Addr).add 2) = some (.string x66_27) ∧
   nw ro σ (.cells #[.int .i64 x62_25, .int .i64 x64_26, .string x66_27] 139) fun x68_28 σ =>
   awp Tryz.prog ro (Builtin.append_ #[37, 37] 37 #[Sl.v x60_24, Sl.v (⟨some ⟨x68_28, 0, none⟩, 1, 1⟩ : Sl)]) (fun v σ => ∃ (x69_29 : Sl), v = Sl.v x69_29 ∧
    stN ((⟨x3_13, 0, none⟩ : Addr).add 10) (fun σ =>
     Y19 (IntKind.i64.wrap (x55_20 + 1)) σ) [Sl.v x69_29] 0 σ) σ) [.int .i64 x58_22a, .int .i64 x58_22b, .string x58_22c] 0 σ
 else
 j15_law17_reply B ro x2_2 x3_13 Q σ

def j14_law17_reply (B : World) (ro : AH) (x1_1 : Nat) (x2_2 : Nat) (x3_13 : Nat) (Q : Int → Int → Sl → Int → Sl → Int → Int → Int → Int → Sl → Sl → Int → AH → Prop) (σ : AH) : Prop :=
 ∃ (x53_18 : Sl), acell ro σ ((⟨x1_1, 0, none⟩ : Addr).add 10) = some (Sl.v x53_18) ∧
 lfpD (l19_law17_reply B ro x2_2 x3_13 x53_18 Q ) (0) σ

def l31_law17_reply (B : World) (ro : AH) (x1_1 : Nat) (x2_2 : Nat) (x3_13 : Nat) (x35_30 : Sl) (Q : Int → Int → Sl → Int → Sl → Int → Int → Int → Int → Sl → Sl → Int → AH → Prop) : (Int) → AH → ((Int) → AH → Prop) → Prop := fun x37_32 σ Y31 =>
 if x37_32 < (x35_30.len : Int) then
  ∃ p39_33 : Addr, x35_30.a = some p39_33 ∧ (0 : Int) ≤ x37_32 ∧ x37_32 < (x35_30.len : Int) ∧
  ∃ (x40_34a : ByteArray) (x40_34b : Int), cellsAt ro σ (p39_33.add (Int.toNat x37_32 * 2)) 0 [.string x40_34a, .int .i64 x40_34b] ∧
  nw ro σ (.cells #[.string ByteArray.empty, .int .i64 0] 128) fun x5_35 σ =>
  stN ⟨x5_35, 0, none⟩ (fun σ =>
   ∃ (x42_36 : Sl), acell ro σ ((⟨x3_13, 0, none⟩ : Addr).add 2) = some (Sl.v x42_36) ∧
   ∃ (x44_37 : ByteArray), acell ro σ ⟨x5_35, 0, none⟩ = some (.string x44_37) ∧
   ∃ (x46_38 : Int), acell ro σ ((⟨x5_35, 0, none⟩ : Addr).add 1) = some (.int .i64 x46_38) ∧
   nw ro σ (.cells #[.string x44_37, .int .i64 x46_38] 136) fun x48_39 σ =>
   awp Tryz.prog ro (Builtin.append_ #[35, 35] 35 #[Sl.v x42_36, Sl.v (⟨some ⟨x48_39, 0, none⟩, 1, 1⟩ : Sl)]) (fun v σ => ∃ (x49_40 : Sl), v = Sl.v x49_40 ∧
    stN ((⟨x3_13, 0, none⟩ : Addr).add 2) (fun σ =>
     Y31 (IntKind.i64.wrap (x37_32 + 1)) σ) [Sl.v x49_40] 0 σ) σ) [.string x40_34a, .int .i64 x40_34b] 0 σ
 else
 j14_law17_reply B ro x1_1 x2_2 x3_13 Q σ

def f_law17_reply (B : World) (ro : AH) (a0_0 : Int) (a0_1 : Int) (a0_2 : Sl) (a0_3 : Int) (a0_4 : Sl) (a0_5 : Int) (a0_6 : Int) (a0_7 : Int) (a0_8 : Int) (a0_9 : Sl) (a0_10 : Sl) (a0_11 : Int) (σ : AH) (Q : Int → Int → Sl → Int → Sl → Int → Int → Int → Int → Sl → Sl → Int → AH → Prop) : Prop :=
 nw ro σ (.cells #[.int .i64 a0_0, .int .i64 a0_1, Sl.v a0_2, .int .i64 a0_3, Sl.v a0_4, .int .i64 a0_5, .int .i64 a0_6, .int .i64 a0_7, .int .i64 a0_8, Sl.v a0_9, Sl.v a0_10, .int .i64 a0_11] 30) fun x1_1 σ =>
 nw ro σ (.cells #[.int .i64 0, .int .i64 0, Sl.v (⟨none, 0, 0⟩ : Sl), .int .i64 0, Sl.v (⟨none, 0, 0⟩ : Sl), .int .i64 0, .int .i64 0, .int .i64 0, .int .i64 0, Sl.v (⟨none, 0, 0⟩ : Sl), Sl.v (⟨none, 0, 0⟩ : Sl), .int .i64 0] 39) fun x2_2 σ =>
 ∃ (x9_3 : Int), acell ro σ ⟨x1_1, 0, none⟩ = some (.int .i64 x9_3) ∧
 ∃ (x11_4 : Int), acell ro σ ((⟨x1_1, 0, none⟩ : Addr).add 1) = some (.int .i64 x11_4) ∧
 ∃ (x13_5 : Int), acell ro σ ((⟨x1_1, 0, none⟩ : Addr).add 3) = some (.int .i64 x13_5) ∧
 ∃ (x15_6 : Sl), acell ro σ ((⟨x1_1, 0, none⟩ : Addr).add 4) = some (Sl.v x15_6) ∧
 ∃ (x18_7 : Int), acell ro σ ((⟨x1_1, 0, none⟩ : Addr).add 5) = some (.int .i64 x18_7) ∧
 ∃ (x21_8 : Int), acell ro σ (((⟨x1_1, 0, none⟩ : Addr).add 5).add 1) = some (.int .i64 x21_8) ∧
 ∃ (x24_9 : Int), acell ro σ (((⟨x1_1, 0, none⟩ : Addr).add 5).add 2) = some (.int .i64 x24_9) ∧
 ∃ (x27_10 : Int), acell ro σ (((⟨x1_1, 0, none⟩ : Addr).add 5).add 3) = some (.int .i64 x27_10) ∧
 ∃ (x30_11 : Sl), acell ro σ ((⟨x1_1, 0, none⟩ : Addr).add 9) = some (Sl.v x30_11) ∧
 ∃ (x32_12 : Int), acell ro σ ((⟨x1_1, 0, none⟩ : Addr).add 11) = some (.int .i64 x32_12) ∧
 nw ro σ (.cells #[.int .i64 0, .int .i64 0, Sl.v (⟨none, 0, 0⟩ : Sl), .int .i64 0, Sl.v (⟨none, 0, 0⟩ : Sl), .int .i64 0, .int .i64 0, .int .i64 0, .int .i64 0, Sl.v (⟨none, 0, 0⟩ : Sl), Sl.v (⟨none, 0, 0⟩ : Sl), .int .i64 0] 39) fun x3_13 σ =>
 stN ⟨x3_13, 0, none⟩ (fun σ =>
  ∃ (x35_30 : Sl), acell ro σ ((⟨x1_1, 0, none⟩ : Addr).add 2) = some (Sl.v x35_30) ∧
  lfpD (l31_law17_reply B ro x1_1 x2_2 x3_13 x35_30 Q ) (0) σ) [.int .i64 x9_3, .int .i64 x11_4, Sl.v (⟨none, 0, 0⟩ : Sl), .int .i64 x13_5, Sl.v x15_6, .int .i64 x18_7, .int .i64 x21_8, .int .i64 x24_9, .int .i64 x27_10, Sl.v x30_11, Sl.v (⟨none, 0, 0⟩ : Sl), .int .i64 x32_12] 0 σ

set_option maxRecDepth 100000 in
set_option maxHeartbeats 4000000 in
theorem law17_reply_ok {B : World} {ro : AH} {a0_0 : Int} {a0_1 : Int} {a0_2 : Sl} {a0_3 : Int} {a0_4 : Sl} {a0_5 : Int} {a0_6 : Int} {a0_7 : Int} {a0_8 : Int} {a0_9 : Sl} {a0_10 : Sl} {a0_11 : Int} {σ : AH} {Q : Int → Int → Sl → Int → Sl → Int → Int → Int → Int → Sl → Sl → Int → AH → Prop} (h : Sep ro σ → f_law17_reply B ro a0_0 a0_1 a0_2 a0_3 a0_4 a0_5 a0_6 a0_7 a0_8 a0_9 a0_10 a0_11 σ Q) : c_law17_reply B ro a0_0 a0_1 a0_2 a0_3 a0_4 a0_5 a0_6 a0_7 a0_8 a0_9 a0_10 a0_11 σ Q := by
  refine ACalls.of_sep fun hsep => ?_
  replace h := h hsep
  refine ACalls.of_body (args := [.agg #[.int .i64 a0_0, .int .i64 a0_1, Sl.v a0_2, .int .i64 a0_3, Sl.v a0_4, .int .i64 a0_5, .int .i64 a0_6, .int .i64 a0_7, .int .i64 a0_8, Sl.v a0_9, Sl.v a0_10, .int .i64 a0_11]]) Tryz.func14 rfl (by rw [Tryz.ntmps14]; simp) ?_
  rw [Tryz.ntmps14]
  unfold f_law17_reply at h
  refine AW.seq ?_
  refine AW.reg ?_
  refine Ls rfl rfl (X_new (A_box rfl rfl) fun x1_1 g1 g2 => ?_)
  replace h := h x1_1 g1 g2
  refine Ls rfl rfl (X_new (A_alloc rfl ty39) fun x2_2 g1 g2 => ?_)
  replace h := h x2_2 g1 g2
  refine Lnil ?_
  refine thenN ?_
  refine AW.seq ?_
  refine AW.reg ?_
  refine Lp (V_fld rfl Tryz.underlying30 rfl ty22 (by decide) rfl) rfl rfl ?_
  obtain ⟨x9_3, hc, h⟩ := h
  refine Ls rfl rfl (X_ld rfl Tryz.underlying22 rfl rfl hc ?_)
  refine Lp (V_fld rfl Tryz.underlying30 rfl ty3 (by decide) rfl) rfl rfl ?_
  obtain ⟨x11_4, hc, h⟩ := h
  refine Ls rfl rfl (X_ld rfl Tryz.underlying3 rfl rfl hc ?_)
  refine Lp (V_fld rfl Tryz.underlying30 rfl ty3 (by decide) rfl) rfl rfl ?_
  obtain ⟨x13_5, hc, h⟩ := h
  refine Ls rfl rfl (X_ld rfl Tryz.underlying3 rfl rfl hc ?_)
  refine Lp (V_fld rfl Tryz.underlying30 rfl ty24 (by decide) rfl) rfl rfl ?_
  obtain ⟨x15_6, hc, h⟩ := h
  refine Ls rfl rfl (X_ld rfl Tryz.underlying24 rfl rfl hc ?_)
  refine Lp (V_fld rfl Tryz.underlying30 rfl ty26 (by decide) rfl) rfl rfl ?_
  refine Lp (V_fld rfl Tryz.underlying26 rfl ty3 (by decide) rfl) rfl rfl ?_
  obtain ⟨x18_7, hc, h⟩ := h
  refine Ls rfl rfl (X_ld rfl Tryz.underlying3 rfl rfl hc ?_)
  refine Lp (V_fld rfl Tryz.underlying30 rfl ty26 (by decide) rfl) rfl rfl ?_
  refine Lp (V_fld rfl Tryz.underlying26 rfl ty3 (by decide) rfl) rfl rfl ?_
  obtain ⟨x21_8, hc, h⟩ := h
  refine Ls rfl rfl (X_ld rfl Tryz.underlying3 rfl rfl hc ?_)
  refine Lp (V_fld rfl Tryz.underlying30 rfl ty26 (by decide) rfl) rfl rfl ?_
  refine Lp (V_fld rfl Tryz.underlying26 rfl ty3 (by decide) rfl) rfl rfl ?_
  obtain ⟨x24_9, hc, h⟩ := h
  refine Ls rfl rfl (X_ld rfl Tryz.underlying3 rfl rfl hc ?_)
  refine Lp (V_fld rfl Tryz.underlying30 rfl ty26 (by decide) rfl) rfl rfl ?_
  refine Lp (V_fld rfl Tryz.underlying26 rfl ty3 (by decide) rfl) rfl rfl ?_
  obtain ⟨x27_10, hc, h⟩ := h
  refine Ls rfl rfl (X_ld rfl Tryz.underlying3 rfl rfl hc ?_)
  refine Lp (V_bldA (vs := [(0, .int .i64 x18_7), (1, .int .i64 x21_8), (2, .int .i64 x24_9), (3, .int .i64 x27_10)]) (cs := #[.int .i64 x18_7, .int .i64 x21_8, .int .i64 x24_9, .int .i64 x27_10]) rfl Tryz.underlying36 ty36 ty3 rfl rfl) rfl rfl ?_
  refine Lp (V_fld rfl Tryz.underlying30 rfl ty27 (by decide) rfl) rfl rfl ?_
  obtain ⟨x30_11, hc, h⟩ := h
  refine Ls rfl rfl (X_ld rfl Tryz.underlying27 rfl rfl hc ?_)
  refine Lp (V_fld rfl Tryz.underlying30 rfl ty3 (by decide) rfl) rfl rfl ?_
  obtain ⟨x32_12, hc, h⟩ := h
  refine Ls rfl rfl (X_ld rfl Tryz.underlying3 rfl rfl hc ?_)
  refine Lp (V_bld (vs := [(0, .int .i64 x9_3), (1, .int .i64 x11_4), (3, .int .i64 x13_5), (4, Sl.v x15_6), (5, .agg #[.int .i64 x18_7, .int .i64 x21_8, .int .i64 x24_9, .int .i64 x27_10]), (6, Sl.v x30_11), (8, .int .i64 x32_12)]) (cs := #[.int .i64 x9_3, .int .i64 x11_4, Sl.v (⟨none, 0, 0⟩ : Sl), .int .i64 x13_5, Sl.v x15_6, .int .i64 x18_7, .int .i64 x21_8, .int .i64 x24_9, .int .i64 x27_10, Sl.v x30_11, Sl.v (⟨none, 0, 0⟩ : Sl), .int .i64 x32_12]) rfl Tryz.underlying39 ty39 pl39 rfl (by kernel_rfl)) rfl rfl ?_
  refine Ls rfl rfl (X_new (A_alloc rfl ty39) fun x3_13 g1 g2 => ?_)
  replace h := h x3_13 g1 g2
  refine Ls rfl rfl (X_st rfl ty39 rfl rfl rfl rfl (stN_mono h fun σ h => ?_))
  refine Lnil ?_
  refine thenN ?_
  refine AW.seqJ (fun fr σ => FrLe [(1, .pointer (some ⟨x1_1, 0, none⟩)), (2, .pointer (some ⟨x2_2, 0, none⟩)), (3, .pointer (some ⟨x3_13, 0, none⟩))] fr ∧ j14_law17_reply B ro x1_1 x2_2 x3_13 Q σ) ?_ ?_
  rotate_left
  · refine AW.seq ?_
    refine AW.reg ?_
    refine Lp (V_fld rfl Tryz.underlying30 rfl ty23 (by decide) rfl) rfl rfl ?_
    obtain ⟨x35_30, hc, h⟩ := h
    refine Ls rfl rfl (X_ld rfl Tryz.underlying23 rfl rfl hc ?_)
    refine Lp (V_lenL rfl rfl Tryz.underlying23 rfl rfl) rfl rfl ?_
    refine Lp (V_move rfl rfl) rfl rfl ?_
    refine Lnil ?_
    refine thenN ?_
    refine AW.block ?_
    refine ARound.loop (fr' := [(1, .pointer (some ⟨x1_1, 0, none⟩)), (2, .pointer (some ⟨x2_2, 0, none⟩)), (3, .pointer (some ⟨x3_13, 0, none⟩)), (35, Sl.v x35_30), (36, .int .i64 (x35_30.len : Int)), (37, .int .i64 0)]) ?_ (FrLe.cons rfl (FrLe.cons rfl (FrLe.cons rfl (FrLe.cons rfl (FrLe.cons rfl (FrLe.cons rfl (FrLe.nil _)))))))
    refine h (fun x37_32 σ => ARound _ _ _ _ _ _ [(1, .pointer (some ⟨x1_1, 0, none⟩)), (2, .pointer (some ⟨x2_2, 0, none⟩)), (3, .pointer (some ⟨x3_13, 0, none⟩)), (35, Sl.v x35_30), (36, .int .i64 (x35_30.len : Int)), (37, .int .i64 x37_32)] σ) ?_
    rintro x37_32 σ Y31 hY31 h
    show AW _ _ _ _ _ _ _ _
    unfold l31_law17_reply at h
    refine AW.seq ?_
    refine AW.reg ?_
    refine Lp (V_lss rfl rfl rfl) rfl rfl ?_
    refine Lnil ?_
    refine thenN ?_
    refine AW.seq ?_
    refine AW.iff rfl decide_eq_true_iff h (fun h => ?_) (fun h => ?_)
    rotate_left
    · refine AW.exit ?_
      refine thenE ?_
      refine thenE ?_
      refine blockE ?_
      refine thenN ?_
      exact ⟨(FrLe.cons rfl (FrLe.cons rfl (FrLe.cons rfl (FrLe.nil _)))), h⟩
    refine AW.skip ?_
    refine thenN ?_
    refine AW.seq ?_
    refine AW.block ?_
    refine AW.seq ?_
    refine AW.reg ?_
    obtain ⟨p39_33, ha, h0, h1, h⟩ := h
    refine Lp (V_ixA rfl Tryz.underlying23 ty128 (ixL rfl ha) rfl h0 h1) rfl rfl ?_
    obtain ⟨x40_34a, x40_34b, hc, h⟩ := h
    refine Ls rfl rfl (X_lda rfl Tryz.underlying128 rfl ty128 rfl hc ?_)
    refine Ls rfl rfl (X_new (A_alloc rfl ty128) fun x5_35 g1 g2 => ?_)
    replace h := h x5_35 g1 g2
    refine Ls rfl rfl (X_st rfl ty128 rfl rfl rfl rfl (stN_mono h fun σ h => ?_))
    refine Lnil ?_
    refine thenN ?_
    refine AW.reg ?_
    refine Lp (V_fld rfl Tryz.underlying39 rfl ty35 (by decide) rfl) rfl rfl ?_
    obtain ⟨x42_36, hc, h⟩ := h
    refine Ls rfl rfl (X_ld rfl Tryz.underlying35 rfl rfl hc ?_)
    refine Lp (V_fld rfl Tryz.underlying128 rfl ty9 (by decide) rfl) rfl rfl ?_
    obtain ⟨x44_37, hc, h⟩ := h
    refine Ls rfl rfl (X_ld rfl Tryz.underlying9 rfl rfl hc ?_)
    refine Lp (V_fld rfl Tryz.underlying128 rfl ty3 (by decide) rfl) rfl rfl ?_
    obtain ⟨x46_38, hc, h⟩ := h
    refine Ls rfl rfl (X_ld rfl Tryz.underlying3 rfl rfl hc ?_)
    refine Lp (V_bld (vs := [(0, .string x44_37), (1, .int .i64 x46_38)]) (cs := #[.string x44_37, .int .i64 x46_38]) rfl Tryz.underlying136 ty136 pl136 rfl rfl) rfl rfl ?_
    refine Ls rfl rfl (X_new (A_bsl (vs := [(0, .agg #[.string x44_37, .int .i64 x46_38])]) (cs := #[.string x44_37, .int .i64 x46_38]) rfl Tryz.underlying35 ty136 (by decide) rfl rfl) fun x48_39 g1 g2 => ?_)
    replace h := h x48_39 g1 g2
    refine Ls rfl rfl (X_bi (s := Builtin.append_ #[35, 35] 35 #[Sl.v x42_36, Sl.v (⟨some ⟨x48_39, 0, none⟩, 1, 1⟩ : Sl)]) rfl rfl (fun _ => rfl) (awp_mono _ h ?_))
    rintro v σ ⟨x49_40, rfl, h⟩
    refine Lp (V_fld rfl Tryz.underlying39 rfl ty35 (by decide) rfl) rfl rfl ?_
    refine Ls rfl rfl (X_st rfl ty35 rfl rfl rfl rfl (stN_mono h fun σ h => ?_))
    refine Lnil ?_
    refine blockN ?_
    refine thenN ?_
    refine AW.reg ?_
    refine Lp (V_add rfl rfl rfl) rfl rfl ?_
    refine Lp (V_move rfl rfl) rfl rfl ?_
    refine Lnil ?_
    refine thenN ?_
    refine ARound.head (fr' := [(1, .pointer (some ⟨x1_1, 0, none⟩)), (2, .pointer (some ⟨x2_2, 0, none⟩)), (3, .pointer (some ⟨x3_13, 0, none⟩)), (35, Sl.v x35_30), (36, .int .i64 (x35_30.len : Int)), (37, .int .i64 (IntKind.i64.wrap (x37_32 + 1)))]) ?_ (FrLe.cons rfl (FrLe.cons rfl (FrLe.cons rfl (FrLe.cons rfl (FrLe.cons rfl (FrLe.cons rfl (FrLe.nil _)))))))
    exact hY31 _ _ h
  rintro fr σ ⟨hl, h⟩
  refine AW.weaken ?_ hl (HLe.refl _)
  unfold j14_law17_reply at h
  refine AW.seqJ (fun fr σ => FrLe [(2, .pointer (some ⟨x2_2, 0, none⟩)), (3, .pointer (some ⟨x3_13, 0, none⟩))] fr ∧ j15_law17_reply B ro x2_2 x3_13 Q σ) ?_ ?_
  · rintro fr σ ⟨hl, h⟩
    refine AW.weaken ?_ hl (HLe.refl _)
    unfold j15_law17_reply at h
    refine AW.seq ?_
    refine AW.reg ?_
    obtain ⟨x72_16a, x72_16b, x72_16c, x72_16d, x72_16e, x72_16f, x72_16g, x72_16h, x72_16i, x72_16j, x72_16k, x72_16l, hc, h⟩ := h
    refine Ls rfl rfl (X_lda rfl Tryz.underlying39 rfl ty39 rfl hc ?_)
    refine Ls rfl rfl (X_st rfl ty39 rfl rfl rfl rfl (stN_mono h fun σ h => ?_))
    refine Lnil ?_
    refine thenN ?_
    refine AW.ret ?_
    obtain ⟨x2_17a, x2_17b, x2_17c, x2_17d, x2_17e, x2_17f, x2_17g, x2_17h, x2_17i, x2_17j, x2_17k, x2_17l, hc0, h⟩ := h
    exact bRM1 Tryz.results14 (rCons (rAgg rfl Tryz.underlying39 rfl ty39 hc0) rNil) ⟨_, _, _, _, _, _, _, _, _, _, _, _, rfl, h⟩
  refine AW.seq ?_
  refine AW.reg ?_
  refine Lp (V_fld rfl Tryz.underlying30 rfl ty28 (by decide) rfl) rfl rfl ?_
  obtain ⟨x53_18, hc, h⟩ := h
  refine Ls rfl rfl (X_ld rfl Tryz.underlying28 rfl rfl hc ?_)
  refine Lp (V_lenL rfl rfl Tryz.underlying28 rfl rfl) rfl rfl ?_
  refine Lp (V_move rfl rfl) rfl rfl ?_
  refine Lnil ?_
  refine thenN ?_
  refine AW.block ?_
  refine ARound.loop (fr' := [(2, .pointer (some ⟨x2_2, 0, none⟩)), (3, .pointer (some ⟨x3_13, 0, none⟩)), (53, Sl.v x53_18), (54, .int .i64 (x53_18.len : Int)), (55, .int .i64 0)]) ?_ (FrLe.cons rfl (FrLe.cons rfl (FrLe.cons rfl (FrLe.cons rfl (FrLe.cons rfl (FrLe.nil _))))))
  refine h (fun x55_20 σ => ARound _ _ _ _ _ _ [(2, .pointer (some ⟨x2_2, 0, none⟩)), (3, .pointer (some ⟨x3_13, 0, none⟩)), (53, Sl.v x53_18), (54, .int .i64 (x53_18.len : Int)), (55, .int .i64 x55_20)] σ) ?_
  rintro x55_20 σ Y19 hY19 h
  show AW _ _ _ _ _ _ _ _
  unfold l19_law17_reply at h
  refine AW.seq ?_
  refine AW.reg ?_
  refine Lp (V_lss rfl rfl rfl) rfl rfl ?_
  refine Lnil ?_
  refine thenN ?_
  refine AW.seq ?_
  refine AW.iff rfl decide_eq_true_iff h (fun h => ?_) (fun h => ?_)
  rotate_left
  · refine AW.exit ?_
    refine thenE ?_
    refine thenE ?_
    refine blockE ?_
    refine thenN ?_
    exact ⟨(FrLe.cons rfl (FrLe.cons rfl (FrLe.nil _))), h⟩
  refine AW.skip ?_
  refine thenN ?_
  refine AW.seq ?_
  refine AW.block ?_
  refine AW.seq ?_
  refine AW.reg ?_
  obtain ⟨p57_21, ha, h0, h1, h⟩ := h
  refine Lp (V_ixA rfl Tryz.underlying28 ty132 (ixL rfl ha) rfl h0 h1) rfl rfl ?_
  obtain ⟨x58_22a, x58_22b, x58_22c, hc, h⟩ := h
  refine Ls rfl rfl (X_lda rfl Tryz.underlying132 rfl ty132 rfl hc ?_)
  refine Ls rfl rfl (X_new (A_alloc rfl ty132) fun x7_23 g1 g2 => ?_)
  replace h := h x7_23 g1 g2
  refine Ls rfl rfl (X_st rfl ty132 rfl rfl rfl rfl (stN_mono h fun σ h => ?_))
  refine Lnil ?_
  refine thenN ?_
  refine AW.reg ?_
  refine Lp (V_fld rfl Tryz.underlying39 rfl ty37 (by decide) rfl) rfl rfl ?_
  obtain ⟨x60_24, hc, h⟩ := h
  refine Ls rfl rfl (X_ld rfl Tryz.underlying37 rfl rfl hc ?_)
  refine Lp (V_fld rfl Tryz.underlying132 rfl ty3 (by decide) rfl) rfl rfl ?_
  obtain ⟨x62_25, hc, h⟩ := h
  refine Ls rfl rfl (X_ld rfl Tryz.underlying3 rfl rfl hc ?_)
  refine Lp (V_fld rfl Tryz.underlying132 rfl ty3 (by decide) rfl) rfl rfl ?_
  obtain ⟨x64_26, hc, h⟩ := h
  refine Ls rfl rfl (X_ld rfl Tryz.underlying3 rfl rfl hc ?_)
  refine Lp (V_fld rfl Tryz.underlying132 rfl ty9 (by decide) rfl) rfl rfl ?_
  obtain ⟨x66_27, hc, h⟩ := h
  refine Ls rfl rfl (X_ld rfl Tryz.underlying9 rfl rfl hc ?_)
  refine Lp (V_bld (vs := [(0, .int .i64 x62_25), (1, .int .i64 x64_26), (2, .string x66_27)]) (cs := #[.int .i64 x62_25, .int .i64 x64_26, .string x66_27]) rfl Tryz.underlying139 ty139 pl139 rfl rfl) rfl rfl ?_
  refine Ls rfl rfl (X_new (A_bsl (vs := [(0, .agg #[.int .i64 x62_25, .int .i64 x64_26, .string x66_27])]) (cs := #[.int .i64 x62_25, .int .i64 x64_26, .string x66_27]) rfl Tryz.underlying37 ty139 (by decide) rfl rfl) fun x68_28 g1 g2 => ?_)
  replace h := h x68_28 g1 g2
  refine Ls rfl rfl (X_bi (s := Builtin.append_ #[37, 37] 37 #[Sl.v x60_24, Sl.v (⟨some ⟨x68_28, 0, none⟩, 1, 1⟩ : Sl)]) rfl rfl (fun _ => rfl) (awp_mono _ h ?_))
  rintro v σ ⟨x69_29, rfl, h⟩
  refine Lp (V_fld rfl Tryz.underlying39 rfl ty37 (by decide) rfl) rfl rfl ?_
  refine Ls rfl rfl (X_st rfl ty37 rfl rfl rfl rfl (stN_mono h fun σ h => ?_))
  refine Lnil ?_
  refine blockN ?_
  refine thenN ?_
  refine AW.reg ?_
  refine Lp (V_add rfl rfl rfl) rfl rfl ?_
  refine Lp (V_move rfl rfl) rfl rfl ?_
  refine Lnil ?_
  refine thenN ?_
  refine ARound.head (fr' := [(2, .pointer (some ⟨x2_2, 0, none⟩)), (3, .pointer (some ⟨x3_13, 0, none⟩)), (53, Sl.v x53_18), (54, .int .i64 (x53_18.len : Int)), (55, .int .i64 (IntKind.i64.wrap (x55_20 + 1)))]) ?_ (FrLe.cons rfl (FrLe.cons rfl (FrLe.cons rfl (FrLe.cons rfl (FrLe.cons rfl (FrLe.nil _))))))
  exact hY19 _ _ h

def j11_law17_awake (B : World) (ro : AH) (Q : Bool → AH → Prop) (x40_12 : Bool) (σ : AH) : Prop :=
 Q x40_12 σ

def j9_law17_awake (B : World) (ro : AH) (x6_2 : Option Addr) (Q : Bool → AH → Prop) (x32_10 : Bool) (σ : AH) : Prop :=
 if x32_10 = true then
  ∃ p35_13 : Addr, x6_2 = some p35_13 ∧
  c_store_quorum_Members B ro (some p35_13) σ fun x37_14 σ =>
  j11_law17_awake B ro Q (decide ((x37_14.len : Int) = 3)) σ
 else
 j11_law17_awake B ro Q false σ

def j7_law17_awake (B : World) (ro : AH) (x6_2 : Option Addr) (Q : Bool → AH → Prop) (x25_8 : Bool) (σ : AH) : Prop :=
 if x25_8 = true then
  ∃ p28_15 : Addr, x6_2 = some p28_15 ∧
  c_store_quorum_Epoch B ro (some p28_15) σ fun x30_16 σ =>
  j9_law17_awake B ro x6_2 Q (decide (x30_16 = 0)) σ
 else
 j9_law17_awake B ro x6_2 Q false σ

def f_law17_awake (B : World) (ro : AH) (σ : AH) (Q : Bool → AH → Prop) : Prop :=
 nw ro σ (.cells #[.int .i64 0, .int .i64 1, .int .i64 2] 3) fun x5_1 σ =>
 c_store_New B ro (⟨some ⟨x5_1, 0, none⟩, 3, 3⟩ : Sl) σ fun x6_2 x6_3 σ =>
 if (x6_2 = none) ∨ (¬ (x6_3 = 0)) then
  Q false σ
 else
 c_store_Store_Apply B ro x6_2 1 (⟨#[97]⟩ : ByteArray) 0 0 5 100 0 0 (⟨none, 0, 0⟩ : Sl) ByteArray.empty false 0 (⟨none, 0, 0⟩ : Sl) σ fun x17_4a x17_4b x17_4c x17_4d x17_4e x17_4f x17_4g x17_4h x17_4i x17_4j x17_4k x17_4l σ =>
 nw ro σ (.cells #[.int .i64 0, .int .i64 0, Sl.v (⟨none, 0, 0⟩ : Sl), .int .i64 0, Sl.v (⟨none, 0, 0⟩ : Sl), .int .i64 0, .int .i64 0, .int .i64 0, .int .i64 0, Sl.v (⟨none, 0, 0⟩ : Sl), Sl.v (⟨none, 0, 0⟩ : Sl), .int .i64 0] 30) fun x3_5 σ =>
 stN ⟨x3_5, 0, none⟩ (fun σ =>
  ∃ (x19_6 : Int), acell ro σ ⟨x3_5, 0, none⟩ = some (.int .i64 x19_6) ∧
  if x19_6 = 0 then
   ∃ (x23_17 : Int), acell ro σ ((⟨x3_5, 0, none⟩ : Addr).add 1) = some (.int .i64 x23_17) ∧
   j7_law17_awake B ro x6_2 Q (decide (x23_17 = 1)) σ
  else
  j7_law17_awake B ro x6_2 Q false σ) [.int .i64 x17_4a, .int .i64 x17_4b, Sl.v x17_4c, .int .i64 x17_4d, Sl.v x17_4e, .int .i64 x17_4f, .int .i64 x17_4g, .int .i64 x17_4h, .int .i64 x17_4i, Sl.v x17_4j, Sl.v x17_4k, .int .i64 x17_4l] 0 σ

set_option maxRecDepth 100000 in
set_option maxHeartbeats 4000000 in
theorem law17_awake_ok {B : World} {ro : AH} {σ : AH} {Q : Bool → AH → Prop} (h : Sep ro σ → f_law17_awake B ro σ Q) : c_law17_awake B ro σ Q := by
  refine ACalls.of_sep fun hsep => ?_
  replace h := h hsep
  refine ACalls.of_body (args := []) Tryz.func20 rfl (by rw [Tryz.ntmps20]; simp) ?_
  rw [Tryz.ntmps20]
  unfold f_law17_awake at h
  refine AW.seq ?_
  refine AW.reg ?_
  refine Lp (V_asg rfl rfl) rfl rfl ?_
  refine Lnil ?_
  refine thenN ?_
  refine AW.seq ?_
  refine AW.reg ?_
  refine Ls rfl rfl (X_new (A_bsl (vs := [(0, .int .i64 0), (1, .int .i64 1), (2, .int .i64 2)]) (cs := #[.int .i64 0, .int .i64 1, .int .i64 2]) rfl Tryz.underlying55 ty3 (by decide) rfl rfl) fun x5_1 g1 g2 => ?_)
  replace h := h x5_1 g1 g2
  refine Ls rfl rfl (X_call rfl Tryz.func21 rfl rfl rfl (ACalls.mono h ?_))
  rintro v σ ⟨x6_2, x6_3, rfl, h⟩
  refine Lp (V_move rfl rfl) rfl rfl ?_
  refine Lp (V_ext rfl rfl rfl) rfl rfl ?_
  refine Lp (V_ext rfl rfl rfl) rfl rfl ?_
  refine Lp (V_asg rfl rfl) rfl rfl ?_
  refine Lp (V_asg rfl rfl) rfl rfl ?_
  refine Lnil ?_
  refine thenN ?_
  refine AW.seq ?_
  refine AW.seq ?_
  refine AW.reg ?_
  refine Lp (V_move rfl rfl) rfl rfl ?_
  refine Lp (V_eqP rfl Tryz.underlying51 rfl rfl) rfl rfl ?_
  refine Lp (V_move rfl rfl) rfl rfl ?_
  refine Lsplit 3 x6_2.isNone [(1, .pointer x6_2), (14, .bool (x6_2.isNone || (!(decide (x6_3 = 0)))))] ?_ ?_ ?_
  · intro e2 hk2
    refine Ln rfl rfl rfl rfl (.inl (by rw [e2]; rfl)) ?_
    refine Ln rfl rfl rfl rfl (.inl (by rw [e2]; rfl)) ?_
    refine Lp (V_pickT rfl (evb e2) rfl) rfl rfl ?_
    exact hk2 _ (FrLe.cons rfl (FrLe.cons (by rw [e2]; rfl) (FrLe.nil _)))
  · intro e2 hk2
    refine Lypb (V_move rfl rfl) rfl rfl rfl rfl e2 ?_
    refine Lypb (V_neq rfl rfl rfl) rfl rfl rfl rfl e2 ?_
    refine Lp (V_pickF rfl (evb e2) rfl) rfl rfl ?_
    exact hk2 _ (FrLe.cons rfl (FrLe.cons (by rw [e2]; rfl) (FrLe.nil _)))
  intro fr hl
  refine Lfr hl ?_
  refine Lnil ?_
  refine thenN ?_
  refine AW.iff rfl (bor_iff isNone_iff (bnot_iff decide_eq_true_iff)) h (fun h => ?_) (fun h => ?_)
  · refine AW.seq ?_
    refine AW.reg ?_
    refine Lp (V_asg rfl rfl) rfl rfl ?_
    refine Lnil ?_
    refine thenN ?_
    refine AW.ret ?_
    refine thenR ?_
    exact bR1 Tryz.results20 rfl ⟨_, rfl, h⟩
  refine AW.skip ?_
  refine thenN ?_
  refine AW.seq ?_
  refine AW.reg ?_
  refine Lp (V_move rfl rfl) rfl rfl ?_
  refine Lp (V_bld (vs := [(0, .int .i64 1), (1, .string (⟨#[97]⟩ : ByteArray)), (4, .int .i64 5), (5, .int .i64 100)]) (cs := #[.int .i64 1, .string (⟨#[97]⟩ : ByteArray), .int .i64 0, .int .i64 0, .int .i64 5, .int .i64 100, .int .i64 0, .int .i64 0, Sl.v (⟨none, 0, 0⟩ : Sl), .string ByteArray.empty, .bool false, .int .i64 0, Sl.v (⟨none, 0, 0⟩ : Sl)]) rfl Tryz.underlying57 ty57 pl57 rfl (by kernel_rfl)) rfl rfl ?_
  refine Ls rfl rfl (X_call rfl Tryz.func22 rfl rfl rfl (ACalls.mono h ?_))
  rintro v σ ⟨x17_4a, x17_4b, x17_4c, x17_4d, x17_4e, x17_4f, x17_4g, x17_4h, x17_4i, x17_4j, x17_4k, x17_4l, rfl, h⟩
  refine Ls rfl rfl (X_new (A_alloc rfl ty30) fun x3_5 g1 g2 => ?_)
  replace h := h x3_5 g1 g2
  refine Ls rfl rfl (X_st rfl ty30 rfl rfl rfl rfl (stN_mono h fun σ h => ?_))
  refine Lnil ?_
  refine thenN ?_
  refine AW.seq ?_
  refine AW.reg ?_
  refine Lp (V_fld rfl Tryz.underlying30 rfl ty22 (by decide) rfl) rfl rfl ?_
  obtain ⟨x19_6, hc, h⟩ := h
  refine Ls rfl rfl (X_ld rfl Tryz.underlying22 rfl rfl hc ?_)
  refine Lp (V_eql rfl rfl rfl) rfl rfl ?_
  refine Lp (V_move rfl rfl) rfl rfl ?_
  refine LsplitJ 4 (decide (x19_6 = 0)) decide_eq_true_iff h (fun fr σ => ∃ (x25_8 : Bool), FrLe [(1, .pointer x6_2), (25, .bool x25_8)] fr ∧ j7_law17_awake B ro x6_2 Q x25_8 σ) ?_ ?_ ?_
  · intro h e3 hk3
    refine Lypb (V_fld rfl Tryz.underlying30 rfl ty3 (by decide) rfl) rfl rfl rfl rfl e3 ?_
    obtain ⟨x23_17, hc, h⟩ := h
    refine Lyb rfl rfl rfl rfl e3 (X_ld rfl Tryz.underlying3 rfl rfl hc ?_)
    refine Lypb (V_eql rfl rfl rfl) rfl rfl rfl rfl e3 ?_
    refine Lp (V_pickT rfl (evb e3) rfl) rfl rfl ?_
    exact hk3 _ _ ⟨_, (FrLe.cons rfl (FrLe.cons rfl (FrLe.nil _))), h⟩
  · intro h e3 hk3
    refine Ln rfl rfl rfl rfl (.inl (by rw [e3]; rfl)) ?_
    refine Ln rfl rfl rfl rfl (.inl (by rw [e3]; rfl)) ?_
    refine Ln rfl rfl rfl rfl (.inl (by rw [e3]; rfl)) ?_
    refine Lp (V_pickF rfl (evb e3) rfl) rfl rfl ?_
    exact hk3 _ _ ⟨_, (FrLe.cons rfl (FrLe.cons rfl (FrLe.nil _))), h⟩
  rintro fr σ ⟨x25_8, hl, h⟩
  unfold j7_law17_awake at h
  refine Lfr hl ?_
  refine Lp (V_move rfl rfl) rfl rfl ?_
  refine LsplitJ 6 x25_8 Iff.rfl h (fun fr σ => ∃ (x32_10 : Bool), FrLe [(1, .pointer x6_2), (32, .bool x32_10)] fr ∧ j9_law17_awake B ro x6_2 Q x32_10 σ) ?_ ?_ ?_
  · intro h e8 hk8
    refine Lypb (V_move rfl rfl) rfl rfl rfl rfl e8 ?_
    obtain ⟨p28_15, hc, h⟩ := h
    refine Lypb (V_nil rfl (by rw [← hc]; rfl)) rfl rfl rfl rfl e8 ?_
    refine Lypb (V_fld rfl Tryz.underlying153 rfl ty149 (by decide) rfl) rfl rfl rfl rfl e8 ?_
    refine Lyb rfl rfl rfl rfl e8 (X_call rfl Tryz.func62 rfl rfl rfl (ACalls.mono h ?_))
    rintro v σ ⟨x30_16, rfl, h⟩
    refine Lypb (V_eql rfl rfl rfl) rfl rfl rfl rfl e8 ?_
    refine Lp (V_pickT rfl (evb e8) rfl) rfl rfl ?_
    exact hk8 _ _ ⟨_, (FrLe.cons rfl (FrLe.cons rfl (FrLe.nil _))), h⟩
  · intro h e8 hk8
    refine Ln rfl rfl rfl rfl (.inl (by rw [e8]; rfl)) ?_
    refine Ln rfl rfl rfl rfl (.inl (by rw [e8]; rfl)) ?_
    refine Ln rfl rfl rfl rfl (.inl (by rw [e8]; rfl)) ?_
    refine Ln rfl rfl rfl rfl (.inl (by rw [e8]; rfl)) ?_
    refine Ln rfl rfl rfl rfl (.inl (by rw [e8]; rfl)) ?_
    refine Lp (V_pickF rfl (evb e8) rfl) rfl rfl ?_
    exact hk8 _ _ ⟨_, (FrLe.cons rfl (FrLe.cons rfl (FrLe.nil _))), h⟩
  rintro fr σ ⟨x32_10, hl, h⟩
  unfold j9_law17_awake at h
  refine Lfr hl ?_
  refine Lp (V_move rfl rfl) rfl rfl ?_
  refine LsplitJ 7 x32_10 Iff.rfl h (fun fr σ => ∃ (x40_12 : Bool), FrLe [(40, .bool x40_12)] fr ∧ j11_law17_awake B ro Q x40_12 σ) ?_ ?_ ?_
  · intro h e15 hk15
    refine Lypb (V_move rfl rfl) rfl rfl rfl rfl e15 ?_
    obtain ⟨p35_13, hc, h⟩ := h
    refine Lypb (V_nil rfl (by rw [← hc]; rfl)) rfl rfl rfl rfl e15 ?_
    refine Lypb (V_fld rfl Tryz.underlying153 rfl ty149 (by decide) rfl) rfl rfl rfl rfl e15 ?_
    refine Lyb rfl rfl rfl rfl e15 (X_call rfl Tryz.func63 rfl rfl rfl (ACalls.mono h ?_))
    rintro v σ ⟨x37_14, rfl, h⟩
    refine Lypb (V_lenL rfl rfl Tryz.underlying55 rfl rfl) rfl rfl rfl rfl e15 ?_
    refine Lypb (V_eql rfl rfl rfl) rfl rfl rfl rfl e15 ?_
    refine Lp (V_pickT rfl (evb e15) rfl) rfl rfl ?_
    exact hk15 _ _ ⟨_, (FrLe.cons rfl (FrLe.nil _)), h⟩
  · intro h e15 hk15
    refine Ln rfl rfl rfl rfl (.inl (by rw [e15]; rfl)) ?_
    refine Ln rfl rfl rfl rfl (.inl (by rw [e15]; rfl)) ?_
    refine Ln rfl rfl rfl rfl (.inl (by rw [e15]; rfl)) ?_
    refine Ln rfl rfl rfl rfl (.inl (by rw [e15]; rfl)) ?_
    refine Ln rfl rfl rfl rfl (.inl (by rw [e15]; rfl)) ?_
    refine Ln rfl rfl rfl rfl (.inl (by rw [e15]; rfl)) ?_
    refine Lp (V_pickF rfl (evb e15) rfl) rfl rfl ?_
    exact hk15 _ _ ⟨_, (FrLe.cons rfl (FrLe.nil _)), h⟩
  rintro fr σ ⟨x40_12, hl, h⟩
  unfold j11_law17_awake at h
  refine Lfr hl ?_
  refine Lp (V_asg rfl rfl) rfl rfl ?_
  refine Lnil ?_
  refine thenN ?_
  refine AW.ret ?_
  exact bR1 Tryz.results20 rfl ⟨_, rfl, h⟩

end Go.Proofs.YtomdigihapdhnaaGreatDoor.G

/- Replies: the law's own copy, the document's comparison; calls as pure ones. -/
namespace Go.Proofs.YtomdigihapdhnaaGreatDoor.Zt
open Go Go.Proofs.YtomdigihapdhnaaGreatDoor.SL Go.Proofs.YtomdigihapdhnaaGreatDoor.G Go.Proofs.YtomdigihapdhnaaGreatDoor.Pa Go.Proofs.YtomdigihapdhnaaGreatDoor.Wi
set_option linter.unusedSimpArgs false
set_option linter.unusedVariables false
set_option maxRecDepth 100000
variable {B : World} {ro σ σ' : AH} {tag tag' : Nat → Nat}

theorem hle_of (st : ∀ R, Step R ro tag σ tag' σ') : HLe σ σ' := fun c o hc => ((st []).keep c o hc (by simp)).2
theorem putReply_f {rs ds ns es : Sl} {x : Rep} {Q : Sl → Int → AH → Prop} (hx : RepD ro σ rs ds ns es x) (hsm : Sm20 x) (hb : -9223372036854775808 ≤ x.bad)
    (hno : putRep x = none → ∀ tag' σ', (∀ R, Step R ro tag σ tag' σ') → Q ⟨none, 0, 0⟩ 170 σ')
    (hyes : ∀ b, putRep x = some b → ∀ s tag' σ', (∀ R, Step R ro tag σ tag' σ') → Row tag' σ' 6 5 s (b.map vU) → Q s 0 σ') : c_store_PutReply B ro x.code x.session rs x.bad ds x.ver x.ctr x.own x.kids ns es x.epoch σ Q :=
  putReply_ok (tag := T7) (fun tag' σ' st => hx.hle (st.hle (by decide))) hsm hb (fun h tag' σ' st => hno h _ σ' (st.mix (by decide) tag)) fun b h s tag' σ' st r => hyes b h s _ σ' (st.mix (by decide) tag) (r.mix st (by decide) tag)
theorem getReply_f {a0 : Sl} {b : Str} {Q : Int → Int → Sl → Int → Sl → Int → Int → Int → Int → Sl → Sl → Int → Int → AH → Prop} (h : SL.Read ro σ a0 (b.map vU)) (hl : b.length ≤ 140737488355328)
    (hno : getRep b = none → ∀ tag' σ', (∀ R, Step R ro tag σ tag' σ') → Q 0 0 ⟨none, 0, 0⟩ 0 ⟨none, 0, 0⟩ 0 0 0 0 ⟨none, 0, 0⟩ ⟨none, 0, 0⟩ 0 13 σ')
    (hyes : ∀ x, getRep b = some x → ∀ rs ds ns es tag' σ', (∀ R, Step R ro tag σ tag' σ') → RepAt tag' σ' 9 rs ds ns es x → Q x.code x.session rs x.bad ds x.ver x.ctr x.own x.kids ns es x.epoch 0 σ') : c_store_GetReply B ro a0 σ Q :=
  getReply_ok (tag := T7) (q := 9) (by decide) (by decide) (by decide) h hl (fun hn tag' σ' st => hno hn _ σ' (st.mix (by decide) tag)) fun x hx rs ds ns es tag' σ' st r =>
    hyes x hx rs ds ns es _ σ' (st.mix (by decide) tag) ⟨SL.RowW.mix r.res st (by decide) tag, r.data.mix st (by decide) tag, r.names.mix st (by decide) tag, SL.RowW.mix r.evs st (by decide) tag⟩

/-! what is read is small -/
theorem rnum_rest (r : Rd) : (rnum r).2.rest.length ≤ r.rest.length := by
  unfold rnum
  split
  · exact Nat.le_refl _
  · simp
theorem rblob_rest (r : Rd) : (rblob r).2.rest.length ≤ r.rest.length ∧ (rblob r).1.length ≤ r.rest.length := by
  by_cases h : (rblob r).2.err = 0
  · have e := congrArg List.length (rblob_split h).2
    unfold blob at e
    simp only [List.length_append] at e
    omega
  · have h1 := rblob_fst_err h
    rw [h1]
    refine ⟨?_, by simp⟩
    unfold rblob at h ⊢
    have := rnum_rest r
    split
    · exact this
    · split
      · exact Nat.le_refl _
      · simp only [List.length_drop]; omega
theorem gres_rest {m : Nat} : ∀ (n : Nat) (r : Rd), r.rest.length ≤ m → (gres n r).2.rest.length ≤ m ∧ ∀ y ∈ (gres n r).1, y.1.length ≤ m
  | 0, r, h => ⟨h, fun y hy => by cases hy⟩
  | n + 1, r, h => by
    have h1 := rblob_rest r
    have h2 := rnum_rest (rblob r).2
    obtain ⟨i1, i2⟩ := gres_rest (m := m) n (rnum (rblob r).2).2 (by omega)
    unfold gres
    refine ⟨i1, fun y hy => ?_⟩
    rcases List.mem_cons.1 hy with rfl | hy
    · simp only; omega
    · exact i2 y hy
theorem gnames_rest {m : Nat} : ∀ (n : Nat) (r : Rd), r.rest.length ≤ m → (gnames n r).2.rest.length ≤ m ∧ ∀ y ∈ (gnames n r).1, y.length ≤ m
  | 0, r, h => ⟨h, fun y hy => by cases hy⟩
  | n + 1, r, h => by
    have h1 := rblob_rest r
    obtain ⟨i1, i2⟩ := gnames_rest (m := m) n (rblob r).2 (by omega)
    unfold gnames
    refine ⟨i1, fun y hy => ?_⟩
    rcases List.mem_cons.1 hy with rfl | hy
    · omega
    · exact i2 y hy
theorem gevs_rest {m : Nat} : ∀ (n : Nat) (r : Rd), r.rest.length ≤ m → (gevs n r).2.rest.length ≤ m ∧ ∀ y ∈ (gevs n r).1, y.2.2.length ≤ m
  | 0, r, h => ⟨h, fun y hy => by cases hy⟩
  | n + 1, r, h => by
    have h0 := rnum_rest r
    have h1 := rnum_rest (rnum r).2
    have h2 := rblob_rest (rnum (rnum r).2).2
    obtain ⟨i1, i2⟩ := gevs_rest (m := m) n (rblob (rnum (rnum r).2).2).2 (by omega)
    unfold gevs
    refine ⟨i1, fun y hy => ?_⟩
    rcases List.mem_cons.1 hy with rfl | hy
    · simp only; omega
    · exact i2 y hy
theorem getRep_sm {b : Str} {x : Rep} (h : getRep b = some x) (hb : b.length ≤ 1048576) : Sm20 x := by
  unfold getRep at h
  split at h
  · cases h
  cases h
  unfold readRep
  simp only
  have a1 := rnum_rest ⟨b, 0⟩
  have a2 := rnum_rest (rnum ⟨b, 0⟩).2
  have a3 := rnum_rest (rnum (rnum ⟨b, 0⟩).2).2
  simp only at a1
  generalize rnum (rnum (rnum ⟨b, 0⟩).2).2 = A3 at *
  obtain ⟨g1, g2⟩ := gres_rest (m := 1048576) (min A3.1 16) A3.2 (by omega)
  generalize gres (min A3.1 16) A3.2 = A4 at *
  have a5 := rnum_rest A4.2
  generalize rnum A4.2 = A5 at *
  have a6 := rblob_rest A5.2
  generalize rblob A5.2 = A6 at *
  have a7 := rnum_rest A6.2
  generalize rnum A6.2 = A7 at *
  have a8 := rnum_rest A7.2
  generalize rnum A7.2 = A8 at *
  have a9 := rnum_rest A8.2
  generalize rnum A8.2 = A9 at *
  have b0 := rnum_rest A9.2
  generalize rnum A9.2 = B0 at *
  have b1 := rnum_rest B0.2
  generalize rnum B0.2 = B1 at *
  obtain ⟨n1, n2⟩ := gnames_rest (m := 1048576) (min B1.1 4096) B1.2 (by omega)
  generalize gnames (min B1.1 4096) B1.2 = B2 at *
  have b3 := rnum_rest B2.2
  generalize rnum B2.2 = B3 at *
  obtain ⟨v1, v2⟩ := gevs_rest (m := 1048576) (min B3.1 32) B3.2 (by omega)
  exact ⟨by simp only; omega, g2, n2, v2⟩
theorem Sm20.small {x : Rep} (h : Sm20 x) : SmallR x := ⟨by have := h.data; omega, fun y hy => by have := h.res y hy; omega, fun y hy => by have := h.names y hy; omega, fun y hy => by have := h.evs y hy; omega⟩

/-! the law's copy of a reply -/
abbrev CL : List Nat := [0, 2, 3, 4, 9, 11]
set_option maxHeartbeats 2000000 in
theorem lreply_ok {rs ds ns es : Sl} {x : Rep} {Q : Int → Int → Sl → Int → Sl → Int → Int → Int → Int → Sl → Sl → Int → AH → Prop} (hx : RepD ro σ rs ds ns es x) (h1 : x.results.length ≤ 1099511627776) (h3 : x.events.length ≤ 1099511627776)
    (hQ : ∀ rs' es' tag' σ', (∀ R, Step R ro tag σ tag' σ') → RepD ro σ' rs' ds ns es' x → Q x.code x.session rs' x.bad ds x.ver x.ctr x.own x.kids ns es' x.epoch σ') : c_law17_reply B ro x.code x.session rs x.bad ds x.ver x.ctr x.own x.kids ns es x.epoch σ Q := by
  refine law17_reply_ok fun hs => ?_
  unfold f_law17_reply
  have lr : rs.len = x.results.length := by rw [hx.res.1, List.length_map]
  have le : es.len = x.events.length := by rw [hx.evs.1, List.length_map]
  refine nw_cells (tag := T7) 2 hs fun X tag1 σ1 st1 x1 => ?_
  refine nw_cells (tag := tag1) 3 (st1 []).sep fun Y tag2 σ2 st2 y2 => ?_
  have x2 := x1.keep (st2 []) (by simp)
  obtain ⟨p, hp, hg⟩ := x2.ptr (st2 []).sep (by simp)
  cases hp
  refine ⟨x.code, by simpa using hg 0 _ rfl, x.session, hg 1 _ rfl, x.bad, hg 3 _ rfl, ds, hg 4 _ rfl, x.ver, hg 5 _ rfl, x.ctr, by rw [add_add']; exact hg 6 _ rfl, x.own, by rw [add_add']; exact hg 7 _ rfl, x.kids, by rw [add_add']; exact hg 8 _ rfl, ns, hg 9 _ rfl, x.epoch, hg 11 _ rfl, ?_⟩
  refine nw_st (tag := tag2) 4 (st2 []).sep rfl (by simp [storable, Sl.v]) fun Z tag3 σ3 st3 z3 => ?_
  have x3 := x2.keep (st3 []) (by simp)
  have y3 := y2.keep (st3 []) (by simp)
  have s3 : StepS CL ro T7 σ tag3 σ3 := ((st1 []).s (by simp)).trans (((st2 []).s (by simp)).trans ((st3 []).s (by simp)))
  obtain ⟨p, hp, hg⟩ := x3.ptr (st3 []).sep (by simp)
  cases hp
  refine ⟨rs, hg 2 _ rfl, ?_⟩
  have d7 : ∀ {tag2 σ2}, StepS CL ro T7 σ tag2 σ2 → RepD ro σ2 rs ds ns es x := fun s2 => hx.hle (s2.hle (by decide))
  have last : ∀ (rs' es' : Sl) tag4 σ4, StepS CL ro T7 σ tag4 σ4 → Row tag4 σ4 3 39 ⟨some ⟨Y, 0, none⟩, 12, 12⟩ [vI 0, vI 0, Sl.v ⟨none, 0, 0⟩, vI 0, Sl.v ⟨none, 0, 0⟩, vI 0, vI 0, vI 0, vI 0, Sl.v ⟨none, 0, 0⟩, Sl.v ⟨none, 0, 0⟩, vI 0] →
      Row tag4 σ4 4 39 ⟨some ⟨Z, 0, none⟩, 12, 12⟩ [vI x.code, vI x.session, Sl.v rs', vI x.bad, Sl.v ds, vI x.ver, vI x.ctr, vI x.own, vI x.kids, Sl.v ns, Sl.v es', vI x.epoch] → RowW tag4 σ4 9 136 2 rs' (x.results.map resV) → RowW tag4 σ4 11 139 3 es' (x.events.map evV') → j15_law17_reply B ro Y Z Q σ4 := fun rs' es' tag4 σ4 s4 y4 z4 o1 o2 => by
    unfold j15_law17_reply
    refine ⟨_, _, _, _, _, _, _, _, _, _, _, _, Row.cellsAt z4 s4.sep, ?_⟩
    refine y4.stAll s4.sep rfl (by simp [storable, Sl.v]) fun σ5 st5 y5 => ?_
    have s5 : StepS CL ro T7 σ tag4 σ5 := s4.trans (st5.s (by simp))
    have hd := d7 s5
    exact ⟨_, _, _, _, _, _, _, _, _, _, _, _, Row.cellsAt y5 st5.sep, hQ rs' es' _ σ5 (s5.mix (by decide) tag) ⟨(o1.keep st5 (by decide)).read st5.sep, hd.data, hd.names, (o2.keep st5 (by decide)).read st5.sep⟩⟩
  have evs : ∀ k j (rs' es' : Sl) tag4 σ4, j + k = x.events.length → StepS CL ro T7 σ tag4 σ4 → Row tag4 σ4 3 39 ⟨some ⟨Y, 0, none⟩, 12, 12⟩ [vI 0, vI 0, Sl.v ⟨none, 0, 0⟩, vI 0, Sl.v ⟨none, 0, 0⟩, vI 0, vI 0, vI 0, vI 0, Sl.v ⟨none, 0, 0⟩, Sl.v ⟨none, 0, 0⟩, vI 0] →
      Row tag4 σ4 4 39 ⟨some ⟨Z, 0, none⟩, 12, 12⟩ [vI x.code, vI x.session, Sl.v rs', vI x.bad, Sl.v ds, vI x.ver, vI x.ctr, vI x.own, vI x.kids, Sl.v ns, Sl.v es', vI x.epoch] → RowW tag4 σ4 9 136 2 rs' (x.results.map resV) → RowW tag4 σ4 11 139 3 es' ((x.events.take j).map evV') → lfpD (l19_law17_reply B ro Y Z es Q) (j : Int) σ4 := by
    intro k
    induction k with
    | zero =>
      intro j rs' es' tag4 σ4 hj s4 y4 z4 o1 o2
      refine lfpD.intro ?_
      unfold l19_law17_reply
      rw [if_neg (by omega)]
      rw [List.take_of_length_le (by omega)] at o2
      exact last rs' es' tag4 σ4 s4 y4 z4 o1 o2
    | succ k ih =>
      intro j rs' es' tag4 σ4 hj s4 y4 z4 o1 o2
      have hjl : j < x.events.length := by omega
      obtain ⟨q, hq, hc⟩ := (d7 s4).evs.at (j := j) (x := evV' x.events[j]) (by rw [List.getElem?_map, List.getElem?_eq_getElem hjl]; rfl)
      have etk : x.events.take (j + 1) = x.events.take j ++ [x.events[j]] := by rw [List.take_add_one, List.getElem?_eq_getElem hjl]; rfl
      have hlj : ((x.events.take j).map evV').length = j := by rw [List.length_map, List.length_take]; omega
      generalize x.events[j] = e at hc etk
      refine lfpD.intro ?_
      unfold l19_law17_reply
      rw [if_pos (by omega)]
      refine ⟨q, hq, by omega, by omega, e.1, e.2.1, S e.2.2, by rw [Int.toNat_natCast]; exact hc, ?_⟩
      refine nw_st (tag := tag4) 0 s4.sep rfl (by simp [storable]) fun V tag5 σ5 st5 v5 => ?_
      have z5 := z4.keep (st5 []) (by simp)
      obtain ⟨p, hp, hgz⟩ := z5.ptr (st5 []).sep (by simp)
      cases hp
      obtain ⟨p, hp, hgv⟩ := v5.ptr (st5 []).sep (by simp)
      cases hp
      refine ⟨es', hgz 10 _ rfl, e.1, by simpa using hgv 0 _ rfl, e.2.1, hgv 1 _ rfl, S e.2.2, hgv 2 _ rfl, ?_⟩
      refine nw_cells (tag := tag5) 0 (st5 []).sep fun w tag6 σ6 st6 w6 => ?_
      refine awp_appendW (l2 := [evV' e]) ((o2.keep (st5 []) (by simp)).keep (st6 []) (by simp)) (st6 []).sep (Row.readW1 w6 (st6 []).sep rfl (by decide)) (t := 37) (by kernel_rfl) tyEv17 rfl (by simp [evV', storable]) (by rw [hlj]; simp; omega) (by decide) fun es2 tag7 σ7 st7 o7 => ?_
      have st7 := st7 [11] (.inr (by simp))
      refine ⟨es2, rfl, ?_⟩
      refine ((z5.keep (st6 []) (by simp)).keep st7 (by decide)).stAt [Sl.v es2] 10 st7.sep (by simp) (by simp [storable, Sl.v]) fun σ8 st8 z8 => ?_
      have k48 : StepS [4, 11] ro tag4 σ4 tag7 σ8 := ((st5 []).s (by simp)).trans (((st6 []).s (by simp)).trans ((st7.s (by simp)).trans (st8.s (by simp))))
      rw [Pa.inc j (by omega)]
      refine ih (j + 1) rs' es2 tag7 σ8 (by omega) (s4.trans (k48.mono (by simp))) (y4.keepS k48 (by decide)) z8 (RowW.keepS o1 k48 (by decide)) ?_
      rw [etk, List.map_append]; exact o7.keep st8 (by decide)
  suffices ∀ k j (rs' : Sl) tag4 σ4, j + k = x.results.length → StepS CL ro T7 σ tag4 σ4 → Row tag4 σ4 2 30 ⟨some ⟨X, 0, none⟩, 12, 12⟩ [vI x.code, vI x.session, Sl.v rs, vI x.bad, Sl.v ds, vI x.ver, vI x.ctr, vI x.own, vI x.kids, Sl.v ns, Sl.v es, vI x.epoch] → Row tag4 σ4 3 39 ⟨some ⟨Y, 0, none⟩, 12, 12⟩ [vI 0, vI 0, Sl.v ⟨none, 0, 0⟩, vI 0, Sl.v ⟨none, 0, 0⟩, vI 0, vI 0, vI 0, vI 0, Sl.v ⟨none, 0, 0⟩, Sl.v ⟨none, 0, 0⟩, vI 0] →
      Row tag4 σ4 4 39 ⟨some ⟨Z, 0, none⟩, 12, 12⟩ [vI x.code, vI x.session, Sl.v rs', vI x.bad, Sl.v ds, vI x.ver, vI x.ctr, vI x.own, vI x.kids, Sl.v ns, Sl.v ⟨none, 0, 0⟩, vI x.epoch] → RowW tag4 σ4 9 136 2 rs' ((x.results.take j).map resV) → lfpD (l31_law17_reply B ro X Y Z rs Q) (j : Int) σ4 from
    this _ 0 ⟨none, 0, 0⟩ tag3 σ3 (Nat.zero_add _) s3 x3 y3 z3 (RowW.nil _ _ _)
  intro k
  induction k with
  | zero =>
    intro j rs' tag4 σ4 hj s4 x4 y4 z4 o1
    refine lfpD.intro ?_
    unfold l31_law17_reply
    rw [if_neg (by omega)]
    rw [List.take_of_length_le (by omega)] at o1
    unfold j14_law17_reply
    obtain ⟨p, hp, hg⟩ := x4.ptr s4.sep (by simp)
    cases hp
    exact ⟨es, hg 10 _ rfl, evs _ 0 rs' ⟨none, 0, 0⟩ tag4 σ4 (Nat.zero_add _) s4 y4 z4 o1 (RowW.nil _ _ _)⟩
  | succ k ih =>
    intro j rs' tag4 σ4 hj s4 x4 y4 z4 o1
    have hjl : j < x.results.length := by omega
    obtain ⟨q, hq, hc⟩ := (d7 s4).res.at (j := j) (x := resV x.results[j]) (by rw [List.getElem?_map, List.getElem?_eq_getElem hjl]; rfl)
    have etk : x.results.take (j + 1) = x.results.take j ++ [x.results[j]] := by rw [List.take_add_one, List.getElem?_eq_getElem hjl]; rfl
    have hlj : ((x.results.take j).map resV).length = j := by rw [List.length_map, List.length_take]; omega
    generalize x.results[j] = e at hc etk
    refine lfpD.intro ?_
    unfold l31_law17_reply
    rw [if_pos (by omega)]
    refine ⟨q, hq, by omega, by omega, S e.1, e.2, by rw [Int.toNat_natCast]; exact hc, ?_⟩
    refine nw_st (tag := tag4) 0 s4.sep rfl (by simp [storable]) fun V tag5 σ5 st5 v5 => ?_
    have z5 := z4.keep (st5 []) (by simp)
    obtain ⟨p, hp, hgz⟩ := z5.ptr (st5 []).sep (by simp)
    cases hp
    obtain ⟨p, hp, hgv⟩ := v5.ptr (st5 []).sep (by simp)
    cases hp
    refine ⟨rs', hgz 2 _ rfl, S e.1, by simpa using hgv 0 _ rfl, e.2, hgv 1 _ rfl, ?_⟩
    refine nw_cells (tag := tag5) 0 (st5 []).sep fun w tag6 σ6 st6 w6 => ?_
    refine awp_appendW (l2 := [resV e]) ((o1.keep (st5 []) (by simp)).keep (st6 []) (by simp)) (st6 []).sep (Row.readW1 w6 (st6 []).sep rfl (by decide)) (t := 35) (by kernel_rfl) tyRes17 rfl (by simp [resV, storable]) (by rw [hlj]; simp; omega) (by decide) fun rs2 tag7 σ7 st7 o7 => ?_
    have st7 := st7 [9] (.inr (by simp))
    refine ⟨rs2, rfl, ?_⟩
    refine ((z5.keep (st6 []) (by simp)).keep st7 (by decide)).stAt [Sl.v rs2] 2 st7.sep (by simp) (by simp [storable, Sl.v]) fun σ8 st8 z8 => ?_
    have k48 : StepS [4, 9] ro tag4 σ4 tag7 σ8 := ((st5 []).s (by simp)).trans (((st6 []).s (by simp)).trans ((st7.s (by simp)).trans (st8.s (by simp))))
    rw [Pa.inc j (by omega)]
    refine ih (j + 1) rs2 tag7 σ8 (by omega) (s4.trans (k48.mono (by simp))) (x4.keepS k48 (by decide)) (y4.keepS k48 (by decide)) z8 ?_
    rw [etk, List.map_append]; exact o7.keep st8 (by decide)
theorem rsame_ok {rs ds ns es rs2 ds2 ns2 es2 : Sl} {x y : Rep} {Q : Bool → AH → Prop} (hx : RepD ro σ rs ds ns es x) (hy : RepD ro σ rs2 ds2 ns2 es2 y) (sx : Sm20 x) (sy : Sm20 y)
    (hQ : ∀ tag' σ', (∀ R, Step R ro tag σ tag' σ') → Q (decide (putRep x ≠ none ∧ putRep x = putRep y)) σ') :
    c_ref17_Same B ro x.code x.session rs x.bad ds x.ver x.ctr x.own x.kids ns es x.epoch y.code y.session rs2 y.bad ds2 y.ver y.ctr y.own y.kids ns2 es2 y.epoch σ Q := by
  refine ref17_Same_ok fun hs => ?_
  unfold f_ref17_Same
  refine nw_cells (tag := tag) 0 hs fun X tag1 σ1 st1 x1 => ?_
  refine nw_cells (tag := tag1) 0 (st1 []).sep fun Y tag2 σ2 st2 y2 => ?_
  have x2 := x1.keep (st2 []) (by simp)
  refine ⟨_, _, _, _, _, _, _, _, _, _, _, _, Row.cellsAt x2 (st2 []).sep, ?_⟩
  have k2 : ∀ R, Step R ro tag σ tag2 σ2 := fun R => (st1 R).trans (st2 R)
  have fin : ∀ (c : Bool) tag3 σ3, (∀ R, Step R ro tag σ tag3 σ3) → c = decide (putRep x ≠ none ∧ putRep x = putRep y) → j9_ref17_Same B ro Q c σ3 := fun c tag3 σ3 k3 hc => by
    unfold j9_ref17_Same
    rw [hc]; exact hQ tag3 σ3 k3
  refine rputReply_ok (tag := tag2) (hx.hle (hle_of k2)) sx (fun hn tag3 σ3 st3 => ?_) fun p hp s3 tag3 σ3 st3 r3 => ?_
  · refine ⟨_, _, _, _, _, _, _, _, _, _, _, _, Row.cellsAt (y2.keep (st3 []) (by simp)) (st3 []).sep, ?_⟩
    have k3 : ∀ R, Step R ro tag σ tag3 σ3 := fun R => (k2 R).trans (st3 R)
    refine rputReply_ok (tag := tag3) (hy.hle (hle_of k3)) sy (fun hn2 tag4 σ4 st4 => ?_) fun p2 hp2 s4 tag4 σ4 st4 r4 => ?_
    · rw [if_neg (by simp)]
      exact fin _ tag4 σ4 (fun R => (k3 R).trans (st4 R)) (by simp [hn])
    · rw [if_neg (by simp)]
      exact fin _ tag4 σ4 (fun R => (k3 R).trans (st4 R)) (by simp [hn])
  · refine ⟨_, _, _, _, _, _, _, _, _, _, _, _, Row.cellsAt (y2.keep (st3 []) (by simp)) (st3 []).sep, ?_⟩
    have k3 : ∀ R, Step R ro tag σ tag3 σ3 := fun R => (k2 R).trans (st3 R)
    refine rputReply_ok (tag := tag3) (hy.hle (hle_of k3)) sy (fun hn2 tag4 σ4 st4 => ?_) fun p2 hp2 s4 tag4 σ4 st4 r4 => ?_
    · rw [if_neg (by simp)]
      exact fin _ tag4 σ4 (fun R => (k3 R).trans (st4 R)) (by simp [hp, hn2])
    · rw [if_pos (by simp)]
      refine same_ok ((r3.keep (st4 []) (by simp)).read (st4 []).sep) (r4.read (st4 []).sep) ?_
      exact fin _ tag4 σ4 (fun R => (k3 R).trans (st4 R)) (by rw [hp, hp2]; simp)
end Go.Proofs.YtomdigihapdhnaaGreatDoor.Zt
