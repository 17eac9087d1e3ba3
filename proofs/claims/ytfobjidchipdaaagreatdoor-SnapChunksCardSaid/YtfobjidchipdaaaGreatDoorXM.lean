/- GR5 -/
import Derived.Test.YtfobjidchipdaaaGreatDoorXL
/- Functions as predicate transformers, and the proofs that the code does what they tell: printed by wip/tools/gen.py. -/
namespace Go.Proofs.YtfobjidchipdaaaGreatDoor.G
open Go Go.Proofs.YtfobjidchipdaaaGreatDoor.SL
set_option linter.unusedVariables false
set_option linter.unusedSimpArgs false

def j7_ref05_Chunks (B : World) (ro : AH) (Q : Sl → Int → AH → Prop) (x11_8 : Sl) (σ : AH) : Prop :=
 Q x11_8 0 σ

def l9_ref05_Chunks (B : World) (ro : AH) (a0 : Int) (a1 : Sl) (x8_5 : Sl) (x56_6 : Int) (Q : Sl → Int → AH → Prop) : (Sl × Int) → AH → ((Sl × Int) → AH → Prop) → Prop := fun ⟨x11_10, x13_11⟩ σ Y9 =>
 if x13_11 < (x8_5.len : Int) then
  lent σ fun ψ σ =>
   ∃ p78_12 : Addr, x8_5.a = some p78_12 ∧ (0 : Int) ≤ x13_11 ∧ x13_11 < (x8_5.len : Int) ∧
   ∃ (x79_13 : Sl), acell (join ro ψ) (fun _ => none) (p78_12.add (Int.toNat x13_11 * 1)) = some (Sl.v x79_13) ∧
   c_ref01_Put B (join ro ψ) a0 σ fun x65_14 σ =>
   c_ref01_Put B (join ro ψ) (x8_5.len : Int) σ fun x68_15 σ =>
   c_ref01_Put B (join ro ψ) x13_11 σ fun x70_16 σ =>
   c_ref01_Put B (join ro ψ) (a1.len : Int) σ fun x73_17 σ =>
   c_ref01_Put B (join ro ψ) x56_6 σ fun x75_18 σ =>
   c_ref01_Blob B (join ro ψ) x79_13 σ fun x80_19 σ =>
   nw (join ro ψ) σ (.cells #[Sl.v x65_14, Sl.v x68_15, Sl.v x70_16, Sl.v x73_17, Sl.v x75_18, Sl.v x80_19] 22) fun x81_20 σ =>
   c_ref01_Join B (join ro ψ) (⟨some ⟨x81_20, 0, none⟩, 6, 6⟩ : Sl) σ fun x82_21 σ =>
   nw (join ro ψ) σ (.cells #[Sl.v x82_21] 22) fun x83_22 σ =>
   awp Tryz.prog (join ro ψ) (Builtin.append_ #[44, 44] 44 #[Sl.v x11_10, Sl.v (⟨some ⟨x83_22, 0, none⟩, 1, 1⟩ : Sl)]) (fun v σ => ∃ (x84_23 : Sl), v = Sl.v x84_23 ∧
    (Disj ψ σ → (fun σ => 
     Y9 (x84_23, IntKind.i64.wrap (x13_11 + 1)) σ) (join ψ σ))) σ
 else
 j7_ref05_Chunks B ro Q x11_10 σ

def j4_ref05_Chunks (B : World) (ro : AH) (a0 : Int) (a1 : Sl) (Q : Sl → Int → AH → Prop) (x8_5 : Sl) (σ : AH) : Prop :=
 c_ref01_Sum B ro a1 σ fun x56_6 σ =>
 lfpD (l9_ref05_Chunks B ro a0 a1 x8_5 x56_6 Q ) ((⟨none, 0, 0⟩ : Sl), 0) σ

def j2_ref05_Chunks (B : World) (ro : AH) (a0 : Int) (a1 : Sl) (Q : Sl → Int → AH → Prop) (x8_3 : Sl) (σ : AH) : Prop :=
 if (x8_3.len : Int) = 0 then
  nw ro σ (.cells #[] 5) fun x52_24 σ =>
  nw ro σ (.cells #[Sl.v (⟨some ⟨x52_24, 0, none⟩, 0, 0⟩ : Sl)] 22) fun x53_25 σ =>
  awp Tryz.prog ro (Builtin.append_ #[44, 44] 44 #[Sl.v x8_3, Sl.v (⟨some ⟨x53_25, 0, none⟩, 1, 1⟩ : Sl)]) (fun v σ => ∃ (x54_26 : Sl), v = Sl.v x54_26 ∧
   j4_ref05_Chunks B ro a0 a1 Q x54_26 σ) σ
 else
 j4_ref05_Chunks B ro a0 a1 Q x8_3 σ

def j30_ref05_Chunks (B : World) (ro : AH) (a0 : Int) (a1 : Sl) (a2 : Int) (x8_28 : Sl) (x9_29 : Int) (Q : Sl → Int → AH → Prop) (Y27 : (Sl × Int) → AH → Prop) (x10_31 : Int) (σ : AH) : Prop :=
 cutOk (some x9_29) (some x10_31) a1.len a1.cap ∧
 nw ro σ (.cells #[Sl.v (⟨cutA a1.a (Int.toNat x9_29) a1.cap 1, Int.toNat x10_31 - Int.toNat x9_29, a1.cap - Int.toNat x9_29⟩ : Sl)] 22) fun x46_32 σ =>
 awp Tryz.prog ro (Builtin.append_ #[44, 44] 44 #[Sl.v x8_28, Sl.v (⟨some ⟨x46_32, 0, none⟩, 1, 1⟩ : Sl)]) (fun v σ => ∃ (x47_33 : Sl), v = Sl.v x47_33 ∧
  Y27 (x47_33, IntKind.i64.wrap (x9_29 + a2)) σ) σ

def l27_ref05_Chunks (B : World) (ro : AH) (a0 : Int) (a1 : Sl) (a2 : Int) (Q : Sl → Int → AH → Prop) : (Sl × Int) → AH → ((Sl × Int) → AH → Prop) → Prop := fun ⟨x8_28, x9_29⟩ σ Y27 =>
 if x9_29 < (a1.len : Int) then
  if (a1.len : Int) < (IntKind.i64.wrap (x9_29 + a2)) then
   j30_ref05_Chunks B ro a0 a1 a2 x8_28 x9_29 Q Y27 (a1.len : Int) σ
  else
  j30_ref05_Chunks B ro a0 a1 a2 x8_28 x9_29 Q Y27 (IntKind.i64.wrap (x9_29 + a2)) σ
 else
 j2_ref05_Chunks B ro a0 a1 Q x8_28 σ

def f_ref05_Chunks (B : World) (ro : AH) (a0 : Int) (a1 : Sl) (a2 : Int) (σ : AH) (Q : Sl → Int → AH → Prop) : Prop :=
 c_ref01_Bad B ro a0 σ fun x15_1 σ =>
 if x15_1 = true then
  Q (⟨none, 0, 0⟩ : Sl) 10 σ
 else
 if 1048576 < (a1.len : Int) then
  Q (⟨none, 0, 0⟩ : Sl) 14 σ
 else
 if (a2 < 1) ∨ (32768 < a2) then
  Q (⟨none, 0, 0⟩ : Sl) 10 σ
 else
 lfpD (l27_ref05_Chunks B ro a0 a1 a2 Q ) ((⟨none, 0, 0⟩ : Sl), 0) σ

set_option maxRecDepth 100000 in
set_option maxHeartbeats 4000000 in
theorem ref05_Chunks_ok {B : World} {ro : AH} {a0 : Int} {a1 : Sl} {a2 : Int} {σ : AH} {Q : Sl → Int → AH → Prop} (h : Sep ro σ → f_ref05_Chunks B ro a0 a1 a2 σ Q) : c_ref05_Chunks B ro a0 a1 a2 σ Q := by
  refine ACalls.of_sep fun hsep => ?_
  replace h := h hsep
  refine ACalls.of_body (args := [.int .i64 a0, Sl.v a1, .int .i64 a2]) Tryz.func19 rfl (by rw [Tryz.ntmps19]; simp) ?_
  rw [Tryz.ntmps19]
  unfold f_ref05_Chunks at h
  refine AW.seq ?_
  refine AW.reg ?_
  refine Lp (V_asg rfl rfl) rfl rfl ?_
  refine Lp (V_asg rfl rfl) rfl rfl ?_
  refine Lnil ?_
  refine thenN ?_
  refine AW.seq ?_
  refine AW.seq ?_
  refine AW.reg ?_
  refine Lp (V_move rfl rfl) rfl rfl ?_
  refine Ls rfl rfl (X_call rfl Tryz.func56 rfl rfl rfl (ACalls.mono h ?_))
  rintro v σ ⟨x15_1, rfl, h⟩
  refine Lnil ?_
  refine thenN ?_
  refine AW.iff rfl Iff.rfl h (fun h => ?_) (fun h => ?_)
  · refine AW.seq ?_
    refine AW.reg ?_
    refine Lp (V_asg rfl rfl) rfl rfl ?_
    refine Lp (V_asg rfl rfl) rfl rfl ?_
    refine Lnil ?_
    refine thenN ?_
    refine AW.ret ?_
    refine thenR ?_
    exact bR2 Tryz.results19 rfl rfl ⟨_, _, rfl, h⟩
  refine AW.skip ?_
  refine thenN ?_
  refine AW.seq ?_
  refine AW.seq ?_
  refine AW.reg ?_
  refine Lp (V_move rfl rfl) rfl rfl ?_
  refine Lp (V_lenL rfl rfl Tryz.underlying22 rfl rfl) rfl rfl ?_
  refine Lp (V_gtr rfl rfl rfl) rfl rfl ?_
  refine Lnil ?_
  refine thenN ?_
  refine AW.iff rfl decide_eq_true_iff h (fun h => ?_) (fun h => ?_)
  · refine AW.seq ?_
    refine AW.reg ?_
    refine Lp (V_asg rfl rfl) rfl rfl ?_
    refine Lp (V_asg rfl rfl) rfl rfl ?_
    refine Lnil ?_
    refine thenN ?_
    refine AW.ret ?_
    refine thenR ?_
    exact bR2 Tryz.results19 rfl rfl ⟨_, _, rfl, h⟩
  refine AW.skip ?_
  refine thenN ?_
  refine AW.seq ?_
  refine AW.seq ?_
  refine AW.reg ?_
  refine Lp (V_move rfl rfl) rfl rfl ?_
  refine Lp (V_lss rfl rfl rfl) rfl rfl ?_
  refine Lp (V_move rfl rfl) rfl rfl ?_
  refine Lsplit 3 (decide (a2 < 1)) [(0, .int .i64 a0), (1, Sl.v a1), (2, .int .i64 a2), (24, .bool ((decide (a2 < 1)) || (decide (32768 < a2))))] ?_ ?_ ?_
  · intro e2 hk2
    refine Ln rfl rfl rfl rfl (.inl (by rw [e2]; rfl)) ?_
    refine Ln rfl rfl rfl rfl (.inl (by rw [e2]; rfl)) ?_
    refine Lp (V_pickT rfl (evb e2) rfl) rfl rfl ?_
    exact hk2 _ (FrLe.cons rfl (FrLe.cons rfl (FrLe.cons rfl (FrLe.cons (by rw [e2]; rfl) (FrLe.nil _)))))
  · intro e2 hk2
    refine Lypb (V_move rfl rfl) rfl rfl rfl rfl e2 ?_
    refine Lypb (V_gtr rfl rfl rfl) rfl rfl rfl rfl e2 ?_
    refine Lp (V_pickF rfl (evb e2) rfl) rfl rfl ?_
    exact hk2 _ (FrLe.cons rfl (FrLe.cons rfl (FrLe.cons rfl (FrLe.cons (by rw [e2]; rfl) (FrLe.nil _)))))
  intro fr hl
  refine Lfr hl ?_
  refine Lnil ?_
  refine thenN ?_
  refine AW.iff rfl (bor_iff decide_eq_true_iff decide_eq_true_iff) h (fun h => ?_) (fun h => ?_)
  · refine AW.seq ?_
    refine AW.reg ?_
    refine Lp (V_asg rfl rfl) rfl rfl ?_
    refine Lp (V_asg rfl rfl) rfl rfl ?_
    refine Lnil ?_
    refine thenN ?_
    refine AW.ret ?_
    refine thenR ?_
    exact bR2 Tryz.results19 rfl rfl ⟨_, _, rfl, h⟩
  refine AW.skip ?_
  refine thenN ?_
  refine AW.seq ?_
  refine AW.reg ?_
  refine Lp (V_asg rfl rfl) rfl rfl ?_
  refine Lnil ?_
  refine thenN ?_
  refine AW.seqJ (fun fr σ => ∃ (x8_3 : Sl), FrLe [(0, .int .i64 a0), (1, Sl.v a1), (8, Sl.v x8_3)] fr ∧ j2_ref05_Chunks B ro a0 a1 Q x8_3 σ) ?_ ?_
  rotate_left
  · refine AW.seq ?_
    refine AW.reg ?_
    refine Lp (V_asg rfl rfl) rfl rfl ?_
    refine Lnil ?_
    refine thenN ?_
    refine AW.block ?_
    refine ARound.loop (fr' := [(0, .int .i64 a0), (1, Sl.v a1), (2, .int .i64 a2), (8, Sl.v (⟨none, 0, 0⟩ : Sl)), (9, .int .i64 0)]) ?_ (FrLe.cons rfl (FrLe.cons rfl (FrLe.cons rfl (FrLe.cons rfl (FrLe.cons rfl (FrLe.nil _))))))
    refine h (fun ⟨x8_28, x9_29⟩ σ => ARound _ _ _ _ _ _ [(0, .int .i64 a0), (1, Sl.v a1), (2, .int .i64 a2), (8, Sl.v x8_28), (9, .int .i64 x9_29)] σ) ?_
    rintro ⟨x8_28, x9_29⟩ σ Y27 hY27 h
    show AW _ _ _ _ _ _ _ _
    unfold l27_ref05_Chunks at h
    dsimp only at h
    refine AW.seq ?_
    refine AW.seq ?_
    refine AW.reg ?_
    refine Lp (V_move rfl rfl) rfl rfl ?_
    refine Lp (V_move rfl rfl) rfl rfl ?_
    refine Lp (V_lenL rfl rfl Tryz.underlying22 rfl rfl) rfl rfl ?_
    refine Lp (V_lss rfl rfl rfl) rfl rfl ?_
    refine Lnil ?_
    refine thenN ?_
    refine AW.iff rfl decide_eq_true_iff h (fun h => ?_) (fun h => ?_)
    rotate_left
    · refine AW.exit ?_
      refine thenE ?_
      refine thenE ?_
      refine blockE ?_
      refine thenN ?_
      exact ⟨_, (FrLe.cons rfl (FrLe.cons rfl (FrLe.cons rfl (FrLe.nil _)))), h⟩
    refine AW.skip ?_
    refine thenN ?_
    refine AW.seq ?_
    refine AW.block ?_
    refine AW.seq ?_
    refine AW.reg ?_
    refine Lp (V_move rfl rfl) rfl rfl ?_
    refine Lp (V_move rfl rfl) rfl rfl ?_
    refine Lp (V_add rfl rfl rfl) rfl rfl ?_
    refine Lp (V_asg rfl rfl) rfl rfl ?_
    refine Lnil ?_
    refine thenN ?_
    refine AW.seqJ (fun fr σ => ∃ (x10_31 : Int), FrLe [(0, .int .i64 a0), (1, Sl.v a1), (2, .int .i64 a2), (8, Sl.v x8_28), (9, .int .i64 x9_29), (10, .int .i64 x10_31)] fr ∧ j30_ref05_Chunks B ro a0 a1 a2 x8_28 x9_29 Q Y27 x10_31 σ) ?_ ?_
    rotate_left
    · refine AW.seq ?_
      refine AW.reg ?_
      refine Lp (V_move rfl rfl) rfl rfl ?_
      refine Lp (V_move rfl rfl) rfl rfl ?_
      refine Lp (V_lenL rfl rfl Tryz.underlying22 rfl rfl) rfl rfl ?_
      refine Lp (V_gtr rfl rfl rfl) rfl rfl ?_
      refine Lnil ?_
      refine thenN ?_
      refine AW.iff rfl decide_eq_true_iff h (fun h => ?_) (fun h => ?_)
      rotate_left
      · refine AW.skip ?_
        refine thenN ?_
        exact ⟨_, (FrLe.cons rfl (FrLe.cons rfl (FrLe.cons rfl (FrLe.cons rfl (FrLe.cons rfl (FrLe.cons rfl (FrLe.nil _))))))), h⟩
      refine AW.reg ?_
      refine Lp (V_move rfl rfl) rfl rfl ?_
      refine Lp (V_lenL rfl rfl Tryz.underlying22 rfl rfl) rfl rfl ?_
      refine Lp (V_asg rfl rfl) rfl rfl ?_
      refine Lnil ?_
      refine thenN ?_
      exact ⟨_, (FrLe.cons rfl (FrLe.cons rfl (FrLe.cons rfl (FrLe.cons rfl (FrLe.cons rfl (FrLe.cons rfl (FrLe.nil _))))))), h⟩
    rintro fr σ ⟨x10_31, hl, h⟩
    refine AW.weaken ?_ hl (HLe.refl _)
    unfold j30_ref05_Chunks at h
    refine AW.reg ?_
    refine Lp (V_move rfl rfl) rfl rfl ?_
    refine Lp (V_move rfl rfl) rfl rfl ?_
    refine Lp (V_move rfl rfl) rfl rfl ?_
    refine Lp (V_move rfl rfl) rfl rfl ?_
    obtain ⟨hc, h⟩ := h
    refine Lp (V_slL (lo := (some x9_29)) (hi := (some x10_31)) rfl Tryz.underlying22 ty5 rfl (optI_some rfl) (optI_some rfl) hc) rfl rfl ?_
    refine Ls rfl rfl (X_new (A_bsl (vs := [(0, Sl.v (⟨cutA a1.a (Int.toNat x9_29) a1.cap 1, Int.toNat x10_31 - Int.toNat x9_29, a1.cap - Int.toNat x9_29⟩ : Sl))]) (cs := #[Sl.v (⟨cutA a1.a (Int.toNat x9_29) a1.cap 1, Int.toNat x10_31 - Int.toNat x9_29, a1.cap - Int.toNat x9_29⟩ : Sl)]) rfl Tryz.underlying44 ty22 (by decide) rfl rfl) fun x46_32 g1 g2 => ?_)
    replace h := h x46_32 g1 g2
    refine Ls rfl rfl (X_bi (s := Builtin.append_ #[44, 44] 44 #[Sl.v x8_28, Sl.v (⟨some ⟨x46_32, 0, none⟩, 1, 1⟩ : Sl)]) rfl rfl (fun _ => rfl) (awp_mono _ h ?_))
    rintro v σ ⟨x47_33, rfl, h⟩
    refine Lp (V_asg rfl rfl) rfl rfl ?_
    refine Lnil ?_
    refine blockN ?_
    refine thenN ?_
    refine AW.reg ?_
    refine Lp (V_move rfl rfl) rfl rfl ?_
    refine Lp (V_move rfl rfl) rfl rfl ?_
    refine Lp (V_add rfl rfl rfl) rfl rfl ?_
    refine Lp (V_asg rfl rfl) rfl rfl ?_
    refine Lnil ?_
    refine thenN ?_
    refine ARound.head (fr' := [(0, .int .i64 a0), (1, Sl.v a1), (2, .int .i64 a2), (8, Sl.v x47_33), (9, .int .i64 (IntKind.i64.wrap (x9_29 + a2)))]) ?_ (FrLe.cons rfl (FrLe.cons rfl (FrLe.cons rfl (FrLe.cons rfl (FrLe.cons rfl (FrLe.nil _))))))
    exact hY27 _ _ h
  rintro fr σ ⟨x8_3, hl, h⟩
  refine AW.weaken ?_ hl (HLe.refl _)
  unfold j2_ref05_Chunks at h
  refine AW.seqJ (fun fr σ => ∃ (x8_5 : Sl), FrLe [(0, .int .i64 a0), (1, Sl.v a1), (8, Sl.v x8_5)] fr ∧ j4_ref05_Chunks B ro a0 a1 Q x8_5 σ) ?_ ?_
  rotate_left
  · refine AW.seq ?_
    refine AW.reg ?_
    refine Lp (V_move rfl rfl) rfl rfl ?_
    refine Lp (V_lenL rfl rfl Tryz.underlying44 rfl rfl) rfl rfl ?_
    refine Lp (V_eql rfl rfl rfl) rfl rfl ?_
    refine Lnil ?_
    refine thenN ?_
    refine AW.iff rfl decide_eq_true_iff h (fun h => ?_) (fun h => ?_)
    rotate_left
    · refine AW.skip ?_
      refine thenN ?_
      exact ⟨_, (FrLe.cons rfl (FrLe.cons rfl (FrLe.cons rfl (FrLe.nil _)))), h⟩
    refine AW.reg ?_
    refine Lp (V_move rfl rfl) rfl rfl ?_
    refine Ls rfl rfl (X_new (A_bsl (vs := []) (cs := #[]) rfl Tryz.underlying22 ty5 (by decide) rfl rfl) fun x52_24 g1 g2 => ?_)
    replace h := h x52_24 g1 g2
    refine Ls rfl rfl (X_new (A_bsl (vs := [(0, Sl.v (⟨some ⟨x52_24, 0, none⟩, 0, 0⟩ : Sl))]) (cs := #[Sl.v (⟨some ⟨x52_24, 0, none⟩, 0, 0⟩ : Sl)]) rfl Tryz.underlying44 ty22 (by decide) rfl rfl) fun x53_25 g1 g2 => ?_)
    replace h := h x53_25 g1 g2
    refine Ls rfl rfl (X_bi (s := Builtin.append_ #[44, 44] 44 #[Sl.v x8_3, Sl.v (⟨some ⟨x53_25, 0, none⟩, 1, 1⟩ : Sl)]) rfl rfl (fun _ => rfl) (awp_mono _ h ?_))
    rintro v σ ⟨x54_26, rfl, h⟩
    refine Lp (V_asg rfl rfl) rfl rfl ?_
    refine Lnil ?_
    refine thenN ?_
    exact ⟨_, (FrLe.cons rfl (FrLe.cons rfl (FrLe.cons rfl (FrLe.nil _)))), h⟩
  rintro fr σ ⟨x8_5, hl, h⟩
  refine AW.weaken ?_ hl (HLe.refl _)
  unfold j4_ref05_Chunks at h
  refine AW.seq ?_
  refine AW.reg ?_
  refine Lp (V_asg rfl rfl) rfl rfl ?_
  refine Lnil ?_
  refine thenN ?_
  refine AW.seq ?_
  refine AW.reg ?_
  refine Lp (V_move rfl rfl) rfl rfl ?_
  refine Ls rfl rfl (X_call rfl Tryz.func57 rfl rfl rfl (ACalls.mono h ?_))
  rintro v σ ⟨x56_6, rfl, h⟩
  refine Lp (V_asg rfl rfl) rfl rfl ?_
  refine Lnil ?_
  refine thenN ?_
  refine AW.seqJ (fun fr σ => ∃ (x11_8 : Sl), FrLe [(11, Sl.v x11_8)] fr ∧ j7_ref05_Chunks B ro Q x11_8 σ) ?_ ?_
  · rintro fr σ ⟨x11_8, hl, h⟩
    refine AW.weaken ?_ hl (HLe.refl _)
    unfold j7_ref05_Chunks at h
    refine AW.seq ?_
    refine AW.reg ?_
    refine Lp (V_move rfl rfl) rfl rfl ?_
    refine Lp (V_asg rfl rfl) rfl rfl ?_
    refine Lp (V_asg rfl rfl) rfl rfl ?_
    refine Lnil ?_
    refine thenN ?_
    refine AW.ret ?_
    exact bR2 Tryz.results19 rfl rfl ⟨_, _, rfl, h⟩
  refine AW.seq ?_
  refine AW.reg ?_
  refine Lp (V_asg rfl rfl) rfl rfl ?_
  refine Lnil ?_
  refine thenN ?_
  refine AW.block ?_
  refine ARound.loop (fr' := [(0, .int .i64 a0), (1, Sl.v a1), (8, Sl.v x8_5), (12, .int .i64 x56_6), (11, Sl.v (⟨none, 0, 0⟩ : Sl)), (13, .int .i64 0)]) ?_ (FrLe.cons rfl (FrLe.cons rfl (FrLe.cons rfl (FrLe.cons rfl (FrLe.cons rfl (FrLe.cons rfl (FrLe.nil _)))))))
  refine h (fun ⟨x11_10, x13_11⟩ σ => ARound _ _ _ _ _ _ [(0, .int .i64 a0), (1, Sl.v a1), (8, Sl.v x8_5), (12, .int .i64 x56_6), (11, Sl.v x11_10), (13, .int .i64 x13_11)] σ) ?_
  rintro ⟨x11_10, x13_11⟩ σ Y9 hY9 h
  show AW _ _ _ _ _ _ _ _
  unfold l9_ref05_Chunks at h
  dsimp only at h
  refine AW.seq ?_
  refine AW.seq ?_
  refine AW.reg ?_
  refine Lp (V_move rfl rfl) rfl rfl ?_
  refine Lp (V_move rfl rfl) rfl rfl ?_
  refine Lp (V_lenL rfl rfl Tryz.underlying44 rfl rfl) rfl rfl ?_
  refine Lp (V_lss rfl rfl rfl) rfl rfl ?_
  refine Lnil ?_
  refine thenN ?_
  refine AW.iff rfl decide_eq_true_iff h (fun h => ?_) (fun h => ?_)
  rotate_left
  · refine AW.exit ?_
    refine thenE ?_
    refine thenE ?_
    refine blockE ?_
    refine thenN ?_
    exact ⟨_, (FrLe.cons rfl (FrLe.nil _)), h⟩
  refine AW.skip ?_
  refine thenN ?_
  refine AW.seq ?_
  refine AW.block ?_
  refine AW.drawnL (fun i => ([0, 0, 2, 0, 0, 2, 0, 2, 0, 0, 2, 0, 2, 0, 0, 0, 0, 2, 1, 2, 1, 2, 0] : List Nat).getD i 2) [(2, 5), (2, 7), (2, 10), (2, 12), (2, 17), (2, 18), (2, 19), (2, 20), (2, 21), (5, 7), (5, 10), (5, 12), (5, 17), (5, 18), (5, 19), (5, 20), (5, 21), (7, 10), (7, 12), (7, 17), (7, 18), (7, 19), (7, 20), (7, 21), (10, 12), (10, 17), (10, 18), (10, 19), (10, 20), (10, 21), (12, 18), (12, 19), (12, 20), (12, 21), (17, 19), (17, 20), (17, 21), (18, 19), (18, 20), (18, 21)] [0, 1, 3, 4, 6, 8, 9, 11, 13, 14, 15, 16, 2, 5, 7, 10, 12, 17, 18, 19, 20, 21, 22] Tryz.mixed h (by decide +kernel) ?_
  clear h
  intro ψ σ h
  refine Dp rfl rfl rfl rfl (V_move rfl rfl) ?_
  refine Dp rfl rfl rfl rfl (V_move rfl rfl) ?_
  refine Dp rfl rfl rfl rfl (V_move rfl rfl) ?_
  refine Dp rfl rfl rfl rfl (V_lenL rfl rfl Tryz.underlying44 rfl rfl) ?_
  refine Dp rfl rfl rfl rfl (V_move rfl rfl) ?_
  refine Dp rfl rfl rfl rfl (V_move rfl rfl) ?_
  refine Dp rfl rfl rfl rfl (V_lenL rfl rfl Tryz.underlying22 rfl rfl) ?_
  refine Dp rfl rfl rfl rfl (V_move rfl rfl) ?_
  refine Dp rfl rfl rfl rfl (V_move rfl rfl) ?_
  refine Dp rfl rfl rfl rfl (V_move rfl rfl) ?_
  obtain ⟨p78_12, ha, h0, h1, h⟩ := h
  refine Dp rfl rfl rfl rfl (V_ixA rfl Tryz.underlying44 ty22 (ixL rfl ha) rfl h0 h1) ?_
  obtain ⟨x79_13, hc, h⟩ := h
  refine Dp rfl rfl rfl rfl (V_ld rfl Tryz.underlying22 rfl rfl hc) ?_
  refine Dg rfl rfl rfl rfl (X_call rfl Tryz.func58 rfl rfl rfl (ACalls.mono h ?_))
  rintro v σ ⟨x65_14, rfl, h⟩
  refine Dg rfl rfl rfl rfl (X_call rfl Tryz.func58 rfl rfl rfl (ACalls.mono h ?_))
  rintro v σ ⟨x68_15, rfl, h⟩
  refine Dg rfl rfl rfl rfl (X_call rfl Tryz.func58 rfl rfl rfl (ACalls.mono h ?_))
  rintro v σ ⟨x70_16, rfl, h⟩
  refine Dg rfl rfl rfl rfl (X_call rfl Tryz.func58 rfl rfl rfl (ACalls.mono h ?_))
  rintro v σ ⟨x73_17, rfl, h⟩
  refine Dg rfl rfl rfl rfl (X_call rfl Tryz.func58 rfl rfl rfl (ACalls.mono h ?_))
  rintro v σ ⟨x75_18, rfl, h⟩
  refine Dg rfl rfl rfl rfl (X_call rfl Tryz.func59 rfl rfl rfl (ACalls.mono h ?_))
  rintro v σ ⟨x80_19, rfl, h⟩
  refine Da rfl rfl rfl rfl (A_bsl (vs := [(0, Sl.v x65_14), (1, Sl.v x68_15), (2, Sl.v x70_16), (3, Sl.v x73_17), (4, Sl.v x75_18), (5, Sl.v x80_19)]) (cs := #[Sl.v x65_14, Sl.v x68_15, Sl.v x70_16, Sl.v x73_17, Sl.v x75_18, Sl.v x80_19]) rfl Tryz.underlying44 ty22 (by decide) rfl rfl) fun x81_20 g1 g2 => ?_
  replace h := h x81_20 g1 g2
  refine Dg rfl rfl rfl rfl (X_call rfl Tryz.func48 rfl rfl rfl (ACalls.mono h ?_))
  rintro v σ ⟨x82_21, rfl, h⟩
  refine Da rfl rfl rfl rfl (A_bsl (vs := [(0, Sl.v x82_21)]) (cs := #[Sl.v x82_21]) rfl Tryz.underlying44 ty22 (by decide) rfl rfl) fun x83_22 g1 g2 => ?_
  replace h := h x83_22 g1 g2
  refine Dg rfl rfl rfl rfl (X_bi (s := Builtin.append_ #[44, 44] 44 #[Sl.v x11_10, Sl.v (⟨some ⟨x83_22, 0, none⟩, 1, 1⟩ : Sl)]) rfl rfl (fun _ => rfl) (awp_mono _ h ?_))
  rintro v σ ⟨x84_23, rfl, h⟩
  refine Dp rfl rfl rfl rfl (V_asg rfl rfl) ?_
  refine ⟨_, FrEq.refl _, fun hdj => ?_⟩
  replace h := h hdj
  refine blockN ?_
  refine thenN ?_
  refine AW.reg ?_
  refine Lp (V_move rfl rfl) rfl rfl ?_
  refine Lp (V_add rfl rfl rfl) rfl rfl ?_
  refine Lp (V_asg rfl rfl) rfl rfl ?_
  refine Lnil ?_
  refine thenN ?_
  refine ARound.head (fr' := [(0, .int .i64 a0), (1, Sl.v a1), (8, Sl.v x8_5), (12, .int .i64 x56_6), (11, Sl.v x84_23), (13, .int .i64 (IntKind.i64.wrap (x13_11 + 1)))]) ?_ (FrLe.cons rfl (FrLe.cons rfl (FrLe.cons rfl (FrLe.cons rfl (FrLe.cons rfl (FrLe.cons rfl (FrLe.nil _)))))))
  exact hY9 _ _ h

def j1_ref05_Asm_Add (B : World) (ro : AH) (Q : Int → AH → Prop) (σ : AH) : Prop :=
 Q 0 σ

def j4_ref05_Asm_Add (B : World) (ro : AH) (a0 : Option Addr) (a1 : Sl) (x5_3 : Int) (Q : Int → AH → Prop) (Y2 : (Int) → AH → Prop) (σ : AH) : Prop :=
 Y2 (IntKind.i64.wrap (x5_3 + 1)) σ

def j27_ref05_Asm_Add (B : World) (ro : AH) (a0 : Option Addr) (a1 : Sl) (x5_3 : Int) (x7_8 : Nat) (x129_26 : Int) (Q : Int → AH → Prop) (Y2 : (Int) → AH → Prop) (x145_28 : Bool) (σ : AH) : Prop :=
 if x145_28 = true then
  Q 51 σ
 else
 if x129_26 < 0 then
  ∃ p150_29 : Addr, a0 = some p150_29 ∧
  ∃ (x152_30 : Sl), acell ro σ p150_29 = some (Sl.v x152_30) ∧
  ∃ (x153_31a : Int) (x153_31b : Int) (x153_31c : Int) (x153_31d : Int) (x153_31e : Int) (x153_31f : Sl), cellsAt ro σ ⟨x7_8, 0, none⟩ 0 [.int .i64 x153_31a, .int .i64 x153_31b, .int .i64 x153_31c, .int .i64 x153_31d, .int .i64 x153_31e, Sl.v x153_31f] ∧
  nw ro σ (.cells #[.int .i64 x153_31a, .int .i64 x153_31b, .int .i64 x153_31c, .int .i64 x153_31d, .int .i64 x153_31e, Sl.v x153_31f] 125) fun x154_32 σ =>
  awp Tryz.prog ro (Builtin.append_ #[54, 54] 54 #[Sl.v x152_30, Sl.v (⟨some ⟨x154_32, 0, none⟩, 1, 1⟩ : Sl)]) (fun v σ => ∃ (x155_33 : Sl), v = Sl.v x155_33 ∧
   ∃ p156_34 : Addr, a0 = some p156_34 ∧
   stN p156_34 (fun σ =>
    j4_ref05_Asm_Add B ro a0 a1 x5_3 Q Y2 σ) [Sl.v x155_33] 0 σ) σ
 else
 j4_ref05_Asm_Add B ro a0 a1 x5_3 Q Y2 σ

def j24_ref05_Asm_Add (B : World) (ro : AH) (a0 : Option Addr) (a1 : Sl) (x5_3 : Int) (x7_8 : Nat) (Q : Int → AH → Prop) (Y2 : (Int) → AH → Prop) (σ : AH) : Prop :=
 ∃ (x128_25 : Int), acell ro σ ((⟨x7_8, 0, none⟩ : Addr).add (Int.toNat 2 * 1)) = some (.int .i64 x128_25) ∧
 c_ref05_Asm_find B ro a0 x128_25 σ fun x129_26 σ =>
 if 0 ≤ x129_26 then
  ∃ p134_35 : Addr, a0 = some p134_35 ∧
  ∃ (x136_36 : Sl), acell ro σ p134_35 = some (Sl.v x136_36) ∧
  ∃ p138_37 : Addr, x136_36.a = some p138_37 ∧ (0 : Int) ≤ x129_26 ∧ x129_26 < (x136_36.len : Int) ∧
  ∃ (x140_38 : Sl), acell ro σ ((p138_37.add (Int.toNat x129_26 * 6)).add 5) = some (Sl.v x140_38) ∧
  ∃ (x142_39 : Sl), acell ro σ ((⟨x7_8, 0, none⟩ : Addr).add 5) = some (Sl.v x142_39) ∧
  c_ref01_Same B ro x140_38 x142_39 σ fun x143_40 σ =>
  j27_ref05_Asm_Add B ro a0 a1 x5_3 x7_8 x129_26 Q Y2 (!x143_40) σ
 else
 j27_ref05_Asm_Add B ro a0 a1 x5_3 x7_8 x129_26 Q Y2 false σ

def j54_ref05_Asm_Add (B : World) (ro : AH) (a0 : Option Addr) (a1 : Sl) (x5_3 : Int) (x7_8 : Nat) (Q : Int → AH → Prop) (Y2 : (Int) → AH → Prop) (x124_55 : Bool) (σ : AH) : Prop :=
 if x124_55 = true then
  Q 51 σ
 else
 j24_ref05_Asm_Add B ro a0 a1 x5_3 x7_8 Q Y2 σ

def j52_ref05_Asm_Add (B : World) (ro : AH) (a0 : Option Addr) (a1 : Sl) (x5_3 : Int) (x7_8 : Nat) (x9_47 : Nat) (Q : Int → AH → Prop) (Y2 : (Int) → AH → Prop) (x116_53 : Bool) (σ : AH) : Prop :=
 if x116_53 = true then
  j54_ref05_Asm_Add B ro a0 a1 x5_3 x7_8 Q Y2 true σ
 else
 ∃ (x119_56 : Int), acell ro σ ((⟨x9_47, 0, none⟩ : Addr).add (Int.toNat 4 * 1)) = some (.int .i64 x119_56) ∧
 ∃ (x122_57 : Int), acell ro σ ((⟨x7_8, 0, none⟩ : Addr).add (Int.toNat 4 * 1)) = some (.int .i64 x122_57) ∧
 j54_ref05_Asm_Add B ro a0 a1 x5_3 x7_8 Q Y2 (!(decide (x119_56 = x122_57))) σ

def j50_ref05_Asm_Add (B : World) (ro : AH) (a0 : Option Addr) (a1 : Sl) (x5_3 : Int) (x7_8 : Nat) (x9_47 : Nat) (Q : Int → AH → Prop) (Y2 : (Int) → AH → Prop) (x108_51 : Bool) (σ : AH) : Prop :=
 if x108_51 = true then
  j52_ref05_Asm_Add B ro a0 a1 x5_3 x7_8 x9_47 Q Y2 true σ
 else
 ∃ (x111_58 : Int), acell ro σ ((⟨x9_47, 0, none⟩ : Addr).add (Int.toNat 3 * 1)) = some (.int .i64 x111_58) ∧
 ∃ (x114_59 : Int), acell ro σ ((⟨x7_8, 0, none⟩ : Addr).add (Int.toNat 3 * 1)) = some (.int .i64 x114_59) ∧
 j52_ref05_Asm_Add B ro a0 a1 x5_3 x7_8 x9_47 Q Y2 (!(decide (x111_58 = x114_59))) σ

def j22_ref05_Asm_Add (B : World) (ro : AH) (a0 : Option Addr) (a1 : Sl) (x5_3 : Int) (x7_8 : Nat) (Q : Int → AH → Prop) (Y2 : (Int) → AH → Prop) (x81_23 : Bool) (σ : AH) : Prop :=
 if x81_23 = true then
  Q 50 σ
 else
 ∃ p83_41 : Addr, a0 = some p83_41 ∧
 ∃ (x85_42 : Sl), acell ro σ p83_41 = some (Sl.v x85_42) ∧
 if 0 < (x85_42.len : Int) then
  ∃ p89_43 : Addr, a0 = some p89_43 ∧
  ∃ (x91_44 : Sl), acell ro σ p89_43 = some (Sl.v x91_44) ∧
  ∃ p92_45 : Addr, x91_44.a = some p92_45 ∧ (0 : Int) ≤ 0 ∧ 0 < (x91_44.len : Int) ∧
  ∃ (x94_46a : Int) (x94_46b : Int) (x94_46c : Int) (x94_46d : Int) (x94_46e : Int), cellsAt ro σ (p92_45.add (Int.toNat 0 * 6)) 0 [.int .i64 x94_46a, .int .i64 x94_46b, .int .i64 x94_46c, .int .i64 x94_46d, .int .i64 x94_46e] ∧
  nw ro σ (.cells #[.int .i64 0, .int .i64 0, .int .i64 0, .int .i64 0, .int .i64 0] 123) fun x9_47 σ =>
  stN ⟨x9_47, 0, none⟩ (fun σ =>
   ∃ (x96_48 : Int), acell ro σ ((⟨x9_47, 0, none⟩ : Addr).add (Int.toNat 0 * 1)) = some (.int .i64 x96_48) ∧
   ∃ (x99_49 : Int), acell ro σ ((⟨x7_8, 0, none⟩ : Addr).add (Int.toNat 0 * 1)) = some (.int .i64 x99_49) ∧
   if ¬ (x96_48 = x99_49) then
    j50_ref05_Asm_Add B ro a0 a1 x5_3 x7_8 x9_47 Q Y2 true σ
   else
   ∃ (x103_60 : Int), acell ro σ ((⟨x9_47, 0, none⟩ : Addr).add (Int.toNat 1 * 1)) = some (.int .i64 x103_60) ∧
   ∃ (x106_61 : Int), acell ro σ ((⟨x7_8, 0, none⟩ : Addr).add (Int.toNat 1 * 1)) = some (.int .i64 x106_61) ∧
   j50_ref05_Asm_Add B ro a0 a1 x5_3 x7_8 x9_47 Q Y2 (!(decide (x103_60 = x106_61))) σ) [.int .i64 x94_46a, .int .i64 x94_46b, .int .i64 x94_46c, .int .i64 x94_46d, .int .i64 x94_46e] 0 σ
 else
 j24_ref05_Asm_Add B ro a0 a1 x5_3 x7_8 Q Y2 σ

def j20_ref05_Asm_Add (B : World) (ro : AH) (a0 : Option Addr) (a1 : Sl) (x5_3 : Int) (x7_8 : Nat) (Q : Int → AH → Prop) (Y2 : (Int) → AH → Prop) (x72_21 : Bool) (σ : AH) : Prop :=
 if x72_21 = true then
  j22_ref05_Asm_Add B ro a0 a1 x5_3 x7_8 Q Y2 true σ
 else
 ∃ (x75_62 : Sl), acell ro σ ((⟨x7_8, 0, none⟩ : Addr).add 5) = some (Sl.v x75_62) ∧
 ∃ (x79_63 : Int), acell ro σ ((⟨x7_8, 0, none⟩ : Addr).add (Int.toNat 3 * 1)) = some (.int .i64 x79_63) ∧
 j22_ref05_Asm_Add B ro a0 a1 x5_3 x7_8 Q Y2 (decide (x79_63 < (x75_62.len : Int))) σ

def j18_ref05_Asm_Add (B : World) (ro : AH) (a0 : Option Addr) (a1 : Sl) (x5_3 : Int) (x7_8 : Nat) (Q : Int → AH → Prop) (Y2 : (Int) → AH → Prop) (x66_19 : Bool) (σ : AH) : Prop :=
 if x66_19 = true then
  j20_ref05_Asm_Add B ro a0 a1 x5_3 x7_8 Q Y2 true σ
 else
 ∃ (x70_64 : Int), acell ro σ ((⟨x7_8, 0, none⟩ : Addr).add (Int.toNat 3 * 1)) = some (.int .i64 x70_64) ∧
 j20_ref05_Asm_Add B ro a0 a1 x5_3 x7_8 Q Y2 (decide (1048576 < x70_64)) σ

def j16_ref05_Asm_Add (B : World) (ro : AH) (a0 : Option Addr) (a1 : Sl) (x5_3 : Int) (x7_8 : Nat) (Q : Int → AH → Prop) (Y2 : (Int) → AH → Prop) (x57_17 : Bool) (σ : AH) : Prop :=
 if x57_17 = true then
  j18_ref05_Asm_Add B ro a0 a1 x5_3 x7_8 Q Y2 true σ
 else
 ∃ (x61_65 : Int), acell ro σ ((⟨x7_8, 0, none⟩ : Addr).add (Int.toNat 2 * 1)) = some (.int .i64 x61_65) ∧
 ∃ (x64_66 : Int), acell ro σ ((⟨x7_8, 0, none⟩ : Addr).add (Int.toNat 1 * 1)) = some (.int .i64 x64_66) ∧
 j18_ref05_Asm_Add B ro a0 a1 x5_3 x7_8 Q Y2 (decide (x64_66 ≤ x61_65)) σ

def j14_ref05_Asm_Add (B : World) (ro : AH) (a0 : Option Addr) (a1 : Sl) (x5_3 : Int) (x7_8 : Nat) (Q : Int → AH → Prop) (Y2 : (Int) → AH → Prop) (x51_15 : Bool) (σ : AH) : Prop :=
 if x51_15 = true then
  j16_ref05_Asm_Add B ro a0 a1 x5_3 x7_8 Q Y2 true σ
 else
 ∃ (x55_67 : Int), acell ro σ ((⟨x7_8, 0, none⟩ : Addr).add (Int.toNat 1 * 1)) = some (.int .i64 x55_67) ∧
 j16_ref05_Asm_Add B ro a0 a1 x5_3 x7_8 Q Y2 (decide (1048576 < x55_67)) σ

def j12_ref05_Asm_Add (B : World) (ro : AH) (a0 : Option Addr) (a1 : Sl) (x5_3 : Int) (x7_8 : Nat) (Q : Int → AH → Prop) (Y2 : (Int) → AH → Prop) (x45_13 : Bool) (σ : AH) : Prop :=
 if x45_13 = true then
  j14_ref05_Asm_Add B ro a0 a1 x5_3 x7_8 Q Y2 true σ
 else
 ∃ (x49_68 : Int), acell ro σ ((⟨x7_8, 0, none⟩ : Addr).add (Int.toNat 1 * 1)) = some (.int .i64 x49_68) ∧
 j14_ref05_Asm_Add B ro a0 a1 x5_3 x7_8 Q Y2 (decide (x49_68 < 1)) σ

def j9_ref05_Asm_Add (B : World) (ro : AH) (a0 : Option Addr) (a1 : Sl) (x5_3 : Int) (x7_8 : Nat) (x22_7 : Nat) (Q : Int → AH → Prop) (Y2 : (Int) → AH → Prop) (σ : AH) : Prop :=
 c_ref01_Reader_Blob B ro (some ⟨x22_7, 0, none⟩) σ fun x34_10 σ =>
 stN ((⟨x7_8, 0, none⟩ : Addr).add 5) (fun σ =>
  ∃ (x39_11 : Int), acell ro σ ((⟨x22_7, 0, none⟩ : Addr).add 2) = some (.int .i64 x39_11) ∧
  if ¬ (x39_11 = 0) then
   j12_ref05_Asm_Add B ro a0 a1 x5_3 x7_8 Q Y2 true σ
  else
  c_ref01_Reader_Left B ro (some ⟨x22_7, 0, none⟩) σ fun x43_69 σ =>
  j12_ref05_Asm_Add B ro a0 a1 x5_3 x7_8 Q Y2 (!(decide (x43_69 = 0))) σ) [Sl.v x34_10] 0 σ

def l70_ref05_Asm_Add (B : World) (ro : AH) (a0 : Option Addr) (a1 : Sl) (x5_3 : Int) (x7_8 : Nat) (x22_7 : Nat) (Q : Int → AH → Prop) (Y2 : (Int) → AH → Prop) : (Int) → AH → ((Int) → AH → Prop) → Prop := fun x8_71 σ Y70 =>
 if x8_71 < 5 then
  c_ref01_Reader_Num B ro (some ⟨x22_7, 0, none⟩) σ fun x30_72 σ =>
  ((0 : Int) ≤ x8_71 ∧ x8_71 < 5) ∧
  stN ((⟨x7_8, 0, none⟩ : Addr).add (Int.toNat x8_71 * 1)) (fun σ =>
   Y70 (IntKind.i64.wrap (x8_71 + 1)) σ) [.int .i64 x30_72] 0 σ
 else
 j9_ref05_Asm_Add B ro a0 a1 x5_3 x7_8 x22_7 Q Y2 σ

def l2_ref05_Asm_Add (B : World) (ro : AH) (a0 : Option Addr) (a1 : Sl) (Q : Int → AH → Prop) : (Int) → AH → ((Int) → AH → Prop) → Prop := fun x5_3 σ Y2 =>
 if x5_3 < (a1.len : Int) then
  ∃ p19_5 : Addr, a1.a = some p19_5 ∧ (0 : Int) ≤ x5_3 ∧ x5_3 < (a1.len : Int) ∧
  ∃ (x20_6 : Sl), acell ro σ (p19_5.add (Int.toNat x5_3 * 1)) = some (Sl.v x20_6) ∧
  nw ro σ (.cells #[Sl.v x20_6, .int .i64 0, .int .i64 0] 122) fun x22_7 σ =>
  nw ro σ (.cells #[.int .i64 0, .int .i64 0, .int .i64 0, .int .i64 0, .int .i64 0, Sl.v (⟨none, 0, 0⟩ : Sl)] 125) fun x7_8 σ =>
  stN ⟨x7_8, 0, none⟩ (fun σ =>
   lfpD (l70_ref05_Asm_Add B ro a0 a1 x5_3 x7_8 x22_7 Q Y2 ) (0) σ) [.int .i64 0, .int .i64 0, .int .i64 0, .int .i64 0, .int .i64 0, Sl.v (⟨none, 0, 0⟩ : Sl)] 0 σ
 else
 j1_ref05_Asm_Add B ro Q σ

def f_ref05_Asm_Add (B : World) (ro : AH) (a0 : Option Addr) (a1 : Sl) (σ : AH) (Q : Int → AH → Prop) : Prop :=
 lfpD (l2_ref05_Asm_Add B ro a0 a1 Q ) (0) σ

set_option maxRecDepth 100000 in
set_option maxHeartbeats 4000000 in
theorem ref05_Asm_Add_ok {B : World} {ro : AH} {a0 : Option Addr} {a1 : Sl} {σ : AH} {Q : Int → AH → Prop} (h : Sep ro σ → f_ref05_Asm_Add B ro a0 a1 σ Q) : c_ref05_Asm_Add B ro a0 a1 σ Q := by
  refine ACalls.of_sep fun hsep => ?_
  replace h := h hsep
  refine ACalls.of_body (args := [.pointer a0, Sl.v a1]) Tryz.func22 rfl (by rw [Tryz.ntmps22]; simp) ?_
  rw [Tryz.ntmps22]
  unfold f_ref05_Asm_Add at h
  refine AW.seq ?_
  refine AW.reg ?_
  refine Lp (V_asg rfl rfl) rfl rfl ?_
  refine Lnil ?_
  refine thenN ?_
  refine AW.seqJ (fun fr σ => FrLe [] fr ∧ j1_ref05_Asm_Add B ro Q σ) ?_ ?_
  · rintro fr σ ⟨hl, h⟩
    refine AW.weaken ?_ hl (HLe.refl _)
    unfold j1_ref05_Asm_Add at h
    refine AW.seq ?_
    refine AW.reg ?_
    refine Lp (V_asg rfl rfl) rfl rfl ?_
    refine Lnil ?_
    refine thenN ?_
    refine AW.ret ?_
    exact bR1 Tryz.results22 rfl ⟨_, rfl, h⟩
  refine AW.seq ?_
  refine AW.reg ?_
  refine Lp (V_asg rfl rfl) rfl rfl ?_
  refine Lnil ?_
  refine thenN ?_
  refine AW.block ?_
  refine ARound.loop (fr' := [(0, .pointer a0), (1, Sl.v a1), (5, .int .i64 0)]) ?_ (FrLe.cons rfl (FrLe.cons rfl (FrLe.cons rfl (FrLe.nil _))))
  refine h (fun x5_3 σ => ARound _ _ _ _ _ _ [(0, .pointer a0), (1, Sl.v a1), (5, .int .i64 x5_3)] σ) ?_
  rintro x5_3 σ Y2 hY2 h
  show AW _ _ _ _ _ _ _ _
  unfold l2_ref05_Asm_Add at h
  refine AW.seq ?_
  refine AW.seq ?_
  refine AW.reg ?_
  refine Lp (V_move rfl rfl) rfl rfl ?_
  refine Lp (V_move rfl rfl) rfl rfl ?_
  refine Lp (V_lenL rfl rfl Tryz.underlying44 rfl rfl) rfl rfl ?_
  refine Lp (V_lss rfl rfl rfl) rfl rfl ?_
  refine Lnil ?_
  refine thenN ?_
  refine AW.iff rfl decide_eq_true_iff h (fun h => ?_) (fun h => ?_)
  rotate_left
  · refine AW.exit ?_
    refine thenE ?_
    refine thenE ?_
    refine blockE ?_
    refine thenN ?_
    exact ⟨(FrLe.nil _), h⟩
  refine AW.skip ?_
  refine thenN ?_
  refine AW.seqJ (fun fr σ => FrLe [(0, .pointer a0), (1, Sl.v a1), (5, .int .i64 x5_3)] fr ∧ j4_ref05_Asm_Add B ro a0 a1 x5_3 Q Y2 σ) ?_ ?_
  · rintro fr σ ⟨hl, h⟩
    refine AW.weaken ?_ hl (HLe.refl _)
    unfold j4_ref05_Asm_Add at h
    refine AW.reg ?_
    refine Lp (V_move rfl rfl) rfl rfl ?_
    refine Lp (V_add rfl rfl rfl) rfl rfl ?_
    refine Lp (V_asg rfl rfl) rfl rfl ?_
    refine Lnil ?_
    refine thenN ?_
    refine ARound.head (fr' := [(0, .pointer a0), (1, Sl.v a1), (5, .int .i64 (IntKind.i64.wrap (x5_3 + 1)))]) ?_ (FrLe.cons rfl (FrLe.cons rfl (FrLe.cons rfl (FrLe.nil _))))
    exact hY2 _ _ h
  refine AW.block ?_
  refine AW.seq ?_
  refine AW.reg ?_
  refine Lp (V_move rfl rfl) rfl rfl ?_
  refine Lp (V_move rfl rfl) rfl rfl ?_
  obtain ⟨p19_5, ha, h0, h1, h⟩ := h
  refine Lp (V_ixA rfl Tryz.underlying44 ty22 (ixL rfl ha) rfl h0 h1) rfl rfl ?_
  obtain ⟨x20_6, hc, h⟩ := h
  refine Ls rfl rfl (X_ld rfl Tryz.underlying22 rfl rfl hc ?_)
  refine Lp (V_bld (vs := [(0, Sl.v x20_6)]) (cs := #[Sl.v x20_6, .int .i64 0, .int .i64 0]) rfl Tryz.underlying122 ty122 pl122 rfl rfl) rfl rfl ?_
  refine Ls rfl rfl (X_new (A_box rfl rfl) fun x22_7 g1 g2 => ?_)
  replace h := h x22_7 g1 g2
  refine Lp (V_asg rfl rfl) rfl rfl ?_
  refine Lnil ?_
  refine thenN ?_
  refine AW.seq ?_
  refine AW.reg ?_
  refine Lp (V_bld (vs := []) (cs := #[.int .i64 0, .int .i64 0, .int .i64 0, .int .i64 0, .int .i64 0, Sl.v (⟨none, 0, 0⟩ : Sl)]) rfl Tryz.underlying125 ty125 pl125 rfl rfl) rfl rfl ?_
  refine Ls rfl rfl (X_new (A_alloc rfl ty125) fun x7_8 g1 g2 => ?_)
  replace h := h x7_8 g1 g2
  refine Ls rfl rfl (X_st rfl ty125 rfl rfl rfl rfl (stN_mono h fun σ h => ?_))
  refine Lnil ?_
  refine thenN ?_
  refine AW.seqJ (fun fr σ => FrLe [(0, .pointer a0), (1, Sl.v a1), (5, .int .i64 x5_3), (6, .pointer (some ⟨x22_7, 0, none⟩)), (7, .pointer (some ⟨x7_8, 0, none⟩))] fr ∧ j9_ref05_Asm_Add B ro a0 a1 x5_3 x7_8 x22_7 Q Y2 σ) ?_ ?_
  rotate_left
  · refine AW.seq ?_
    refine AW.reg ?_
    refine Lp (V_asg rfl rfl) rfl rfl ?_
    refine Lnil ?_
    refine thenN ?_
    refine AW.block ?_
    refine ARound.loop (fr' := [(0, .pointer a0), (1, Sl.v a1), (5, .int .i64 x5_3), (6, .pointer (some ⟨x22_7, 0, none⟩)), (7, .pointer (some ⟨x7_8, 0, none⟩)), (8, .int .i64 0)]) ?_ (FrLe.cons rfl (FrLe.cons rfl (FrLe.cons rfl (FrLe.cons rfl (FrLe.cons rfl (FrLe.cons rfl (FrLe.nil _)))))))
    refine h (fun x8_71 σ => ARound _ _ _ _ _ _ [(0, .pointer a0), (1, Sl.v a1), (5, .int .i64 x5_3), (6, .pointer (some ⟨x22_7, 0, none⟩)), (7, .pointer (some ⟨x7_8, 0, none⟩)), (8, .int .i64 x8_71)] σ) ?_
    rintro x8_71 σ Y70 hY70 h
    show AW _ _ _ _ _ _ _ _
    unfold l70_ref05_Asm_Add at h
    refine AW.seq ?_
    refine AW.seq ?_
    refine AW.reg ?_
    refine Lp (V_move rfl rfl) rfl rfl ?_
    refine Lp (V_lss rfl rfl rfl) rfl rfl ?_
    refine Lnil ?_
    refine thenN ?_
    refine AW.iff rfl decide_eq_true_iff h (fun h => ?_) (fun h => ?_)
    rotate_left
    · refine AW.exit ?_
      refine thenE ?_
      refine thenE ?_
      refine blockE ?_
      refine thenN ?_
      exact ⟨(FrLe.cons rfl (FrLe.cons rfl (FrLe.cons rfl (FrLe.cons rfl (FrLe.cons rfl (FrLe.nil _)))))), h⟩
    refine AW.skip ?_
    refine thenN ?_
    refine AW.seq ?_
    refine AW.block ?_
    refine AW.reg ?_
    refine Lp (V_move rfl rfl) rfl rfl ?_
    refine Lp (V_move rfl rfl) rfl rfl ?_
    refine Ls rfl rfl (X_call rfl Tryz.func62 rfl rfl rfl (ACalls.mono h ?_))
    rintro v σ ⟨x30_72, rfl, h⟩
    refine Lp (V_fld rfl Tryz.underlying125 rfl ty123 (by decide) rfl) rfl rfl ?_
    obtain ⟨⟨h0, h1⟩, h⟩ := h
    refine Lp (V_ixP rfl Tryz.underlying123 ty3 rfl rfl h0 (by omega)) rfl rfl ?_
    refine Ls rfl rfl (X_st rfl ty3 rfl rfl rfl rfl (stN_mono h fun σ h => ?_))
    refine Lnil ?_
    refine blockN ?_
    refine thenN ?_
    refine AW.reg ?_
    refine Lp (V_move rfl rfl) rfl rfl ?_
    refine Lp (V_add rfl rfl rfl) rfl rfl ?_
    refine Lp (V_asg rfl rfl) rfl rfl ?_
    refine Lnil ?_
    refine thenN ?_
    refine ARound.head (fr' := [(0, .pointer a0), (1, Sl.v a1), (5, .int .i64 x5_3), (6, .pointer (some ⟨x22_7, 0, none⟩)), (7, .pointer (some ⟨x7_8, 0, none⟩)), (8, .int .i64 (IntKind.i64.wrap (x8_71 + 1)))]) ?_ (FrLe.cons rfl (FrLe.cons rfl (FrLe.cons rfl (FrLe.cons rfl (FrLe.cons rfl (FrLe.cons rfl (FrLe.nil _)))))))
    exact hY70 _ _ h
  rintro fr σ ⟨hl, h⟩
  refine AW.weaken ?_ hl (HLe.refl _)
  unfold j9_ref05_Asm_Add at h
  refine AW.seq ?_
  refine AW.reg ?_
  refine Lp (V_move rfl rfl) rfl rfl ?_
  refine Ls rfl rfl (X_call rfl Tryz.func63 rfl rfl rfl (ACalls.mono h ?_))
  rintro v σ ⟨x34_10, rfl, h⟩
  refine Lp (V_fld rfl Tryz.underlying125 rfl ty22 (by decide) rfl) rfl rfl ?_
  refine Ls rfl rfl (X_st rfl ty22 rfl rfl rfl rfl (stN_mono h fun σ h => ?_))
  refine Lnil ?_
  refine thenN ?_
  refine AW.seq ?_
  refine AW.seq ?_
  refine AW.reg ?_
  refine Lp (V_move rfl rfl) rfl rfl ?_
  refine Lp (V_nil rfl rfl) rfl rfl ?_
  refine Lp (V_fld rfl Tryz.underlying122 rfl ty3 (by decide) rfl) rfl rfl ?_
  obtain ⟨x39_11, hc, h⟩ := h
  refine Ls rfl rfl (X_ld rfl Tryz.underlying3 rfl rfl hc ?_)
  refine Lp (V_neq rfl rfl rfl) rfl rfl ?_
  refine Lp (V_move rfl rfl) rfl rfl ?_
  refine LsplitJ 4 (!(decide (x39_11 = 0))) (bnot_iff decide_eq_true_iff) h (fun fr σ => ∃ (x45_13 : Bool), FrLe [(0, .pointer a0), (1, Sl.v a1), (5, .int .i64 x5_3), (7, .pointer (some ⟨x7_8, 0, none⟩)), (45, .bool x45_13)] fr ∧ j12_ref05_Asm_Add B ro a0 a1 x5_3 x7_8 Q Y2 x45_13 σ) ?_ ?_ ?_
  · intro h e5 hk5
    refine Ln rfl rfl rfl rfl (.inl (by rw [e5]; rfl)) ?_
    refine Ln rfl rfl rfl rfl (.inl (by rw [e5]; rfl)) ?_
    refine Ln rfl rfl rfl rfl (.inl (by rw [e5]; rfl)) ?_
    refine Lp (V_pickT rfl (evb e5) rfl) rfl rfl ?_
    exact hk5 _ _ ⟨_, (FrLe.cons rfl (FrLe.cons rfl (FrLe.cons rfl (FrLe.cons rfl (FrLe.cons rfl (FrLe.nil _)))))), h⟩
  · intro h e5 hk5
    refine Lypb (V_move rfl rfl) rfl rfl rfl rfl e5 ?_
    refine Lyb rfl rfl rfl rfl e5 (X_call rfl Tryz.func64 rfl rfl rfl (ACalls.mono h ?_))
    rintro v σ ⟨x43_69, rfl, h⟩
    refine Lypb (V_neq rfl rfl rfl) rfl rfl rfl rfl e5 ?_
    refine Lp (V_pickF rfl (evb e5) rfl) rfl rfl ?_
    exact hk5 _ _ ⟨_, (FrLe.cons rfl (FrLe.cons rfl (FrLe.cons rfl (FrLe.cons rfl (FrLe.cons rfl (FrLe.nil _)))))), h⟩
  rintro fr σ ⟨x45_13, hl, h⟩
  unfold j12_ref05_Asm_Add at h
  refine Lfr hl ?_
  refine Lp (V_move rfl rfl) rfl rfl ?_
  refine LsplitJ 5 x45_13 Iff.rfl h (fun fr σ => ∃ (x51_15 : Bool), FrLe [(0, .pointer a0), (1, Sl.v a1), (5, .int .i64 x5_3), (7, .pointer (some ⟨x7_8, 0, none⟩)), (51, .bool x51_15)] fr ∧ j14_ref05_Asm_Add B ro a0 a1 x5_3 x7_8 Q Y2 x51_15 σ) ?_ ?_ ?_
  · intro h e10 hk10
    refine Ln rfl rfl rfl rfl (.inl (by rw [e10]; rfl)) ?_
    refine Ln rfl rfl rfl rfl (.inl (by rw [e10]; rfl)) ?_
    refine Ln rfl rfl rfl rfl (.inl (by rw [e10]; rfl)) ?_
    refine Ln rfl rfl rfl rfl (.inl (by rw [e10]; rfl)) ?_
    refine Lp (V_pickT rfl (evb e10) rfl) rfl rfl ?_
    exact hk10 _ _ ⟨_, (FrLe.cons rfl (FrLe.cons rfl (FrLe.cons rfl (FrLe.cons rfl (FrLe.cons rfl (FrLe.nil _)))))), h⟩
  · intro h e10 hk10
    refine Lypb (V_fld rfl Tryz.underlying125 rfl ty123 (by decide) rfl) rfl rfl rfl rfl e10 ?_
    refine Lypb (V_ixP rfl Tryz.underlying123 ty3 rfl rfl (by decide) (by decide)) rfl rfl rfl rfl e10 ?_
    obtain ⟨x49_68, hc, h⟩ := h
    refine Lyb rfl rfl rfl rfl e10 (X_ld rfl Tryz.underlying3 rfl rfl hc ?_)
    refine Lypb (V_lss rfl rfl rfl) rfl rfl rfl rfl e10 ?_
    refine Lp (V_pickF rfl (evb e10) rfl) rfl rfl ?_
    exact hk10 _ _ ⟨_, (FrLe.cons rfl (FrLe.cons rfl (FrLe.cons rfl (FrLe.cons rfl (FrLe.cons rfl (FrLe.nil _)))))), h⟩
  rintro fr σ ⟨x51_15, hl, h⟩
  unfold j14_ref05_Asm_Add at h
  refine Lfr hl ?_
  refine Lp (V_move rfl rfl) rfl rfl ?_
  refine LsplitJ 5 x51_15 Iff.rfl h (fun fr σ => ∃ (x57_17 : Bool), FrLe [(0, .pointer a0), (1, Sl.v a1), (5, .int .i64 x5_3), (7, .pointer (some ⟨x7_8, 0, none⟩)), (57, .bool x57_17)] fr ∧ j16_ref05_Asm_Add B ro a0 a1 x5_3 x7_8 Q Y2 x57_17 σ) ?_ ?_ ?_
  · intro h e16 hk16
    refine Ln rfl rfl rfl rfl (.inl (by rw [e16]; rfl)) ?_
    refine Ln rfl rfl rfl rfl (.inl (by rw [e16]; rfl)) ?_
    refine Ln rfl rfl rfl rfl (.inl (by rw [e16]; rfl)) ?_
    refine Ln rfl rfl rfl rfl (.inl (by rw [e16]; rfl)) ?_
    refine Lp (V_pickT rfl (evb e16) rfl) rfl rfl ?_
    exact hk16 _ _ ⟨_, (FrLe.cons rfl (FrLe.cons rfl (FrLe.cons rfl (FrLe.cons rfl (FrLe.cons rfl (FrLe.nil _)))))), h⟩
  · intro h e16 hk16
    refine Lypb (V_fld rfl Tryz.underlying125 rfl ty123 (by decide) rfl) rfl rfl rfl rfl e16 ?_
    refine Lypb (V_ixP rfl Tryz.underlying123 ty3 rfl rfl (by decide) (by decide)) rfl rfl rfl rfl e16 ?_
    obtain ⟨x55_67, hc, h⟩ := h
    refine Lyb rfl rfl rfl rfl e16 (X_ld rfl Tryz.underlying3 rfl rfl hc ?_)
    refine Lypb (V_gtr rfl rfl rfl) rfl rfl rfl rfl e16 ?_
    refine Lp (V_pickF rfl (evb e16) rfl) rfl rfl ?_
    exact hk16 _ _ ⟨_, (FrLe.cons rfl (FrLe.cons rfl (FrLe.cons rfl (FrLe.cons rfl (FrLe.cons rfl (FrLe.nil _)))))), h⟩
  rintro fr σ ⟨x57_17, hl, h⟩
  unfold j16_ref05_Asm_Add at h
  refine Lfr hl ?_
  refine Lp (V_move rfl rfl) rfl rfl ?_
  refine LsplitJ 8 x57_17 Iff.rfl h (fun fr σ => ∃ (x66_19 : Bool), FrLe [(0, .pointer a0), (1, Sl.v a1), (5, .int .i64 x5_3), (7, .pointer (some ⟨x7_8, 0, none⟩)), (66, .bool x66_19)] fr ∧ j18_ref05_Asm_Add B ro a0 a1 x5_3 x7_8 Q Y2 x66_19 σ) ?_ ?_ ?_
  · intro h e22 hk22
    refine Ln rfl rfl rfl rfl (.inl (by rw [e22]; rfl)) ?_
    refine Ln rfl rfl rfl rfl (.inl (by rw [e22]; rfl)) ?_
    refine Ln rfl rfl rfl rfl (.inl (by rw [e22]; rfl)) ?_
    refine Ln rfl rfl rfl rfl (.inl (by rw [e22]; rfl)) ?_
    refine Ln rfl rfl rfl rfl (.inl (by rw [e22]; rfl)) ?_
    refine Ln rfl rfl rfl rfl (.inl (by rw [e22]; rfl)) ?_
    refine Ln rfl rfl rfl rfl (.inl (by rw [e22]; rfl)) ?_
    refine Lp (V_pickT rfl (evb e22) rfl) rfl rfl ?_
    exact hk22 _ _ ⟨_, (FrLe.cons rfl (FrLe.cons rfl (FrLe.cons rfl (FrLe.cons rfl (FrLe.cons rfl (FrLe.nil _)))))), h⟩
  · intro h e22 hk22
    refine Lypb (V_fld rfl Tryz.underlying125 rfl ty123 (by decide) rfl) rfl rfl rfl rfl e22 ?_
    refine Lypb (V_ixP rfl Tryz.underlying123 ty3 rfl rfl (by decide) (by decide)) rfl rfl rfl rfl e22 ?_
    obtain ⟨x61_65, hc, h⟩ := h
    refine Lyb rfl rfl rfl rfl e22 (X_ld rfl Tryz.underlying3 rfl rfl hc ?_)
    refine Lypb (V_fld rfl Tryz.underlying125 rfl ty123 (by decide) rfl) rfl rfl rfl rfl e22 ?_
    refine Lypb (V_ixP rfl Tryz.underlying123 ty3 rfl rfl (by decide) (by decide)) rfl rfl rfl rfl e22 ?_
    obtain ⟨x64_66, hc, h⟩ := h
    refine Lyb rfl rfl rfl rfl e22 (X_ld rfl Tryz.underlying3 rfl rfl hc ?_)
    refine Lypb (V_geq rfl rfl rfl) rfl rfl rfl rfl e22 ?_
    refine Lp (V_pickF rfl (evb e22) rfl) rfl rfl ?_
    exact hk22 _ _ ⟨_, (FrLe.cons rfl (FrLe.cons rfl (FrLe.cons rfl (FrLe.cons rfl (FrLe.cons rfl (FrLe.nil _)))))), h⟩
  rintro fr σ ⟨x66_19, hl, h⟩
  unfold j18_ref05_Asm_Add at h
  refine Lfr hl ?_
  refine Lp (V_move rfl rfl) rfl rfl ?_
  refine LsplitJ 5 x66_19 Iff.rfl h (fun fr σ => ∃ (x72_21 : Bool), FrLe [(0, .pointer a0), (1, Sl.v a1), (5, .int .i64 x5_3), (7, .pointer (some ⟨x7_8, 0, none⟩)), (72, .bool x72_21)] fr ∧ j20_ref05_Asm_Add B ro a0 a1 x5_3 x7_8 Q Y2 x72_21 σ) ?_ ?_ ?_
  · intro h e31 hk31
    refine Ln rfl rfl rfl rfl (.inl (by rw [e31]; rfl)) ?_
    refine Ln rfl rfl rfl rfl (.inl (by rw [e31]; rfl)) ?_
    refine Ln rfl rfl rfl rfl (.inl (by rw [e31]; rfl)) ?_
    refine Ln rfl rfl rfl rfl (.inl (by rw [e31]; rfl)) ?_
    refine Lp (V_pickT rfl (evb e31) rfl) rfl rfl ?_
    exact hk31 _ _ ⟨_, (FrLe.cons rfl (FrLe.cons rfl (FrLe.cons rfl (FrLe.cons rfl (FrLe.cons rfl (FrLe.nil _)))))), h⟩
  · intro h e31 hk31
    refine Lypb (V_fld rfl Tryz.underlying125 rfl ty123 (by decide) rfl) rfl rfl rfl rfl e31 ?_
    refine Lypb (V_ixP rfl Tryz.underlying123 ty3 rfl rfl (by decide) (by decide)) rfl rfl rfl rfl e31 ?_
    obtain ⟨x70_64, hc, h⟩ := h
    refine Lyb rfl rfl rfl rfl e31 (X_ld rfl Tryz.underlying3 rfl rfl hc ?_)
    refine Lypb (V_gtr rfl rfl rfl) rfl rfl rfl rfl e31 ?_
    refine Lp (V_pickF rfl (evb e31) rfl) rfl rfl ?_
    exact hk31 _ _ ⟨_, (FrLe.cons rfl (FrLe.cons rfl (FrLe.cons rfl (FrLe.cons rfl (FrLe.cons rfl (FrLe.nil _)))))), h⟩
  rintro fr σ ⟨x72_21, hl, h⟩
  unfold j20_ref05_Asm_Add at h
  refine Lfr hl ?_
  refine Lp (V_move rfl rfl) rfl rfl ?_
  refine LsplitJ 8 x72_21 Iff.rfl h (fun fr σ => ∃ (x81_23 : Bool), FrLe [(0, .pointer a0), (1, Sl.v a1), (5, .int .i64 x5_3), (7, .pointer (some ⟨x7_8, 0, none⟩)), (81, .bool x81_23)] fr ∧ j22_ref05_Asm_Add B ro a0 a1 x5_3 x7_8 Q Y2 x81_23 σ) ?_ ?_ ?_
  · intro h e37 hk37
    refine Ln rfl rfl rfl rfl (.inl (by rw [e37]; rfl)) ?_
    refine Ln rfl rfl rfl rfl (.inl (by rw [e37]; rfl)) ?_
    refine Ln rfl rfl rfl rfl (.inl (by rw [e37]; rfl)) ?_
    refine Ln rfl rfl rfl rfl (.inl (by rw [e37]; rfl)) ?_
    refine Ln rfl rfl rfl rfl (.inl (by rw [e37]; rfl)) ?_
    refine Ln rfl rfl rfl rfl (.inl (by rw [e37]; rfl)) ?_
    refine Ln rfl rfl rfl rfl (.inl (by rw [e37]; rfl)) ?_
    refine Lp (V_pickT rfl (evb e37) rfl) rfl rfl ?_
    exact hk37 _ _ ⟨_, (FrLe.cons rfl (FrLe.cons rfl (FrLe.cons rfl (FrLe.cons rfl (FrLe.cons rfl (FrLe.nil _)))))), h⟩
  · intro h e37 hk37
    refine Lypb (V_fld rfl Tryz.underlying125 rfl ty22 (by decide) rfl) rfl rfl rfl rfl e37 ?_
    obtain ⟨x75_62, hc, h⟩ := h
    refine Lyb rfl rfl rfl rfl e37 (X_ld rfl Tryz.underlying22 rfl rfl hc ?_)
    refine Lypb (V_lenL rfl rfl Tryz.underlying22 rfl rfl) rfl rfl rfl rfl e37 ?_
    refine Lypb (V_fld rfl Tryz.underlying125 rfl ty123 (by decide) rfl) rfl rfl rfl rfl e37 ?_
    refine Lypb (V_ixP rfl Tryz.underlying123 ty3 rfl rfl (by decide) (by decide)) rfl rfl rfl rfl e37 ?_
    obtain ⟨x79_63, hc, h⟩ := h
    refine Lyb rfl rfl rfl rfl e37 (X_ld rfl Tryz.underlying3 rfl rfl hc ?_)
    refine Lypb (V_gtr rfl rfl rfl) rfl rfl rfl rfl e37 ?_
    refine Lp (V_pickF rfl (evb e37) rfl) rfl rfl ?_
    exact hk37 _ _ ⟨_, (FrLe.cons rfl (FrLe.cons rfl (FrLe.cons rfl (FrLe.cons rfl (FrLe.cons rfl (FrLe.nil _)))))), h⟩
  rintro fr σ ⟨x81_23, hl, h⟩
  unfold j22_ref05_Asm_Add at h
  refine Lfr hl ?_
  refine Lnil ?_
  refine thenN ?_
  refine AW.iff rfl Iff.rfl h (fun h => ?_) (fun h => ?_)
  · refine AW.seq ?_
    refine AW.reg ?_
    refine Lp (V_asg rfl rfl) rfl rfl ?_
    refine Lnil ?_
    refine thenN ?_
    refine AW.ret ?_
    refine thenR ?_
    refine blockR ?_
    refine thenR ?_
    refine thenR ?_
    refine blockR ?_
    refine thenR ?_
    exact bR1 Tryz.results22 rfl ⟨_, rfl, h⟩
  refine AW.skip ?_
  refine thenN ?_
  refine AW.seqJ (fun fr σ => FrLe [(0, .pointer a0), (1, Sl.v a1), (5, .int .i64 x5_3), (7, .pointer (some ⟨x7_8, 0, none⟩))] fr ∧ j24_ref05_Asm_Add B ro a0 a1 x5_3 x7_8 Q Y2 σ) ?_ ?_
  · rintro fr σ ⟨hl, h⟩
    refine AW.weaken ?_ hl (HLe.refl _)
    unfold j24_ref05_Asm_Add at h
    refine AW.seq ?_
    refine AW.reg ?_
    refine Lp (V_move rfl rfl) rfl rfl ?_
    refine Lp (V_fld rfl Tryz.underlying125 rfl ty123 (by decide) rfl) rfl rfl ?_
    refine Lp (V_ixP rfl Tryz.underlying123 ty3 rfl rfl (by decide) (by decide)) rfl rfl ?_
    obtain ⟨x128_25, hc, h⟩ := h
    refine Ls rfl rfl (X_ld rfl Tryz.underlying3 rfl rfl hc ?_)
    refine Ls rfl rfl (X_call rfl Tryz.func65 rfl rfl rfl (ACalls.mono h ?_))
    rintro v σ ⟨x129_26, rfl, h⟩
    refine Lp (V_asg rfl rfl) rfl rfl ?_
    refine Lnil ?_
    refine thenN ?_
    refine AW.seq ?_
    refine AW.seqJ (fun fr σ => ∃ (x145_28 : Bool), FrLe [(0, .pointer a0), (1, Sl.v a1), (5, .int .i64 x5_3), (7, .pointer (some ⟨x7_8, 0, none⟩)), (10, .int .i64 x129_26), (145, .bool x145_28)] fr ∧ j27_ref05_Asm_Add B ro a0 a1 x5_3 x7_8 x129_26 Q Y2 x145_28 σ) ?_ ?_
    · rintro fr σ ⟨x145_28, hl, h⟩
      refine AW.weaken ?_ hl (HLe.refl _)
      unfold j27_ref05_Asm_Add at h
      refine AW.iff rfl Iff.rfl h (fun h => ?_) (fun h => ?_)
      · refine AW.seq ?_
        refine AW.reg ?_
        refine Lp (V_asg rfl rfl) rfl rfl ?_
        refine Lnil ?_
        refine thenN ?_
        refine AW.ret ?_
        refine thenR ?_
        refine blockR ?_
        refine thenR ?_
        refine thenR ?_
        refine blockR ?_
        refine thenR ?_
        exact bR1 Tryz.results22 rfl ⟨_, rfl, h⟩
      refine AW.skip ?_
      refine thenN ?_
      refine AW.seq ?_
      refine AW.reg ?_
      refine Lp (V_move rfl rfl) rfl rfl ?_
      refine Lp (V_lss rfl rfl rfl) rfl rfl ?_
      refine Lnil ?_
      refine thenN ?_
      refine AW.iff rfl decide_eq_true_iff h (fun h => ?_) (fun h => ?_)
      rotate_left
      · refine AW.skip ?_
        refine blockN ?_
        refine thenN ?_
        exact ⟨(FrLe.cons rfl (FrLe.cons rfl (FrLe.cons rfl (FrLe.nil _)))), h⟩
      refine AW.drawn0 (fun i => ([0, 0, 0, 0, 3, 3, 1, 2, 0, 0, 2] : List Nat).getD i 2) [(5, 6), (5, 7)] [0, 1, 2, 3, 4, 5, 6, 7, 8, 9, 10] Tryz.mixed (by decide +kernel) ?_
      refine Dp rfl rfl rfl rfl (V_move rfl rfl) ?_
      refine Dp rfl rfl rfl rfl (V_move rfl rfl) ?_
      obtain ⟨p150_29, hc, h⟩ := h
      refine Dp rfl rfl rfl rfl (V_nil rfl (by rw [← hc]; rfl)) ?_
      refine Dp rfl rfl rfl rfl (V_fld rfl Tryz.underlying56 rfl ty54 (by decide) rfl) ?_
      obtain ⟨x152_30, hc, h⟩ := h
      refine Dr rfl rfl rfl rfl (R_ld rfl Tryz.underlying54 rfl rfl hc) ?_
      obtain ⟨x153_31a, x153_31b, x153_31c, x153_31d, x153_31e, x153_31f, hc, h⟩ := h
      refine Dr rfl rfl rfl rfl (R_lda rfl Tryz.underlying125 rfl ty125 rfl hc) ?_
      refine Da rfl rfl rfl rfl (A_bsl (vs := [(0, .agg #[.int .i64 x153_31a, .int .i64 x153_31b, .int .i64 x153_31c, .int .i64 x153_31d, .int .i64 x153_31e, Sl.v x153_31f])]) (cs := #[.int .i64 x153_31a, .int .i64 x153_31b, .int .i64 x153_31c, .int .i64 x153_31d, .int .i64 x153_31e, Sl.v x153_31f]) rfl Tryz.underlying54 ty125 (by decide) rfl rfl) fun x154_32 g1 g2 => ?_
      replace h := h x154_32 g1 g2
      refine Dg rfl rfl rfl rfl (X_bi (s := Builtin.append_ #[54, 54] 54 #[Sl.v x152_30, Sl.v (⟨some ⟨x154_32, 0, none⟩, 1, 1⟩ : Sl)]) rfl rfl (fun _ => rfl) (awp_mono _ h ?_))
      rintro v σ ⟨x155_33, rfl, h⟩
      obtain ⟨p156_34, hc, h⟩ := h
      refine Dp rfl rfl rfl rfl (V_nil rfl (by rw [← hc]; rfl)) ?_
      refine Dp rfl rfl rfl rfl (V_fld rfl Tryz.underlying56 rfl ty54 (by decide) rfl) ?_
      refine Dg rfl rfl rfl rfl (X_st rfl ty54 rfl rfl rfl rfl (stN_mono h fun σ h => ?_))
      refine Dend ?_
      refine blockN ?_
      refine thenN ?_
      exact ⟨(FrLe.cons rfl (FrLe.cons rfl (FrLe.cons rfl (FrLe.nil _)))), h⟩
    refine AW.drawn0 (fun i => ([0, 0, 0, 0, 0, 0, 3, 0, 0, 0, 3, 0, 3, 2, 0, 0] : List Nat).getD i 2) [(6, 8), (6, 9), (6, 10), (6, 13)] [0, 1, 2, 3, 4, 5, 7, 11, 6, 8, 9, 10, 12, 13, 14, 15] Tryz.mixed (by decide +kernel) ?_
    refine Dp rfl rfl rfl rfl (V_move rfl rfl) ?_
    refine Dp rfl rfl rfl rfl (V_geq rfl rfl rfl) ?_
    refine Dp rfl rfl rfl rfl (V_move rfl rfl) ?_
    refine splitP (decide (0 ≤ x129_26)) decide_eq_true_iff h ?_ ?_
    rotate_left
    · intro h e2
      refine Dpn rfl rfl rfl rfl rfl (.inl (by rw [e2]; rfl)) rfl ?_
      refine Dpn rfl rfl rfl rfl rfl (.inl (by rw [e2]; rfl)) rfl ?_
      refine Dpn rfl rfl rfl rfl rfl (.inl (by rw [e2]; rfl)) rfl ?_
      refine Dpn rfl rfl rfl rfl rfl (.inl (by rw [e2]; rfl)) rfl ?_
      refine Dpn rfl rfl rfl rfl rfl (.inl (by rw [e2]; rfl)) rfl ?_
      refine Drn rfl rfl rfl rfl rfl (.inl (by rw [e2]; rfl)) rfl ?_
      refine Dpn rfl rfl rfl rfl rfl (.inl (by rw [e2]; rfl)) rfl ?_
      refine Dpn rfl rfl rfl rfl rfl (.inl (by rw [e2]; rfl)) rfl ?_
      refine Drn rfl rfl rfl rfl rfl (.inl (by rw [e2]; rfl)) rfl ?_
      refine Drn rfl rfl rfl rfl rfl (.inl (by rw [e2]; rfl)) rfl ?_
      refine Dgn rfl rfl rfl rfl rfl (.inl (by rw [e2]; rfl)) rfl ?_
      refine Dpn rfl rfl rfl rfl rfl (.inl (by rw [e2]; rfl)) rfl ?_
      refine Dp rfl rfl rfl rfl (V_pickF rfl (evb e2) rfl) ?_
      refine Dend ?_
      refine thenN ?_
      exact ⟨_, (FrLe.cons rfl (FrLe.cons rfl (FrLe.cons rfl (FrLe.cons rfl (FrLe.cons rfl (FrLe.cons rfl (FrLe.nil _))))))), h⟩
    intro h e2
    refine Dpy rfl rfl rfl rfl rfl e2 rfl (V_move rfl rfl) ?_
    obtain ⟨p134_35, hc, h⟩ := h
    refine Dpy rfl rfl rfl rfl rfl e2 rfl (V_nil rfl (by rw [← hc]; rfl)) ?_
    refine Dpy rfl rfl rfl rfl rfl e2 rfl (V_fld rfl Tryz.underlying56 rfl ty54 (by decide) rfl) ?_
    refine Dpy rfl rfl rfl rfl rfl e2 rfl (V_move rfl rfl) ?_
    refine Dpy rfl rfl rfl rfl rfl e2 rfl (V_fld rfl Tryz.underlying125 rfl ty22 (by decide) rfl) ?_
    obtain ⟨x136_36, hc, h⟩ := h
    refine Dry rfl rfl rfl rfl rfl e2 rfl (R_ld rfl Tryz.underlying54 rfl rfl hc) ?_
    obtain ⟨p138_37, ha, h0, h1, h⟩ := h
    refine Dpy rfl rfl rfl rfl rfl e2 rfl (V_ixA rfl Tryz.underlying54 ty125 (ixL rfl ha) rfl h0 h1) ?_
    refine Dpy rfl rfl rfl rfl rfl e2 rfl (V_fld rfl Tryz.underlying125 rfl ty22 (by decide) rfl) ?_
    obtain ⟨x140_38, hc, h⟩ := h
    refine Dry rfl rfl rfl rfl rfl e2 rfl (R_ld rfl Tryz.underlying22 rfl rfl hc) ?_
    obtain ⟨x142_39, hc, h⟩ := h
    refine Dry rfl rfl rfl rfl rfl e2 rfl (R_ld rfl Tryz.underlying22 rfl rfl hc) ?_
    refine Dgy rfl rfl rfl rfl rfl e2 rfl (X_call rfl Tryz.func17 rfl rfl rfl (ACalls.mono h ?_))
    rintro v σ ⟨x143_40, rfl, h⟩
    refine Dpy rfl rfl rfl rfl rfl e2 rfl (V_not rfl rfl) ?_
    refine Dp rfl rfl rfl rfl (V_pickT rfl (evb e2) rfl) ?_
    refine Dend ?_
    refine thenN ?_
    exact ⟨_, (FrLe.cons rfl (FrLe.cons rfl (FrLe.cons rfl (FrLe.cons rfl (FrLe.cons rfl (FrLe.cons rfl (FrLe.nil _))))))), h⟩
  refine AW.seq ?_
  refine AW.reg ?_
  refine Lp (V_move rfl rfl) rfl rfl ?_
  obtain ⟨p83_41, hc, h⟩ := h
  refine Lp (V_nil rfl (by rw [← hc]; rfl)) rfl rfl ?_
  refine Lp (V_fld rfl Tryz.underlying56 rfl ty54 (by decide) rfl) rfl rfl ?_
  obtain ⟨x85_42, hc, h⟩ := h
  refine Ls rfl rfl (X_ld rfl Tryz.underlying54 rfl rfl hc ?_)
  refine Lp (V_lenL rfl rfl Tryz.underlying54 rfl rfl) rfl rfl ?_
  refine Lp (V_gtr rfl rfl rfl) rfl rfl ?_
  refine Lnil ?_
  refine thenN ?_
  refine AW.iff rfl decide_eq_true_iff h (fun h => ?_) (fun h => ?_)
  rotate_left
  · refine AW.skip ?_
    refine thenN ?_
    exact ⟨(FrLe.cons rfl (FrLe.cons rfl (FrLe.cons rfl (FrLe.cons rfl (FrLe.nil _))))), h⟩
  refine AW.seq ?_
  refine AW.reg ?_
  refine Lp (V_move rfl rfl) rfl rfl ?_
  obtain ⟨p89_43, hc, h⟩ := h
  refine Lp (V_nil rfl (by rw [← hc]; rfl)) rfl rfl ?_
  refine Lp (V_fld rfl Tryz.underlying56 rfl ty54 (by decide) rfl) rfl rfl ?_
  obtain ⟨x91_44, hc, h⟩ := h
  refine Ls rfl rfl (X_ld rfl Tryz.underlying54 rfl rfl hc ?_)
  obtain ⟨p92_45, ha, h0, h1, h⟩ := h
  refine Lp (V_ixA rfl Tryz.underlying54 ty125 (ixL rfl ha) rfl h0 h1) rfl rfl ?_
  refine Lp (V_fld rfl Tryz.underlying125 rfl ty123 (by decide) rfl) rfl rfl ?_
  obtain ⟨x94_46a, x94_46b, x94_46c, x94_46d, x94_46e, hc, h⟩ := h
  refine Ls rfl rfl (X_lda rfl Tryz.underlying123 rfl ty123 rfl hc ?_)
  refine Ls rfl rfl (X_new (A_alloc rfl ty123) fun x9_47 g1 g2 => ?_)
  replace h := h x9_47 g1 g2
  refine Ls rfl rfl (X_st rfl ty123 rfl rfl rfl rfl (stN_mono h fun σ h => ?_))
  refine Lnil ?_
  refine thenN ?_
  refine AW.seq ?_
  refine AW.reg ?_
  refine Lp (V_ixP rfl Tryz.underlying123 ty3 rfl rfl (by decide) (by decide)) rfl rfl ?_
  obtain ⟨x96_48, hc, h⟩ := h
  refine Ls rfl rfl (X_ld rfl Tryz.underlying3 rfl rfl hc ?_)
  refine Lp (V_fld rfl Tryz.underlying125 rfl ty123 (by decide) rfl) rfl rfl ?_
  refine Lp (V_ixP rfl Tryz.underlying123 ty3 rfl rfl (by decide) (by decide)) rfl rfl ?_
  obtain ⟨x99_49, hc, h⟩ := h
  refine Ls rfl rfl (X_ld rfl Tryz.underlying3 rfl rfl hc ?_)
  refine Lp (V_neq rfl rfl rfl) rfl rfl ?_
  refine Lp (V_move rfl rfl) rfl rfl ?_
  refine LsplitJ 7 (!(decide (x96_48 = x99_49))) (bnot_iff decide_eq_true_iff) h (fun fr σ => ∃ (x108_51 : Bool), FrLe [(0, .pointer a0), (1, Sl.v a1), (5, .int .i64 x5_3), (7, .pointer (some ⟨x7_8, 0, none⟩)), (9, .pointer (some ⟨x9_47, 0, none⟩)), (108, .bool x108_51)] fr ∧ j50_ref05_Asm_Add B ro a0 a1 x5_3 x7_8 x9_47 Q Y2 x108_51 σ) ?_ ?_ ?_
  · intro h e6 hk6
    refine Ln rfl rfl rfl rfl (.inl (by rw [e6]; rfl)) ?_
    refine Ln rfl rfl rfl rfl (.inl (by rw [e6]; rfl)) ?_
    refine Ln rfl rfl rfl rfl (.inl (by rw [e6]; rfl)) ?_
    refine Ln rfl rfl rfl rfl (.inl (by rw [e6]; rfl)) ?_
    refine Ln rfl rfl rfl rfl (.inl (by rw [e6]; rfl)) ?_
    refine Ln rfl rfl rfl rfl (.inl (by rw [e6]; rfl)) ?_
    refine Lp (V_pickT rfl (evb e6) rfl) rfl rfl ?_
    exact hk6 _ _ ⟨_, (FrLe.cons rfl (FrLe.cons rfl (FrLe.cons rfl (FrLe.cons rfl (FrLe.cons rfl (FrLe.cons rfl (FrLe.nil _))))))), h⟩
  · intro h e6 hk6
    refine Lypb (V_ixP rfl Tryz.underlying123 ty3 rfl rfl (by decide) (by decide)) rfl rfl rfl rfl e6 ?_
    obtain ⟨x103_60, hc, h⟩ := h
    refine Lyb rfl rfl rfl rfl e6 (X_ld rfl Tryz.underlying3 rfl rfl hc ?_)
    refine Lypb (V_fld rfl Tryz.underlying125 rfl ty123 (by decide) rfl) rfl rfl rfl rfl e6 ?_
    refine Lypb (V_ixP rfl Tryz.underlying123 ty3 rfl rfl (by decide) (by decide)) rfl rfl rfl rfl e6 ?_
    obtain ⟨x106_61, hc, h⟩ := h
    refine Lyb rfl rfl rfl rfl e6 (X_ld rfl Tryz.underlying3 rfl rfl hc ?_)
    refine Lypb (V_neq rfl rfl rfl) rfl rfl rfl rfl e6 ?_
    refine Lp (V_pickF rfl (evb e6) rfl) rfl rfl ?_
    exact hk6 _ _ ⟨_, (FrLe.cons rfl (FrLe.cons rfl (FrLe.cons rfl (FrLe.cons rfl (FrLe.cons rfl (FrLe.cons rfl (FrLe.nil _))))))), h⟩
  rintro fr σ ⟨x108_51, hl, h⟩
  unfold j50_ref05_Asm_Add at h
  refine Lfr hl ?_
  refine Lp (V_move rfl rfl) rfl rfl ?_
  refine LsplitJ 7 x108_51 Iff.rfl h (fun fr σ => ∃ (x116_53 : Bool), FrLe [(0, .pointer a0), (1, Sl.v a1), (5, .int .i64 x5_3), (7, .pointer (some ⟨x7_8, 0, none⟩)), (9, .pointer (some ⟨x9_47, 0, none⟩)), (116, .bool x116_53)] fr ∧ j52_ref05_Asm_Add B ro a0 a1 x5_3 x7_8 x9_47 Q Y2 x116_53 σ) ?_ ?_ ?_
  · intro h e14 hk14
    refine Ln rfl rfl rfl rfl (.inl (by rw [e14]; rfl)) ?_
    refine Ln rfl rfl rfl rfl (.inl (by rw [e14]; rfl)) ?_
    refine Ln rfl rfl rfl rfl (.inl (by rw [e14]; rfl)) ?_
    refine Ln rfl rfl rfl rfl (.inl (by rw [e14]; rfl)) ?_
    refine Ln rfl rfl rfl rfl (.inl (by rw [e14]; rfl)) ?_
    refine Ln rfl rfl rfl rfl (.inl (by rw [e14]; rfl)) ?_
    refine Lp (V_pickT rfl (evb e14) rfl) rfl rfl ?_
    exact hk14 _ _ ⟨_, (FrLe.cons rfl (FrLe.cons rfl (FrLe.cons rfl (FrLe.cons rfl (FrLe.cons rfl (FrLe.cons rfl (FrLe.nil _))))))), h⟩
  · intro h e14 hk14
    refine Lypb (V_ixP rfl Tryz.underlying123 ty3 rfl rfl (by decide) (by decide)) rfl rfl rfl rfl e14 ?_
    obtain ⟨x111_58, hc, h⟩ := h
    refine Lyb rfl rfl rfl rfl e14 (X_ld rfl Tryz.underlying3 rfl rfl hc ?_)
    refine Lypb (V_fld rfl Tryz.underlying125 rfl ty123 (by decide) rfl) rfl rfl rfl rfl e14 ?_
    refine Lypb (V_ixP rfl Tryz.underlying123 ty3 rfl rfl (by decide) (by decide)) rfl rfl rfl rfl e14 ?_
    obtain ⟨x114_59, hc, h⟩ := h
    refine Lyb rfl rfl rfl rfl e14 (X_ld rfl Tryz.underlying3 rfl rfl hc ?_)
    refine Lypb (V_neq rfl rfl rfl) rfl rfl rfl rfl e14 ?_
    refine Lp (V_pickF rfl (evb e14) rfl) rfl rfl ?_
    exact hk14 _ _ ⟨_, (FrLe.cons rfl (FrLe.cons rfl (FrLe.cons rfl (FrLe.cons rfl (FrLe.cons rfl (FrLe.cons rfl (FrLe.nil _))))))), h⟩
  rintro fr σ ⟨x116_53, hl, h⟩
  unfold j52_ref05_Asm_Add at h
  refine Lfr hl ?_
  refine Lp (V_move rfl rfl) rfl rfl ?_
  refine LsplitJ 7 x116_53 Iff.rfl h (fun fr σ => ∃ (x124_55 : Bool), FrLe [(0, .pointer a0), (1, Sl.v a1), (5, .int .i64 x5_3), (7, .pointer (some ⟨x7_8, 0, none⟩)), (124, .bool x124_55)] fr ∧ j54_ref05_Asm_Add B ro a0 a1 x5_3 x7_8 Q Y2 x124_55 σ) ?_ ?_ ?_
  · intro h e22 hk22
    refine Ln rfl rfl rfl rfl (.inl (by rw [e22]; rfl)) ?_
    refine Ln rfl rfl rfl rfl (.inl (by rw [e22]; rfl)) ?_
    refine Ln rfl rfl rfl rfl (.inl (by rw [e22]; rfl)) ?_
    refine Ln rfl rfl rfl rfl (.inl (by rw [e22]; rfl)) ?_
    refine Ln rfl rfl rfl rfl (.inl (by rw [e22]; rfl)) ?_
    refine Ln rfl rfl rfl rfl (.inl (by rw [e22]; rfl)) ?_
    refine Lp (V_pickT rfl (evb e22) rfl) rfl rfl ?_
    exact hk22 _ _ ⟨_, (FrLe.cons rfl (FrLe.cons rfl (FrLe.cons rfl (FrLe.cons rfl (FrLe.cons rfl (FrLe.nil _)))))), h⟩
  · intro h e22 hk22
    refine Lypb (V_ixP rfl Tryz.underlying123 ty3 rfl rfl (by decide) (by decide)) rfl rfl rfl rfl e22 ?_
    obtain ⟨x119_56, hc, h⟩ := h
    refine Lyb rfl rfl rfl rfl e22 (X_ld rfl Tryz.underlying3 rfl rfl hc ?_)
    refine Lypb (V_fld rfl Tryz.underlying125 rfl ty123 (by decide) rfl) rfl rfl rfl rfl e22 ?_
    refine Lypb (V_ixP rfl Tryz.underlying123 ty3 rfl rfl (by decide) (by decide)) rfl rfl rfl rfl e22 ?_
    obtain ⟨x122_57, hc, h⟩ := h
    refine Lyb rfl rfl rfl rfl e22 (X_ld rfl Tryz.underlying3 rfl rfl hc ?_)
    refine Lypb (V_neq rfl rfl rfl) rfl rfl rfl rfl e22 ?_
    refine Lp (V_pickF rfl (evb e22) rfl) rfl rfl ?_
    exact hk22 _ _ ⟨_, (FrLe.cons rfl (FrLe.cons rfl (FrLe.cons rfl (FrLe.cons rfl (FrLe.cons rfl (FrLe.nil _)))))), h⟩
  rintro fr σ ⟨x124_55, hl, h⟩
  unfold j54_ref05_Asm_Add at h
  refine Lfr hl ?_
  refine Lnil ?_
  refine thenN ?_
  refine AW.iff rfl Iff.rfl h (fun h => ?_) (fun h => ?_)
  rotate_left
  · refine AW.skip ?_
    refine thenN ?_
    exact ⟨(FrLe.cons rfl (FrLe.cons rfl (FrLe.cons rfl (FrLe.cons rfl (FrLe.nil _))))), h⟩
  refine AW.seq ?_
  refine AW.reg ?_
  refine Lp (V_asg rfl rfl) rfl rfl ?_
  refine Lnil ?_
  refine thenN ?_
  refine AW.ret ?_
  refine thenR ?_
  refine blockR ?_
  refine thenR ?_
  refine thenR ?_
  refine blockR ?_
  refine thenR ?_
  exact bR1 Tryz.results22 rfl ⟨_, rfl, h⟩

def j6_ref05_Asm_Done (B : World) (ro : AH) (a0 : Option Addr) (x5_5 : Sl) (Q : Int → Sl → Bool → AH → Prop) (x74_7 : Bool) (σ : AH) : Prop :=
 if x74_7 = true then
  Q 0 (⟨none, 0, 0⟩ : Sl) false σ
 else
 ∃ p76_8 : Addr, a0 = some p76_8 ∧
 ∃ (x78_9 : Sl), acell ro σ p76_8 = some (Sl.v x78_9) ∧
 ∃ p79_10 : Addr, x78_9.a = some p79_10 ∧ (0 : Int) ≤ 0 ∧ 0 < (x78_9.len : Int) ∧
 ∃ (x82_11 : Int), acell ro σ ((p79_10.add (Int.toNat 0 * 6)).add (Int.toNat 0 * 1)) = some (.int .i64 x82_11) ∧
 Q x82_11 x5_5 true σ

def j4_ref05_Asm_Done (B : World) (ro : AH) (a0 : Option Addr) (Q : Int → Sl → Bool → AH → Prop) (x5_5 : Sl) (σ : AH) : Prop :=
 lent σ fun ψ σ =>
  ∃ p54_12 : Addr, a0 = some p54_12 ∧
  ∃ (x56_13 : Sl), acell (join ro ψ) σ p54_12 = some (Sl.v x56_13) ∧
  ∃ p57_14 : Addr, x56_13.a = some p57_14 ∧ (0 : Int) ≤ 0 ∧ 0 < (x56_13.len : Int) ∧
  ∃ (x60_15 : Int), acell (join ro ψ) σ ((p57_14.add (Int.toNat 0 * 6)).add (Int.toNat 3 * 1)) = some (.int .i64 x60_15) ∧
  if ¬ ((x5_5.len : Int) = x60_15) then
   (Disj ψ σ → (fun σ => 
    j6_ref05_Asm_Done B ro a0 x5_5 Q true σ) (join ψ σ))
  else
  ∃ p66_16 : Addr, a0 = some p66_16 ∧
  ∃ (x68_17 : Sl), acell (join ro ψ) (fun _ => none) p66_16 = some (Sl.v x68_17) ∧
  ∃ p69_18 : Addr, x68_17.a = some p69_18 ∧ (0 : Int) ≤ 0 ∧ 0 < (x68_17.len : Int) ∧
  ∃ (x72_19 : Int), acell (join ro ψ) (fun _ => none) ((p69_18.add (Int.toNat 0 * 6)).add (Int.toNat 4 * 1)) = some (.int .i64 x72_19) ∧
  c_ref01_Sum B (join ro ψ) x5_5 σ fun x64_20 σ =>
  (Disj ψ σ → (fun σ => 
   j6_ref05_Asm_Done B ro a0 x5_5 Q (!(decide (x64_20 = x72_19))) σ) (join ψ σ))

def l21_ref05_Asm_Done (B : World) (ro : AH) (a0 : Option Addr) (Q : Int → Sl → Bool → AH → Prop) : (Sl × Int) → AH → ((Sl × Int) → AH → Prop) → Prop := fun ⟨x5_22, x6_23⟩ σ Y21 =>
 ∃ p32_24 : Addr, a0 = some p32_24 ∧
 ∃ (x34_25 : Sl), acell ro σ p32_24 = some (Sl.v x34_25) ∧
 if x6_23 < (x34_25.len : Int) then
  lent σ fun ψ σ =>
   ∃ p41_26 : Addr, a0 = some p41_26 ∧
   ∃ (x43_27 : Sl), acell (join ro ψ) (fun _ => none) p41_26 = some (Sl.v x43_27) ∧
   c_ref05_Asm_find B (join ro ψ) a0 x6_23 σ fun x46_28 σ =>
   ∃ p47_29 : Addr, x43_27.a = some p47_29 ∧ (0 : Int) ≤ x46_28 ∧ x46_28 < (x43_27.len : Int) ∧
   ∃ (x49_30 : Sl), acell (join ro ψ) σ ((p47_29.add (Int.toNat x46_28 * 6)).add 5) = some (Sl.v x49_30) ∧
   awp Tryz.prog (join ro ψ) (Builtin.append_ #[22, 22] 22 #[Sl.v x5_22, Sl.v x49_30]) (fun v σ => ∃ (x50_31 : Sl), v = Sl.v x50_31 ∧
    (Disj ψ σ → (fun σ => 
     Y21 (x50_31, IntKind.i64.wrap (x6_23 + 1)) σ) (join ψ σ))) σ
 else
 j4_ref05_Asm_Done B ro a0 Q x5_22 σ

def j1_ref05_Asm_Done (B : World) (ro : AH) (a0 : Option Addr) (Q : Int → Sl → Bool → AH → Prop) (x28_2 : Bool) (σ : AH) : Prop :=
 if x28_2 = true then
  Q 0 (⟨none, 0, 0⟩ : Sl) false σ
 else
 nw ro σ (.cells #[] 5) fun x29_3 σ =>
 lfpD (l21_ref05_Asm_Done B ro a0 Q ) ((⟨some ⟨x29_3, 0, none⟩, 0, 0⟩ : Sl), 0) σ

def f_ref05_Asm_Done (B : World) (ro : AH) (a0 : Option Addr) (σ : AH) (Q : Int → Sl → Bool → AH → Prop) : Prop :=
 ∃ p8_32 : Addr, a0 = some p8_32 ∧
 ∃ (x10_33 : Sl), acell ro σ p8_32 = some (Sl.v x10_33) ∧
 if (x10_33.len : Int) = 0 then
  j1_ref05_Asm_Done B ro a0 Q true σ
 else
 ∃ p15_34 : Addr, a0 = some p15_34 ∧
 ∃ p20_35 : Addr, a0 = some p20_35 ∧
 ∃ (x17_36 : Sl), acell ro σ p15_34 = some (Sl.v x17_36) ∧
 ∃ (x22_37 : Sl), acell ro σ p20_35 = some (Sl.v x22_37) ∧
 ∃ p23_38 : Addr, x22_37.a = some p23_38 ∧ (0 : Int) ≤ 0 ∧ 0 < (x22_37.len : Int) ∧
 ∃ (x26_39 : Int), acell ro σ ((p23_38.add (Int.toNat 0 * 6)).add (Int.toNat 1 * 1)) = some (.int .i64 x26_39) ∧
 j1_ref05_Asm_Done B ro a0 Q (decide ((x17_36.len : Int) < x26_39)) σ

set_option maxRecDepth 100000 in
set_option maxHeartbeats 4000000 in
theorem ref05_Asm_Done_ok {B : World} {ro : AH} {a0 : Option Addr} {σ : AH} {Q : Int → Sl → Bool → AH → Prop} (h : Sep ro σ → f_ref05_Asm_Done B ro a0 σ Q) : c_ref05_Asm_Done B ro a0 σ Q := by
  refine ACalls.of_sep fun hsep => ?_
  replace h := h hsep
  refine ACalls.of_body (args := [.pointer a0]) Tryz.func24 rfl (by rw [Tryz.ntmps24]; simp) ?_
  rw [Tryz.ntmps24]
  unfold f_ref05_Asm_Done at h
  refine AW.seq ?_
  refine AW.reg ?_
  refine Lp (V_asg rfl rfl) rfl rfl ?_
  refine Lp (V_asg rfl rfl) rfl rfl ?_
  refine Lp (V_asg rfl rfl) rfl rfl ?_
  refine Lnil ?_
  refine thenN ?_
  refine AW.seq ?_
  refine AW.seqJ (fun fr σ => ∃ (x28_2 : Bool), FrLe [(0, .pointer a0), (28, .bool x28_2)] fr ∧ j1_ref05_Asm_Done B ro a0 Q x28_2 σ) ?_ ?_
  rotate_left
  · refine AW.drawn0 (fun i => ([0, 0, 0, 3, 0, 0, 0, 0, 0, 0, 3, 0, 0, 0, 0, 3, 0, 0, 0, 3, 0, 0] : List Nat).getD i 2) [] [0, 1, 2, 3, 4, 5, 6, 7, 8, 9, 12, 13, 14, 10, 11, 15, 16, 17, 18, 19, 20, 21] Tryz.mixed (by decide +kernel) ?_
    refine Dp rfl rfl rfl rfl (V_move rfl rfl) ?_
    obtain ⟨p8_32, hc, h⟩ := h
    refine Dp rfl rfl rfl rfl (V_nil rfl (by rw [← hc]; rfl)) ?_
    refine Dp rfl rfl rfl rfl (V_fld rfl Tryz.underlying56 rfl ty54 (by decide) rfl) ?_
    obtain ⟨x10_33, hc, h⟩ := h
    refine Dr rfl rfl rfl rfl (R_ld rfl Tryz.underlying54 rfl rfl hc) ?_
    refine Dp rfl rfl rfl rfl (V_lenL rfl rfl Tryz.underlying54 rfl rfl) ?_
    refine Dp rfl rfl rfl rfl (V_eql rfl rfl rfl) ?_
    refine Dp rfl rfl rfl rfl (V_move rfl rfl) ?_
    refine splitP (decide ((x10_33.len : Int) = 0)) decide_eq_true_iff h ?_ ?_
    · intro h e6
      refine Dpn rfl rfl rfl rfl rfl (.inl (by rw [e6]; rfl)) rfl ?_
      refine Dpn rfl rfl rfl rfl rfl (.inl (by rw [e6]; rfl)) rfl ?_
      refine Dpn rfl rfl rfl rfl rfl (.inl (by rw [e6]; rfl)) rfl ?_
      refine Dpn rfl rfl rfl rfl rfl (.inl (by rw [e6]; rfl)) rfl ?_
      refine Dpn rfl rfl rfl rfl rfl (.inl (by rw [e6]; rfl)) rfl ?_
      refine Dpn rfl rfl rfl rfl rfl (.inl (by rw [e6]; rfl)) rfl ?_
      refine Drn rfl rfl rfl rfl rfl (.inl (by rw [e6]; rfl)) rfl ?_
      refine Dpn rfl rfl rfl rfl rfl (.inl (by rw [e6]; rfl)) rfl ?_
      refine Drn rfl rfl rfl rfl rfl (.inl (by rw [e6]; rfl)) rfl ?_
      refine Dpn rfl rfl rfl rfl rfl (.inl (by rw [e6]; rfl)) rfl ?_
      refine Dpn rfl rfl rfl rfl rfl (.inl (by rw [e6]; rfl)) rfl ?_
      refine Dpn rfl rfl rfl rfl rfl (.inl (by rw [e6]; rfl)) rfl ?_
      refine Drn rfl rfl rfl rfl rfl (.inl (by rw [e6]; rfl)) rfl ?_
      refine Dpn rfl rfl rfl rfl rfl (.inl (by rw [e6]; rfl)) rfl ?_
      refine Dp rfl rfl rfl rfl (V_pickT rfl (evb e6) rfl) ?_
      refine Dend ?_
      refine thenN ?_
      exact ⟨_, (FrLe.cons rfl (FrLe.cons rfl (FrLe.nil _))), h⟩
    intro h e6
    refine Dpy rfl rfl rfl rfl rfl e6 rfl (V_move rfl rfl) ?_
    obtain ⟨p15_34, hc, h⟩ := h
    refine Dpy rfl rfl rfl rfl rfl e6 rfl (V_nil rfl (by rw [← hc]; rfl)) ?_
    refine Dpy rfl rfl rfl rfl rfl e6 rfl (V_fld rfl Tryz.underlying56 rfl ty54 (by decide) rfl) ?_
    refine Dpy rfl rfl rfl rfl rfl e6 rfl (V_move rfl rfl) ?_
    obtain ⟨p20_35, hc, h⟩ := h
    refine Dpy rfl rfl rfl rfl rfl e6 rfl (V_nil rfl (by rw [← hc]; rfl)) ?_
    refine Dpy rfl rfl rfl rfl rfl e6 rfl (V_fld rfl Tryz.underlying56 rfl ty54 (by decide) rfl) ?_
    obtain ⟨x17_36, hc, h⟩ := h
    refine Dry rfl rfl rfl rfl rfl e6 rfl (R_ld rfl Tryz.underlying54 rfl rfl hc) ?_
    refine Dpy rfl rfl rfl rfl rfl e6 rfl (V_lenL rfl rfl Tryz.underlying54 rfl rfl) ?_
    obtain ⟨x22_37, hc, h⟩ := h
    refine Dry rfl rfl rfl rfl rfl e6 rfl (R_ld rfl Tryz.underlying54 rfl rfl hc) ?_
    obtain ⟨p23_38, ha, h0, h1, h⟩ := h
    refine Dpy rfl rfl rfl rfl rfl e6 rfl (V_ixA rfl Tryz.underlying54 ty125 (ixL rfl ha) rfl h0 h1) ?_
    refine Dpy rfl rfl rfl rfl rfl e6 rfl (V_fld rfl Tryz.underlying125 rfl ty123 (by decide) rfl) ?_
    refine Dpy rfl rfl rfl rfl rfl e6 rfl (V_ixP rfl Tryz.underlying123 ty3 rfl rfl (by decide) (by decide)) ?_
    obtain ⟨x26_39, hc, h⟩ := h
    refine Dry rfl rfl rfl rfl rfl e6 rfl (R_ld rfl Tryz.underlying3 rfl rfl hc) ?_
    refine Dpy rfl rfl rfl rfl rfl e6 rfl (V_lss rfl rfl rfl) ?_
    refine Dp rfl rfl rfl rfl (V_pickF rfl (evb e6) rfl) ?_
    refine Dend ?_
    refine thenN ?_
    exact ⟨_, (FrLe.cons rfl (FrLe.cons rfl (FrLe.nil _))), h⟩
  rintro fr σ ⟨x28_2, hl, h⟩
  refine AW.weaken ?_ hl (HLe.refl _)
  unfold j1_ref05_Asm_Done at h
  refine AW.iff rfl Iff.rfl h (fun h => ?_) (fun h => ?_)
  · refine AW.seq ?_
    refine AW.reg ?_
    refine Lp (V_asg rfl rfl) rfl rfl ?_
    refine Lp (V_asg rfl rfl) rfl rfl ?_
    refine Lp (V_asg rfl rfl) rfl rfl ?_
    refine Lnil ?_
    refine thenN ?_
    refine AW.ret ?_
    refine thenR ?_
    exact bR3 Tryz.results24 rfl rfl rfl ⟨_, _, _, rfl, h⟩
  refine AW.skip ?_
  refine thenN ?_
  refine AW.seq ?_
  refine AW.reg ?_
  refine Ls rfl rfl (X_new (A_bsl (vs := []) (cs := #[]) rfl Tryz.underlying22 ty5 (by decide) rfl rfl) fun x29_3 g1 g2 => ?_)
  replace h := h x29_3 g1 g2
  refine Lp (V_asg rfl rfl) rfl rfl ?_
  refine Lnil ?_
  refine thenN ?_
  refine AW.seqJ (fun fr σ => ∃ (x5_5 : Sl), FrLe [(0, .pointer a0), (5, Sl.v x5_5)] fr ∧ j4_ref05_Asm_Done B ro a0 Q x5_5 σ) ?_ ?_
  rotate_left
  · refine AW.seq ?_
    refine AW.reg ?_
    refine Lp (V_asg rfl rfl) rfl rfl ?_
    refine Lnil ?_
    refine thenN ?_
    refine AW.block ?_
    refine ARound.loop (fr' := [(0, .pointer a0), (5, Sl.v (⟨some ⟨x29_3, 0, none⟩, 0, 0⟩ : Sl)), (6, .int .i64 0)]) ?_ (FrLe.cons rfl (FrLe.cons rfl (FrLe.cons rfl (FrLe.nil _))))
    refine h (fun ⟨x5_22, x6_23⟩ σ => ARound _ _ _ _ _ _ [(0, .pointer a0), (5, Sl.v x5_22), (6, .int .i64 x6_23)] σ) ?_
    rintro ⟨x5_22, x6_23⟩ σ Y21 hY21 h
    show AW _ _ _ _ _ _ _ _
    unfold l21_ref05_Asm_Done at h
    dsimp only at h
    refine AW.seq ?_
    refine AW.seq ?_
    refine AW.reg ?_
    refine Lp (V_move rfl rfl) rfl rfl ?_
    refine Lp (V_move rfl rfl) rfl rfl ?_
    obtain ⟨p32_24, hc, h⟩ := h
    refine Lp (V_nil rfl (by rw [← hc]; rfl)) rfl rfl ?_
    refine Lp (V_fld rfl Tryz.underlying56 rfl ty54 (by decide) rfl) rfl rfl ?_
    obtain ⟨x34_25, hc, h⟩ := h
    refine Ls rfl rfl (X_ld rfl Tryz.underlying54 rfl rfl hc ?_)
    refine Lp (V_lenL rfl rfl Tryz.underlying54 rfl rfl) rfl rfl ?_
    refine Lp (V_lss rfl rfl rfl) rfl rfl ?_
    refine Lnil ?_
    refine thenN ?_
    refine AW.iff rfl decide_eq_true_iff h (fun h => ?_) (fun h => ?_)
    rotate_left
    · refine AW.exit ?_
      refine thenE ?_
      refine thenE ?_
      refine blockE ?_
      refine thenN ?_
      exact ⟨_, (FrLe.cons rfl (FrLe.cons rfl (FrLe.nil _))), h⟩
    refine AW.skip ?_
    refine thenN ?_
    refine AW.seq ?_
    refine AW.block ?_
    refine AW.drawnL (fun i => ([0, 0, 0, 0, 0, 0, 0, 2, 0, 0, 3, 2, 0] : List Nat).getD i 2) [(7, 8), (7, 9), (7, 10)] [0, 1, 2, 3, 4, 5, 6, 7, 8, 9, 10, 11, 12] Tryz.mixed h (by decide +kernel) ?_
    clear h
    intro ψ σ h
    refine Dp rfl rfl rfl rfl (V_move rfl rfl) ?_
    refine Dp rfl rfl rfl rfl (V_move rfl rfl) ?_
    obtain ⟨p41_26, hc, h⟩ := h
    refine Dp rfl rfl rfl rfl (V_nil rfl (by rw [← hc]; rfl)) ?_
    refine Dp rfl rfl rfl rfl (V_fld rfl Tryz.underlying56 rfl ty54 (by decide) rfl) ?_
    obtain ⟨x43_27, hc, h⟩ := h
    refine Dp rfl rfl rfl rfl (V_ld rfl Tryz.underlying54 rfl rfl hc) ?_
    refine Dp rfl rfl rfl rfl (V_move rfl rfl) ?_
    refine Dp rfl rfl rfl rfl (V_move rfl rfl) ?_
    refine Dg rfl rfl rfl rfl (X_call rfl Tryz.func65 rfl rfl rfl (ACalls.mono h ?_))
    rintro v σ ⟨x46_28, rfl, h⟩
    obtain ⟨p47_29, ha, h0, h1, h⟩ := h
    refine Dp rfl rfl rfl rfl (V_ixA rfl Tryz.underlying54 ty125 (ixL rfl ha) rfl h0 h1) ?_
    refine Dp rfl rfl rfl rfl (V_fld rfl Tryz.underlying125 rfl ty22 (by decide) rfl) ?_
    obtain ⟨x49_30, hc, h⟩ := h
    refine Dr rfl rfl rfl rfl (R_ld rfl Tryz.underlying22 rfl rfl hc) ?_
    refine Dg rfl rfl rfl rfl (X_bi (s := Builtin.append_ #[22, 22] 22 #[Sl.v x5_22, Sl.v x49_30]) rfl rfl (fun _ => rfl) (awp_mono _ h ?_))
    rintro v σ ⟨x50_31, rfl, h⟩
    refine Dp rfl rfl rfl rfl (V_asg rfl rfl) ?_
    refine ⟨_, FrEq.refl _, fun hdj => ?_⟩
    replace h := h hdj
    refine blockN ?_
    refine thenN ?_
    refine AW.reg ?_
    refine Lp (V_move rfl rfl) rfl rfl ?_
    refine Lp (V_add rfl rfl rfl) rfl rfl ?_
    refine Lp (V_asg rfl rfl) rfl rfl ?_
    refine Lnil ?_
    refine thenN ?_
    refine ARound.head (fr' := [(0, .pointer a0), (5, Sl.v x50_31), (6, .int .i64 (IntKind.i64.wrap (x6_23 + 1)))]) ?_ (FrLe.cons rfl (FrLe.cons rfl (FrLe.cons rfl (FrLe.nil _))))
    exact hY21 _ _ h
  rintro fr σ ⟨x5_5, hl, h⟩
  refine AW.weaken ?_ hl (HLe.refl _)
  unfold j4_ref05_Asm_Done at h
  refine AW.seq ?_
  refine AW.seqJ (fun fr σ => ∃ (x74_7 : Bool), FrLe [(0, .pointer a0), (5, Sl.v x5_5), (74, .bool x74_7)] fr ∧ j6_ref05_Asm_Done B ro a0 x5_5 Q x74_7 σ) ?_ ?_
  · rintro fr σ ⟨x74_7, hl, h⟩
    refine AW.weaken ?_ hl (HLe.refl _)
    unfold j6_ref05_Asm_Done at h
    refine AW.iff rfl Iff.rfl h (fun h => ?_) (fun h => ?_)
    · refine AW.seq ?_
      refine AW.reg ?_
      refine Lp (V_asg rfl rfl) rfl rfl ?_
      refine Lp (V_asg rfl rfl) rfl rfl ?_
      refine Lp (V_asg rfl rfl) rfl rfl ?_
      refine Lnil ?_
      refine thenN ?_
      refine AW.ret ?_
      refine thenR ?_
      exact bR3 Tryz.results24 rfl rfl rfl ⟨_, _, _, rfl, h⟩
    refine AW.skip ?_
    refine thenN ?_
    refine AW.seq ?_
    refine AW.reg ?_
    refine Lp (V_move rfl rfl) rfl rfl ?_
    obtain ⟨p76_8, hc, h⟩ := h
    refine Lp (V_nil rfl (by rw [← hc]; rfl)) rfl rfl ?_
    refine Lp (V_fld rfl Tryz.underlying56 rfl ty54 (by decide) rfl) rfl rfl ?_
    obtain ⟨x78_9, hc, h⟩ := h
    refine Ls rfl rfl (X_ld rfl Tryz.underlying54 rfl rfl hc ?_)
    obtain ⟨p79_10, ha, h0, h1, h⟩ := h
    refine Lp (V_ixA rfl Tryz.underlying54 ty125 (ixL rfl ha) rfl h0 h1) rfl rfl ?_
    refine Lp (V_fld rfl Tryz.underlying125 rfl ty123 (by decide) rfl) rfl rfl ?_
    refine Lp (V_ixP rfl Tryz.underlying123 ty3 rfl rfl (by decide) (by decide)) rfl rfl ?_
    obtain ⟨x82_11, hc, h⟩ := h
    refine Ls rfl rfl (X_ld rfl Tryz.underlying3 rfl rfl hc ?_)
    refine Lp (V_move rfl rfl) rfl rfl ?_
    refine Lp (V_asg rfl rfl) rfl rfl ?_
    refine Lp (V_asg rfl rfl) rfl rfl ?_
    refine Lp (V_asg rfl rfl) rfl rfl ?_
    refine Lnil ?_
    refine thenN ?_
    refine AW.ret ?_
    exact bR3 Tryz.results24 rfl rfl rfl ⟨_, _, _, rfl, h⟩
  refine AW.drawnL (fun i => ([0, 0, 0, 0, 0, 3, 0, 0, 0, 3, 0, 0, 0, 2, 0, 0, 0, 0, 0, 0, 0, 0, 0, 0] : List Nat).getD i 2) [(5, 6), (5, 7), (5, 8), (5, 9), (5, 10), (5, 11), (5, 12), (5, 13), (9, 10), (9, 11), (9, 12), (9, 13)] [0, 1, 2, 3, 4, 5, 6, 7, 8, 9, 10, 11, 12, 14, 15, 16, 17, 18, 19, 20, 21, 13, 22, 23] Tryz.mixed h (by decide +kernel) ?_
  clear h
  intro ψ σ h
  refine Dp rfl rfl rfl rfl (V_move rfl rfl) ?_
  refine Dp rfl rfl rfl rfl (V_lenL rfl rfl Tryz.underlying22 rfl rfl) ?_
  refine Dp rfl rfl rfl rfl (V_move rfl rfl) ?_
  obtain ⟨p54_12, hc, h⟩ := h
  refine Dp rfl rfl rfl rfl (V_nil rfl (by rw [← hc]; rfl)) ?_
  refine Dp rfl rfl rfl rfl (V_fld rfl Tryz.underlying56 rfl ty54 (by decide) rfl) ?_
  obtain ⟨x56_13, hc, h⟩ := h
  refine Dr rfl rfl rfl rfl (R_ld rfl Tryz.underlying54 rfl rfl hc) ?_
  obtain ⟨p57_14, ha, h0, h1, h⟩ := h
  refine Dp rfl rfl rfl rfl (V_ixA rfl Tryz.underlying54 ty125 (ixL rfl ha) rfl h0 h1) ?_
  refine Dp rfl rfl rfl rfl (V_fld rfl Tryz.underlying125 rfl ty123 (by decide) rfl) ?_
  refine Dp rfl rfl rfl rfl (V_ixP rfl Tryz.underlying123 ty3 rfl rfl (by decide) (by decide)) ?_
  obtain ⟨x60_15, hc, h⟩ := h
  refine Dr rfl rfl rfl rfl (R_ld rfl Tryz.underlying3 rfl rfl hc) ?_
  refine Dp rfl rfl rfl rfl (V_neq rfl rfl rfl) ?_
  refine Dp rfl rfl rfl rfl (V_move rfl rfl) ?_
  refine splitP (!(decide ((x5_5.len : Int) = x60_15))) (bnot_iff decide_eq_true_iff) h ?_ ?_
  · intro h e11
    refine Dpn rfl rfl rfl rfl rfl (.inl (by rw [e11]; rfl)) rfl ?_
    refine Dpn rfl rfl rfl rfl rfl (.inl (by rw [e11]; rfl)) rfl ?_
    refine Dpn rfl rfl rfl rfl rfl (.inl (by rw [e11]; rfl)) rfl ?_
    refine Dpn rfl rfl rfl rfl rfl (.inl (by rw [e11]; rfl)) rfl ?_
    refine Dpn rfl rfl rfl rfl rfl (.inl (by rw [e11]; rfl)) rfl ?_
    refine Dpn rfl rfl rfl rfl rfl (.inl (by rw [e11]; rfl)) rfl ?_
    refine Dpn rfl rfl rfl rfl rfl (.inl (by rw [e11]; rfl)) rfl ?_
    refine Dpn rfl rfl rfl rfl rfl (.inl (by rw [e11]; rfl)) rfl ?_
    refine Dpn rfl rfl rfl rfl rfl (.inl (by rw [e11]; rfl)) rfl ?_
    refine Dgn rfl rfl rfl rfl rfl (.inl (by rw [e11]; rfl)) rfl ?_
    refine Dpn rfl rfl rfl rfl rfl (.inl (by rw [e11]; rfl)) rfl ?_
    refine Dp rfl rfl rfl rfl (V_pickT rfl (evb e11) rfl) ?_
    refine ⟨_, FrEq.refl _, fun hdj => ?_⟩
    replace h := h hdj
    refine thenN ?_
    exact ⟨_, (FrLe.cons rfl (FrLe.cons rfl (FrLe.cons rfl (FrLe.nil _)))), h⟩
  intro h e11
  refine Dpy rfl rfl rfl rfl rfl e11 rfl (V_move rfl rfl) ?_
  refine Dpy rfl rfl rfl rfl rfl e11 rfl (V_move rfl rfl) ?_
  obtain ⟨p66_16, hc, h⟩ := h
  refine Dpy rfl rfl rfl rfl rfl e11 rfl (V_nil rfl (by rw [← hc]; rfl)) ?_
  refine Dpy rfl rfl rfl rfl rfl e11 rfl (V_fld rfl Tryz.underlying56 rfl ty54 (by decide) rfl) ?_
  obtain ⟨x68_17, hc, h⟩ := h
  refine Dpy rfl rfl rfl rfl rfl e11 rfl (V_ld rfl Tryz.underlying54 rfl rfl hc) ?_
  obtain ⟨p69_18, ha, h0, h1, h⟩ := h
  refine Dpy rfl rfl rfl rfl rfl e11 rfl (V_ixA rfl Tryz.underlying54 ty125 (ixL rfl ha) rfl h0 h1) ?_
  refine Dpy rfl rfl rfl rfl rfl e11 rfl (V_fld rfl Tryz.underlying125 rfl ty123 (by decide) rfl) ?_
  refine Dpy rfl rfl rfl rfl rfl e11 rfl (V_ixP rfl Tryz.underlying123 ty3 rfl rfl (by decide) (by decide)) ?_
  obtain ⟨x72_19, hc, h⟩ := h
  refine Dpy rfl rfl rfl rfl rfl e11 rfl (V_ld rfl Tryz.underlying3 rfl rfl hc) ?_
  refine Dgy rfl rfl rfl rfl rfl e11 rfl (X_call rfl Tryz.func57 rfl rfl rfl (ACalls.mono h ?_))
  rintro v σ ⟨x64_20, rfl, h⟩
  refine Dpy rfl rfl rfl rfl rfl e11 rfl (V_neq rfl rfl rfl) ?_
  refine Dp rfl rfl rfl rfl (V_pickF rfl (evb e11) rfl) ?_
  refine ⟨_, FrEq.refl _, fun hdj => ?_⟩
  replace h := h hdj
  refine thenN ?_
  exact ⟨_, (FrLe.cons rfl (FrLe.cons rfl (FrLe.cons rfl (FrLe.nil _)))), h⟩

def j9_ref05_Asm_Missing (B : World) (ro : AH) (Q : Sl → AH → Prop) (x3_10 : Sl) (σ : AH) : Prop :=
 Q x3_10 σ

def j14_ref05_Asm_Missing (B : World) (ro : AH) (x6_13 : Int) (x21_6 : Int) (x22_7 : Nat) (Q : Sl → AH → Prop) (Y11 : (Sl × Int) → AH → Prop) (x3_15 : Sl) (σ : AH) : Prop :=
 Y11 (x3_15, IntKind.i64.wrap (x6_13 + 1)) σ

def l11_ref05_Asm_Missing (B : World) (ro : AH) (x21_6 : Int) (x22_7 : Nat) (Q : Sl → AH → Prop) : (Sl × Int) → AH → ((Sl × Int) → AH → Prop) → Prop := fun ⟨x3_12, x6_13⟩ σ Y11 =>
 if x6_13 < ((⟨some ⟨x22_7, 0, none⟩, Int.toNat x21_6, Int.toNat x21_6⟩ : Sl).len : Int) then
  ∃ p51_16 : Addr, (⟨some ⟨x22_7, 0, none⟩, Int.toNat x21_6, Int.toNat x21_6⟩ : Sl).a = some p51_16 ∧ (0 : Int) ≤ x6_13 ∧ x6_13 < ((⟨some ⟨x22_7, 0, none⟩, Int.toNat x21_6, Int.toNat x21_6⟩ : Sl).len : Int) ∧
  ∃ (x52_17 : Bool), acell ro σ (p51_16.add (Int.toNat x6_13 * 1)) = some (.bool x52_17) ∧
  if ¬ (x52_17 = true) then
   nw ro σ (.cells #[.int .i64 x6_13] 3) fun x56_18 σ =>
   awp Tryz.prog ro (Builtin.append_ #[23, 23] 23 #[Sl.v x3_12, Sl.v (⟨some ⟨x56_18, 0, none⟩, 1, 1⟩ : Sl)]) (fun v σ => ∃ (x57_19 : Sl), v = Sl.v x57_19 ∧
    j14_ref05_Asm_Missing B ro x6_13 x21_6 x22_7 Q Y11 x57_19 σ) σ
  else
  j14_ref05_Asm_Missing B ro x6_13 x21_6 x22_7 Q Y11 x3_12 σ
 else
 j9_ref05_Asm_Missing B ro Q x3_12 σ

def j8_ref05_Asm_Missing (B : World) (ro : AH) (x21_6 : Int) (x22_7 : Nat) (Q : Sl → AH → Prop) (σ : AH) : Prop :=
 lfpD (l11_ref05_Asm_Missing B ro x21_6 x22_7 Q ) ((⟨none, 0, 0⟩ : Sl), 0) σ

def l20_ref05_Asm_Missing (B : World) (ro : AH) (a0 : Option Addr) (x21_6 : Int) (x22_7 : Nat) (Q : Sl → AH → Prop) : (Int) → AH → ((Int) → AH → Prop) → Prop := fun x5_21 σ Y20 =>
 ∃ p25_22 : Addr, a0 = some p25_22 ∧
 ∃ (x27_23 : Sl), acell ro σ p25_22 = some (Sl.v x27_23) ∧
 if x5_21 < (x27_23.len : Int) then
  ∃ p34_24 : Addr, a0 = some p34_24 ∧
  ∃ (x36_25 : Sl), acell ro σ p34_24 = some (Sl.v x36_25) ∧
  ∃ p38_26 : Addr, x36_25.a = some p38_26 ∧ (0 : Int) ≤ x5_21 ∧ x5_21 < (x36_25.len : Int) ∧
  ∃ (x41_27 : Int), acell ro σ ((p38_26.add (Int.toNat x5_21 * 6)).add (Int.toNat 2 * 1)) = some (.int .i64 x41_27) ∧
  ∃ p42_28 : Addr, (⟨some ⟨x22_7, 0, none⟩, Int.toNat x21_6, Int.toNat x21_6⟩ : Sl).a = some p42_28 ∧ (0 : Int) ≤ x41_27 ∧ x41_27 < ((⟨some ⟨x22_7, 0, none⟩, Int.toNat x21_6, Int.toNat x21_6⟩ : Sl).len : Int) ∧
  stN (p42_28.add (Int.toNat x41_27 * 1)) (fun σ =>
   Y20 (IntKind.i64.wrap (x5_21 + 1)) σ) [.bool true] 0 σ
 else
 j8_ref05_Asm_Missing B ro x21_6 x22_7 Q σ

def f_ref05_Asm_Missing (B : World) (ro : AH) (a0 : Option Addr) (σ : AH) (Q : Sl → AH → Prop) : Prop :=
 ∃ p8_1 : Addr, a0 = some p8_1 ∧
 ∃ (x10_2 : Sl), acell ro σ p8_1 = some (Sl.v x10_2) ∧
 if (x10_2.len : Int) = 0 then
  Q (⟨none, 0, 0⟩ : Sl) σ
 else
 ∃ p15_3 : Addr, a0 = some p15_3 ∧
 ∃ (x17_4 : Sl), acell ro σ p15_3 = some (Sl.v x17_4) ∧
 ∃ p18_5 : Addr, x17_4.a = some p18_5 ∧ (0 : Int) ≤ 0 ∧ 0 < (x17_4.len : Int) ∧
 ∃ (x21_6 : Int), acell ro σ ((p18_5.add (Int.toNat 0 * 6)).add (Int.toNat 1 * 1)) = some (.int .i64 x21_6) ∧
 ((0 : Int) ≤ x21_6 ∧ x21_6 ≤ x21_6 ∧ (x21_6 : Int) ≤ 281474976710656 ∧ 1 * (x21_6 : Int) ≤ 281474976710656) ∧
 nw ro σ (.cells (zeros (.bool false) (Int.toNat x21_6 * 1)) 4) fun x22_7 σ =>
 lfpD (l20_ref05_Asm_Missing B ro a0 x21_6 x22_7 Q ) (0) σ

set_option maxRecDepth 100000 in
set_option maxHeartbeats 4000000 in
theorem ref05_Asm_Missing_ok {B : World} {ro : AH} {a0 : Option Addr} {σ : AH} {Q : Sl → AH → Prop} (h : Sep ro σ → f_ref05_Asm_Missing B ro a0 σ Q) : c_ref05_Asm_Missing B ro a0 σ Q := by
  refine ACalls.of_sep fun hsep => ?_
  replace h := h hsep
  refine ACalls.of_body (args := [.pointer a0]) Tryz.func27 rfl (by rw [Tryz.ntmps27]; simp) ?_
  rw [Tryz.ntmps27]
  unfold f_ref05_Asm_Missing at h
  refine AW.seq ?_
  refine AW.reg ?_
  refine Lp (V_asg rfl rfl) rfl rfl ?_
  refine Lnil ?_
  refine thenN ?_
  refine AW.seq ?_
  refine AW.reg ?_
  refine Lp (V_asg rfl rfl) rfl rfl ?_
  refine Lnil ?_
  refine thenN ?_
  refine AW.seq ?_
  refine AW.seq ?_
  refine AW.reg ?_
  refine Lp (V_move rfl rfl) rfl rfl ?_
  obtain ⟨p8_1, hc, h⟩ := h
  refine Lp (V_nil rfl (by rw [← hc]; rfl)) rfl rfl ?_
  refine Lp (V_fld rfl Tryz.underlying56 rfl ty54 (by decide) rfl) rfl rfl ?_
  obtain ⟨x10_2, hc, h⟩ := h
  refine Ls rfl rfl (X_ld rfl Tryz.underlying54 rfl rfl hc ?_)
  refine Lp (V_lenL rfl rfl Tryz.underlying54 rfl rfl) rfl rfl ?_
  refine Lp (V_eql rfl rfl rfl) rfl rfl ?_
  refine Lnil ?_
  refine thenN ?_
  refine AW.iff rfl decide_eq_true_iff h (fun h => ?_) (fun h => ?_)
  · refine AW.seq ?_
    refine AW.reg ?_
    refine Lp (V_move rfl rfl) rfl rfl ?_
    refine Lp (V_asg rfl rfl) rfl rfl ?_
    refine Lnil ?_
    refine thenN ?_
    refine AW.ret ?_
    refine thenR ?_
    exact bR1 Tryz.results27 rfl ⟨_, rfl, h⟩
  refine AW.skip ?_
  refine thenN ?_
  refine AW.seq ?_
  refine AW.reg ?_
  refine Lp (V_move rfl rfl) rfl rfl ?_
  obtain ⟨p15_3, hc, h⟩ := h
  refine Lp (V_nil rfl (by rw [← hc]; rfl)) rfl rfl ?_
  refine Lp (V_fld rfl Tryz.underlying56 rfl ty54 (by decide) rfl) rfl rfl ?_
  obtain ⟨x17_4, hc, h⟩ := h
  refine Ls rfl rfl (X_ld rfl Tryz.underlying54 rfl rfl hc ?_)
  obtain ⟨p18_5, ha, h0, h1, h⟩ := h
  refine Lp (V_ixA rfl Tryz.underlying54 ty125 (ixL rfl ha) rfl h0 h1) rfl rfl ?_
  refine Lp (V_fld rfl Tryz.underlying125 rfl ty123 (by decide) rfl) rfl rfl ?_
  refine Lp (V_ixP rfl Tryz.underlying123 ty3 rfl rfl (by decide) (by decide)) rfl rfl ?_
  obtain ⟨x21_6, hc, h⟩ := h
  refine Ls rfl rfl (X_ld rfl Tryz.underlying3 rfl rfl hc ?_)
  obtain ⟨⟨h0, h1, h2, h3⟩, h⟩ := h
  refine Ls rfl rfl (X_new (A_mks rfl Tryz.underlying66 ty4 rfl rfl h0 h1 h2 h3) fun x22_7 g1 g2 => ?_)
  replace h := h x22_7 g1 g2
  refine Lp (V_asg rfl rfl) rfl rfl ?_
  refine Lnil ?_
  refine thenN ?_
  refine AW.seqJ (fun fr σ => FrLe [(3, Sl.v (⟨none, 0, 0⟩ : Sl)), (4, Sl.v (⟨some ⟨x22_7, 0, none⟩, Int.toNat x21_6, Int.toNat x21_6⟩ : Sl))] fr ∧ j8_ref05_Asm_Missing B ro x21_6 x22_7 Q σ) ?_ ?_
  rotate_left
  · refine AW.seq ?_
    refine AW.reg ?_
    refine Lp (V_asg rfl rfl) rfl rfl ?_
    refine Lnil ?_
    refine thenN ?_
    refine AW.block ?_
    refine ARound.loop (fr' := [(0, .pointer a0), (3, Sl.v (⟨none, 0, 0⟩ : Sl)), (4, Sl.v (⟨some ⟨x22_7, 0, none⟩, Int.toNat x21_6, Int.toNat x21_6⟩ : Sl)), (5, .int .i64 0)]) ?_ (FrLe.cons rfl (FrLe.cons rfl (FrLe.cons rfl (FrLe.cons rfl (FrLe.nil _)))))
    refine h (fun x5_21 σ => ARound _ _ _ _ _ _ [(0, .pointer a0), (3, Sl.v (⟨none, 0, 0⟩ : Sl)), (4, Sl.v (⟨some ⟨x22_7, 0, none⟩, Int.toNat x21_6, Int.toNat x21_6⟩ : Sl)), (5, .int .i64 x5_21)] σ) ?_
    rintro x5_21 σ Y20 hY20 h
    show AW _ _ _ _ _ _ _ _
    unfold l20_ref05_Asm_Missing at h
    refine AW.seq ?_
    refine AW.seq ?_
    refine AW.reg ?_
    refine Lp (V_move rfl rfl) rfl rfl ?_
    refine Lp (V_move rfl rfl) rfl rfl ?_
    obtain ⟨p25_22, hc, h⟩ := h
    refine Lp (V_nil rfl (by rw [← hc]; rfl)) rfl rfl ?_
    refine Lp (V_fld rfl Tryz.underlying56 rfl ty54 (by decide) rfl) rfl rfl ?_
    obtain ⟨x27_23, hc, h⟩ := h
    refine Ls rfl rfl (X_ld rfl Tryz.underlying54 rfl rfl hc ?_)
    refine Lp (V_lenL rfl rfl Tryz.underlying54 rfl rfl) rfl rfl ?_
    refine Lp (V_lss rfl rfl rfl) rfl rfl ?_
    refine Lnil ?_
    refine thenN ?_
    refine AW.iff rfl decide_eq_true_iff h (fun h => ?_) (fun h => ?_)
    rotate_left
    · refine AW.exit ?_
      refine thenE ?_
      refine thenE ?_
      refine blockE ?_
      refine thenN ?_
      exact ⟨(FrLe.cons rfl (FrLe.cons rfl (FrLe.nil _))), h⟩
    refine AW.skip ?_
    refine thenN ?_
    refine AW.seq ?_
    refine AW.block ?_
    refine AW.reg ?_
    refine Lp (V_move rfl rfl) rfl rfl ?_
    refine Lp (V_move rfl rfl) rfl rfl ?_
    obtain ⟨p34_24, hc, h⟩ := h
    refine Lp (V_nil rfl (by rw [← hc]; rfl)) rfl rfl ?_
    refine Lp (V_fld rfl Tryz.underlying56 rfl ty54 (by decide) rfl) rfl rfl ?_
    obtain ⟨x36_25, hc, h⟩ := h
    refine Ls rfl rfl (X_ld rfl Tryz.underlying54 rfl rfl hc ?_)
    refine Lp (V_move rfl rfl) rfl rfl ?_
    obtain ⟨p38_26, ha, h0, h1, h⟩ := h
    refine Lp (V_ixA rfl Tryz.underlying54 ty125 (ixL rfl ha) rfl h0 h1) rfl rfl ?_
    refine Lp (V_fld rfl Tryz.underlying125 rfl ty123 (by decide) rfl) rfl rfl ?_
    refine Lp (V_ixP rfl Tryz.underlying123 ty3 rfl rfl (by decide) (by decide)) rfl rfl ?_
    obtain ⟨x41_27, hc, h⟩ := h
    refine Ls rfl rfl (X_ld rfl Tryz.underlying3 rfl rfl hc ?_)
    obtain ⟨p42_28, ha, h0, h1, h⟩ := h
    refine Lp (V_ixA rfl Tryz.underlying66 ty4 (ixL rfl ha) rfl h0 h1) rfl rfl ?_
    refine Ls rfl rfl (X_st rfl ty4 rfl rfl rfl rfl (stN_mono h fun σ h => ?_))
    refine Lnil ?_
    refine blockN ?_
    refine thenN ?_
    refine AW.reg ?_
    refine Lp (V_move rfl rfl) rfl rfl ?_
    refine Lp (V_add rfl rfl rfl) rfl rfl ?_
    refine Lp (V_asg rfl rfl) rfl rfl ?_
    refine Lnil ?_
    refine thenN ?_
    refine ARound.head (fr' := [(0, .pointer a0), (3, Sl.v (⟨none, 0, 0⟩ : Sl)), (4, Sl.v (⟨some ⟨x22_7, 0, none⟩, Int.toNat x21_6, Int.toNat x21_6⟩ : Sl)), (5, .int .i64 (IntKind.i64.wrap (x5_21 + 1)))]) ?_ (FrLe.cons rfl (FrLe.cons rfl (FrLe.cons rfl (FrLe.cons rfl (FrLe.nil _)))))
    exact hY20 _ _ h
  rintro fr σ ⟨hl, h⟩
  refine AW.weaken ?_ hl (HLe.refl _)
  unfold j8_ref05_Asm_Missing at h
  refine AW.seqJ (fun fr σ => ∃ (x3_10 : Sl), FrLe [(3, Sl.v x3_10)] fr ∧ j9_ref05_Asm_Missing B ro Q x3_10 σ) ?_ ?_
  · rintro fr σ ⟨x3_10, hl, h⟩
    refine AW.weaken ?_ hl (HLe.refl _)
    unfold j9_ref05_Asm_Missing at h
    refine AW.seq ?_
    refine AW.reg ?_
    refine Lp (V_move rfl rfl) rfl rfl ?_
    refine Lp (V_asg rfl rfl) rfl rfl ?_
    refine Lnil ?_
    refine thenN ?_
    refine AW.ret ?_
    exact bR1 Tryz.results27 rfl ⟨_, rfl, h⟩
  refine AW.seq ?_
  refine AW.reg ?_
  refine Lp (V_asg rfl rfl) rfl rfl ?_
  refine Lnil ?_
  refine thenN ?_
  refine AW.block ?_
  refine ARound.loop (fr' := [(4, Sl.v (⟨some ⟨x22_7, 0, none⟩, Int.toNat x21_6, Int.toNat x21_6⟩ : Sl)), (3, Sl.v (⟨none, 0, 0⟩ : Sl)), (6, .int .i64 0)]) ?_ (FrLe.cons rfl (FrLe.cons rfl (FrLe.cons rfl (FrLe.nil _))))
  refine h (fun ⟨x3_12, x6_13⟩ σ => ARound _ _ _ _ _ _ [(4, Sl.v (⟨some ⟨x22_7, 0, none⟩, Int.toNat x21_6, Int.toNat x21_6⟩ : Sl)), (3, Sl.v x3_12), (6, .int .i64 x6_13)] σ) ?_
  rintro ⟨x3_12, x6_13⟩ σ Y11 hY11 h
  show AW _ _ _ _ _ _ _ _
  unfold l11_ref05_Asm_Missing at h
  dsimp only at h
  refine AW.seq ?_
  refine AW.seq ?_
  refine AW.reg ?_
  refine Lp (V_move rfl rfl) rfl rfl ?_
  refine Lp (V_move rfl rfl) rfl rfl ?_
  refine Lp (V_lenL rfl rfl Tryz.underlying66 rfl rfl) rfl rfl ?_
  refine Lp (V_lss rfl rfl rfl) rfl rfl ?_
  refine Lnil ?_
  refine thenN ?_
  refine AW.iff rfl decide_eq_true_iff h (fun h => ?_) (fun h => ?_)
  rotate_left
  · refine AW.exit ?_
    refine thenE ?_
    refine thenE ?_
    refine blockE ?_
    refine thenN ?_
    exact ⟨_, (FrLe.cons rfl (FrLe.nil _)), h⟩
  refine AW.skip ?_
  refine thenN ?_
  refine AW.seqJ (fun fr σ => ∃ (x3_15 : Sl), FrLe [(4, Sl.v (⟨some ⟨x22_7, 0, none⟩, Int.toNat x21_6, Int.toNat x21_6⟩ : Sl)), (6, .int .i64 x6_13), (3, Sl.v x3_15)] fr ∧ j14_ref05_Asm_Missing B ro x6_13 x21_6 x22_7 Q Y11 x3_15 σ) ?_ ?_
  · rintro fr σ ⟨x3_15, hl, h⟩
    refine AW.weaken ?_ hl (HLe.refl _)
    unfold j14_ref05_Asm_Missing at h
    refine AW.reg ?_
    refine Lp (V_move rfl rfl) rfl rfl ?_
    refine Lp (V_add rfl rfl rfl) rfl rfl ?_
    refine Lp (V_asg rfl rfl) rfl rfl ?_
    refine Lnil ?_
    refine thenN ?_
    refine ARound.head (fr' := [(4, Sl.v (⟨some ⟨x22_7, 0, none⟩, Int.toNat x21_6, Int.toNat x21_6⟩ : Sl)), (3, Sl.v x3_15), (6, .int .i64 (IntKind.i64.wrap (x6_13 + 1)))]) ?_ (FrLe.cons rfl (FrLe.cons rfl (FrLe.cons rfl (FrLe.nil _))))
    exact hY11 _ _ h
  refine AW.block ?_
  refine AW.seq ?_
  refine AW.reg ?_
  refine Lp (V_move rfl rfl) rfl rfl ?_
  refine Lp (V_move rfl rfl) rfl rfl ?_
  obtain ⟨p51_16, ha, h0, h1, h⟩ := h
  refine Lp (V_ixA rfl Tryz.underlying66 ty4 (ixL rfl ha) rfl h0 h1) rfl rfl ?_
  obtain ⟨x52_17, hc, h⟩ := h
  refine Ls rfl rfl (X_ld rfl Tryz.underlying4 rfl rfl hc ?_)
  refine Lp (V_not rfl rfl) rfl rfl ?_
  refine Lnil ?_
  refine thenN ?_
  refine AW.iff rfl (bnot_iff Iff.rfl) h (fun h => ?_) (fun h => ?_)
  rotate_left
  · refine AW.skip ?_
    refine blockN ?_
    refine thenN ?_
    exact ⟨_, (FrLe.cons rfl (FrLe.cons rfl (FrLe.cons rfl (FrLe.nil _)))), h⟩
  refine AW.reg ?_
  refine Lp (V_move rfl rfl) rfl rfl ?_
  refine Lp (V_move rfl rfl) rfl rfl ?_
  refine Ls rfl rfl (X_new (A_bsl (vs := [(0, .int .i64 x6_13)]) (cs := #[.int .i64 x6_13]) rfl Tryz.underlying23 ty3 (by decide) rfl rfl) fun x56_18 g1 g2 => ?_)
  replace h := h x56_18 g1 g2
  refine Ls rfl rfl (X_bi (s := Builtin.append_ #[23, 23] 23 #[Sl.v x3_12, Sl.v (⟨some ⟨x56_18, 0, none⟩, 1, 1⟩ : Sl)]) rfl rfl (fun _ => rfl) (awp_mono _ h ?_))
  rintro v σ ⟨x57_19, rfl, h⟩
  refine Lp (V_asg rfl rfl) rfl rfl ?_
  refine Lnil ?_
  refine blockN ?_
  refine thenN ?_
  exact ⟨_, (FrLe.cons rfl (FrLe.cons rfl (FrLe.cons rfl (FrLe.nil _)))), h⟩

def j1_ref05_Asm_find (B : World) (ro : AH) (Q : Int → AH → Prop) (σ : AH) : Prop :=
 Q (-1) σ

def l2_ref05_Asm_find (B : World) (ro : AH) (a0 : Option Addr) (a1 : Int) (Q : Int → AH → Prop) : (Int) → AH → ((Int) → AH → Prop) → Prop := fun x5_3 σ Y2 =>
 ∃ p8_4 : Addr, a0 = some p8_4 ∧
 ∃ (x10_5 : Sl), acell ro σ p8_4 = some (Sl.v x10_5) ∧
 if x5_3 < (x10_5.len : Int) then
  ∃ p16_6 : Addr, a0 = some p16_6 ∧
  ∃ (x18_7 : Sl), acell ro σ p16_6 = some (Sl.v x18_7) ∧
  ∃ p20_8 : Addr, x18_7.a = some p20_8 ∧ (0 : Int) ≤ x5_3 ∧ x5_3 < (x18_7.len : Int) ∧
  ∃ (x23_9 : Int), acell ro σ ((p20_8.add (Int.toNat x5_3 * 6)).add (Int.toNat 2 * 1)) = some (.int .i64 x23_9) ∧
  if x23_9 = a1 then
   Q x5_3 σ
  else
  Y2 (IntKind.i64.wrap (x5_3 + 1)) σ
 else
 j1_ref05_Asm_find B ro Q σ

def f_ref05_Asm_find (B : World) (ro : AH) (a0 : Option Addr) (a1 : Int) (σ : AH) (Q : Int → AH → Prop) : Prop :=
 lfpD (l2_ref05_Asm_find B ro a0 a1 Q ) (0) σ

set_option maxRecDepth 100000 in
set_option maxHeartbeats 4000000 in
theorem ref05_Asm_find_ok {B : World} {ro : AH} {a0 : Option Addr} {a1 : Int} {σ : AH} {Q : Int → AH → Prop} (h : Sep ro σ → f_ref05_Asm_find B ro a0 a1 σ Q) : c_ref05_Asm_find B ro a0 a1 σ Q := by
  refine ACalls.of_sep fun hsep => ?_
  replace h := h hsep
  refine ACalls.of_body (args := [.pointer a0, .int .i64 a1]) Tryz.func65 rfl (by rw [Tryz.ntmps65]; simp) ?_
  rw [Tryz.ntmps65]
  unfold f_ref05_Asm_find at h
  refine AW.seq ?_
  refine AW.reg ?_
  refine Lp (V_asg rfl rfl) rfl rfl ?_
  refine Lnil ?_
  refine thenN ?_
  refine AW.seqJ (fun fr σ => FrLe [] fr ∧ j1_ref05_Asm_find B ro Q σ) ?_ ?_
  · rintro fr σ ⟨hl, h⟩
    refine AW.weaken ?_ hl (HLe.refl _)
    unfold j1_ref05_Asm_find at h
    refine AW.seq ?_
    refine AW.reg ?_
    refine Lp (V_asg rfl rfl) rfl rfl ?_
    refine Lnil ?_
    refine thenN ?_
    refine AW.ret ?_
    exact bR1 Tryz.results65 rfl ⟨_, rfl, h⟩
  refine AW.seq ?_
  refine AW.reg ?_
  refine Lp (V_asg rfl rfl) rfl rfl ?_
  refine Lnil ?_
  refine thenN ?_
  refine AW.block ?_
  refine ARound.loop (fr' := [(0, .pointer a0), (1, .int .i64 a1), (5, .int .i64 0)]) ?_ (FrLe.cons rfl (FrLe.cons rfl (FrLe.cons rfl (FrLe.nil _))))
  refine h (fun x5_3 σ => ARound _ _ _ _ _ _ [(0, .pointer a0), (1, .int .i64 a1), (5, .int .i64 x5_3)] σ) ?_
  rintro x5_3 σ Y2 hY2 h
  show AW _ _ _ _ _ _ _ _
  unfold l2_ref05_Asm_find at h
  refine AW.seq ?_
  refine AW.seq ?_
  refine AW.reg ?_
  refine Lp (V_move rfl rfl) rfl rfl ?_
  refine Lp (V_move rfl rfl) rfl rfl ?_
  obtain ⟨p8_4, hc, h⟩ := h
  refine Lp (V_nil rfl (by rw [← hc]; rfl)) rfl rfl ?_
  refine Lp (V_fld rfl Tryz.underlying56 rfl ty54 (by decide) rfl) rfl rfl ?_
  obtain ⟨x10_5, hc, h⟩ := h
  refine Ls rfl rfl (X_ld rfl Tryz.underlying54 rfl rfl hc ?_)
  refine Lp (V_lenL rfl rfl Tryz.underlying54 rfl rfl) rfl rfl ?_
  refine Lp (V_lss rfl rfl rfl) rfl rfl ?_
  refine Lnil ?_
  refine thenN ?_
  refine AW.iff rfl decide_eq_true_iff h (fun h => ?_) (fun h => ?_)
  rotate_left
  · refine AW.exit ?_
    refine thenE ?_
    refine thenE ?_
    refine blockE ?_
    refine thenN ?_
    exact ⟨(FrLe.nil _), h⟩
  refine AW.skip ?_
  refine thenN ?_
  refine AW.seq ?_
  refine AW.block ?_
  refine AW.seq ?_
  refine AW.reg ?_
  refine Lp (V_move rfl rfl) rfl rfl ?_
  obtain ⟨p16_6, hc, h⟩ := h
  refine Lp (V_nil rfl (by rw [← hc]; rfl)) rfl rfl ?_
  refine Lp (V_fld rfl Tryz.underlying56 rfl ty54 (by decide) rfl) rfl rfl ?_
  obtain ⟨x18_7, hc, h⟩ := h
  refine Ls rfl rfl (X_ld rfl Tryz.underlying54 rfl rfl hc ?_)
  refine Lp (V_move rfl rfl) rfl rfl ?_
  obtain ⟨p20_8, ha, h0, h1, h⟩ := h
  refine Lp (V_ixA rfl Tryz.underlying54 ty125 (ixL rfl ha) rfl h0 h1) rfl rfl ?_
  refine Lp (V_fld rfl Tryz.underlying125 rfl ty123 (by decide) rfl) rfl rfl ?_
  refine Lp (V_ixP rfl Tryz.underlying123 ty3 rfl rfl (by decide) (by decide)) rfl rfl ?_
  obtain ⟨x23_9, hc, h⟩ := h
  refine Ls rfl rfl (X_ld rfl Tryz.underlying3 rfl rfl hc ?_)
  refine Lp (V_move rfl rfl) rfl rfl ?_
  refine Lp (V_eql rfl rfl rfl) rfl rfl ?_
  refine Lnil ?_
  refine thenN ?_
  refine AW.iff rfl decide_eq_true_iff h (fun h => ?_) (fun h => ?_)
  · refine AW.seq ?_
    refine AW.reg ?_
    refine Lp (V_move rfl rfl) rfl rfl ?_
    refine Lp (V_asg rfl rfl) rfl rfl ?_
    refine Lnil ?_
    refine thenN ?_
    refine AW.ret ?_
    refine blockR ?_
    refine thenR ?_
    refine thenR ?_
    refine blockR ?_
    refine thenR ?_
    exact bR1 Tryz.results65 rfl ⟨_, rfl, h⟩
  refine AW.skip ?_
  refine blockN ?_
  refine thenN ?_
  refine AW.reg ?_
  refine Lp (V_move rfl rfl) rfl rfl ?_
  refine Lp (V_add rfl rfl rfl) rfl rfl ?_
  refine Lp (V_asg rfl rfl) rfl rfl ?_
  refine Lnil ?_
  refine thenN ?_
  refine ARound.head (fr' := [(0, .pointer a0), (1, .int .i64 a1), (5, .int .i64 (IntKind.i64.wrap (x5_3 + 1)))]) ?_ (FrLe.cons rfl (FrLe.cons rfl (FrLe.cons rfl (FrLe.nil _))))
  exact hY2 _ _ h

end Go.Proofs.YtfobjidchipdaaaGreatDoor.G
