/- GWire, WiB, WiC, WsB, WiD, WsC -/
import Derived.Test.YtfobjidchipdaaaGreatDoorXD
/- Functions as predicate transformers, and the proofs that the code does what they tell: printed by wip/tools/gen.py. -/
namespace Go.Proofs.YtfobjidchipdaaaGreatDoor.G
open Go Go.Proofs.YtfobjidchipdaaaGreatDoor.SL
set_option linter.unusedVariables false
set_option linter.unusedSimpArgs false

def j1_wire_Sum (B : World) (ro : AH) (Q : Int → AH → Prop) (x3_2 : Int) (σ : AH) : Prop :=
 Q (IntKind.i64.wrap (bitXor .u32 (if IntKind.u32.signed then -1 else IntKind.u32.max) x3_2)) σ

def j6_wire_Sum (B : World) (ro : AH) (a0 : Sl) (x8_5 : Int) (Q : Int → AH → Prop) (Y3 : (Int × Int) → AH → Prop) (x3_7 : Int) (σ : AH) : Prop :=
 Y3 (x3_7, IntKind.i64.wrap (x8_5 + 1)) σ

def j13_wire_Sum (B : World) (ro : AH) (a0 : Sl) (x8_5 : Int) (x16_12 : Int) (Q : Int → AH → Prop) (Y3 : (Int × Int) → AH → Prop) (Y10 : (Int × Int) → AH → Prop) (x3_14 : Int) (σ : AH) : Prop :=
 Y10 (x3_14, IntKind.i64.wrap (x16_12 + 1)) σ

def l10_wire_Sum (B : World) (ro : AH) (a0 : Sl) (x8_5 : Int) (Q : Int → AH → Prop) (Y3 : (Int × Int) → AH → Prop) : (Int × Int) → AH → ((Int × Int) → AH → Prop) → Prop := fun ⟨x3_11, x16_12⟩ σ Y10 =>
 if x16_12 < 8 then
  if (bitAnd .u32 x3_11 1) = 1 then
   j13_wire_Sum B ro a0 x8_5 x16_12 Q Y3 Y10 (bitXor .u32 (Int.fdiv x3_11 (2 ^ (min (Int.toNat 1) 32))) 3988292384) σ
  else
  j13_wire_Sum B ro a0 x8_5 x16_12 Q Y3 Y10 (Int.fdiv x3_11 (2 ^ (min (Int.toNat 1) 32))) σ
 else
 j6_wire_Sum B ro a0 x8_5 Q Y3 x3_11 σ

def l3_wire_Sum (B : World) (ro : AH) (a0 : Sl) (Q : Int → AH → Prop) : (Int × Int) → AH → ((Int × Int) → AH → Prop) → Prop := fun ⟨x3_4, x8_5⟩ σ Y3 =>
 if x8_5 < (a0.len : Int) then
  ∃ p10_8 : Addr, a0.a = some p10_8 ∧ (0 : Int) ≤ x8_5 ∧ x8_5 < (a0.len : Int) ∧
  ∃ (x11_9 : Int), acell ro σ (p10_8.add (Int.toNat x8_5 * 1)) = some (.int .u8 x11_9) ∧
  lfpD (l10_wire_Sum B ro a0 x8_5 Q Y3 ) (bitXor .u32 x3_4 (IntKind.u32.wrap x11_9), 0) σ
 else
 j1_wire_Sum B ro Q x3_4 σ

def f_wire_Sum (B : World) (ro : AH) (a0 : Sl) (σ : AH) (Q : Int → AH → Prop) : Prop :=
 lfpD (l3_wire_Sum B ro a0 Q ) (4294967295, 0) σ

set_option maxRecDepth 100000 in
set_option maxHeartbeats 4000000 in
theorem wire_Sum_ok {B : World} {ro : AH} {a0 : Sl} {σ : AH} {Q : Int → AH → Prop} (h : Sep ro σ → f_wire_Sum B ro a0 σ Q) : c_wire_Sum B ro a0 σ Q := by
  refine ACalls.of_sep fun hsep => ?_
  replace h := h hsep
  refine ACalls.of_body (args := [Sl.v a0]) Tryz.func77 rfl (by rw [Tryz.ntmps77]; simp) ?_
  rw [Tryz.ntmps77]
  unfold f_wire_Sum at h
  refine AW.seq ?_
  refine AW.reg ?_
  refine Lp (V_asg rfl rfl) rfl rfl ?_
  refine Lnil ?_
  refine thenN ?_
  refine AW.seq ?_
  refine AW.reg ?_
  refine Lp (V_asg rfl rfl) rfl rfl ?_
  refine Lnil ?_
  refine thenN ?_
  refine AW.seqJ (fun fr σ => ∃ (x3_2 : Int), FrLe [(3, .int .u32 x3_2)] fr ∧ j1_wire_Sum B ro Q x3_2 σ) ?_ ?_
  · rintro fr σ ⟨x3_2, hl, h⟩
    refine AW.weaken ?_ hl (HLe.refl _)
    unfold j1_wire_Sum at h
    refine AW.seq ?_
    refine AW.reg ?_
    refine Lp (V_move rfl rfl) rfl rfl ?_
    refine Lp (V_inv rfl rfl) rfl rfl ?_
    refine Lp (V_cvt rfl rfl Tryz.underlying175 Tryz.underlying3) rfl rfl ?_
    refine Lp (V_asg rfl rfl) rfl rfl ?_
    refine Lnil ?_
    refine thenN ?_
    refine AW.ret ?_
    exact bR1 Tryz.results77 rfl ⟨_, rfl, h⟩
  refine AW.seq ?_
  refine AW.reg ?_
  refine Lp (V_move rfl rfl) rfl rfl ?_
  refine Lp (V_lenL rfl rfl Tryz.underlying22 rfl rfl) rfl rfl ?_
  refine Lp (V_move rfl rfl) rfl rfl ?_
  refine Lnil ?_
  refine thenN ?_
  refine AW.block ?_
  refine ARound.loop (fr' := [(6, Sl.v a0), (7, .int .i64 (a0.len : Int)), (3, .int .u32 4294967295), (8, .int .i64 0)]) ?_ (FrLe.cons rfl (FrLe.cons rfl (FrLe.cons rfl (FrLe.cons rfl (FrLe.nil _)))))
  refine h (fun ⟨x3_4, x8_5⟩ σ => ARound _ _ _ _ _ _ [(6, Sl.v a0), (7, .int .i64 (a0.len : Int)), (3, .int .u32 x3_4), (8, .int .i64 x8_5)] σ) ?_
  rintro ⟨x3_4, x8_5⟩ σ Y3 hY3 h
  show AW _ _ _ _ _ _ _ _
  unfold l3_wire_Sum at h
  dsimp only at h
  refine AW.seq ?_
  refine AW.reg ?_
  refine Lp (V_lss rfl rfl rfl) rfl rfl ?_
  refine Lnil ?_
  refine thenN ?_
  refine AW.seq ?_
  refine AW.iff rfl decide_eq_true_iff h (fun h => ?_) (fun h => ?_)
  rotate_left
  · refine AW.exit ?_
    refine thenE ?_
    refine thenE ?_
    refine blockE ?_
    refine thenN ?_
    exact ⟨_, (FrLe.cons rfl (FrLe.nil _)), h⟩
  refine AW.skip ?_
  refine thenN ?_
  refine AW.seqJ (fun fr σ => ∃ (x3_7 : Int), FrLe [(6, Sl.v a0), (7, .int .i64 (a0.len : Int)), (8, .int .i64 x8_5), (3, .int .u32 x3_7)] fr ∧ j6_wire_Sum B ro a0 x8_5 Q Y3 x3_7 σ) ?_ ?_
  · rintro fr σ ⟨x3_7, hl, h⟩
    refine AW.weaken ?_ hl (HLe.refl _)
    unfold j6_wire_Sum at h
    refine AW.reg ?_
    refine Lp (V_add rfl rfl rfl) rfl rfl ?_
    refine Lp (V_move rfl rfl) rfl rfl ?_
    refine Lnil ?_
    refine thenN ?_
    refine ARound.head (fr' := [(6, Sl.v a0), (7, .int .i64 (a0.len : Int)), (3, .int .u32 x3_7), (8, .int .i64 (IntKind.i64.wrap (x8_5 + 1)))]) ?_ (FrLe.cons rfl (FrLe.cons rfl (FrLe.cons rfl (FrLe.cons rfl (FrLe.nil _)))))
    exact hY3 _ _ h
  refine AW.block ?_
  refine AW.seq ?_
  refine AW.reg ?_
  obtain ⟨p10_8, ha, h0, h1, h⟩ := h
  refine Lp (V_ixA rfl Tryz.underlying22 ty5 (ixL rfl ha) rfl h0 h1) rfl rfl ?_
  obtain ⟨x11_9, hc, h⟩ := h
  refine Ls rfl rfl (X_ld rfl Tryz.underlying5 rfl rfl hc ?_)
  refine Lp (V_asg rfl rfl) rfl rfl ?_
  refine Lnil ?_
  refine thenN ?_
  refine AW.seq ?_
  refine AW.reg ?_
  refine Lp (V_move rfl rfl) rfl rfl ?_
  refine Lp (V_move rfl rfl) rfl rfl ?_
  refine Lp (V_cvt rfl rfl Tryz.underlying5 Tryz.underlying175) rfl rfl ?_
  refine Lp (V_xor rfl rfl rfl) rfl rfl ?_
  refine Lp (V_asg rfl rfl) rfl rfl ?_
  refine Lnil ?_
  refine thenN ?_
  refine AW.seq ?_
  refine AW.reg ?_
  refine Lp (V_move rfl rfl) rfl rfl ?_
  refine Lnil ?_
  refine thenN ?_
  refine AW.block ?_
  refine ARound.loop (fr' := [(6, Sl.v a0), (7, .int .i64 (a0.len : Int)), (8, .int .i64 x8_5), (3, .int .u32 (bitXor .u32 x3_4 (IntKind.u32.wrap x11_9))), (16, .int .i64 0)]) ?_ (FrLe.cons rfl (FrLe.cons rfl (FrLe.cons rfl (FrLe.cons rfl (FrLe.cons rfl (FrLe.nil _))))))
  refine h (fun ⟨x3_11, x16_12⟩ σ => ARound _ _ _ _ _ _ [(6, Sl.v a0), (7, .int .i64 (a0.len : Int)), (8, .int .i64 x8_5), (3, .int .u32 x3_11), (16, .int .i64 x16_12)] σ) ?_
  rintro ⟨x3_11, x16_12⟩ σ Y10 hY10 h
  show AW _ _ _ _ _ _ _ _
  unfold l10_wire_Sum at h
  dsimp only at h
  refine AW.seq ?_
  refine AW.reg ?_
  refine Lp (V_lss rfl rfl rfl) rfl rfl ?_
  refine Lnil ?_
  refine thenN ?_
  refine AW.seq ?_
  refine AW.iff rfl decide_eq_true_iff h (fun h => ?_) (fun h => ?_)
  rotate_left
  · refine AW.exit ?_
    refine thenE ?_
    refine thenE ?_
    refine blockE ?_
    refine blockN ?_
    refine thenN ?_
    exact ⟨_, (FrLe.cons rfl (FrLe.cons rfl (FrLe.cons rfl (FrLe.cons rfl (FrLe.nil _))))), h⟩
  refine AW.skip ?_
  refine thenN ?_
  refine AW.seqJ (fun fr σ => ∃ (x3_14 : Int), FrLe [(6, Sl.v a0), (7, .int .i64 (a0.len : Int)), (8, .int .i64 x8_5), (16, .int .i64 x16_12), (3, .int .u32 x3_14)] fr ∧ j13_wire_Sum B ro a0 x8_5 x16_12 Q Y3 Y10 x3_14 σ) ?_ ?_
  · rintro fr σ ⟨x3_14, hl, h⟩
    refine AW.weaken ?_ hl (HLe.refl _)
    unfold j13_wire_Sum at h
    refine AW.reg ?_
    refine Lp (V_add rfl rfl rfl) rfl rfl ?_
    refine Lp (V_move rfl rfl) rfl rfl ?_
    refine Lnil ?_
    refine thenN ?_
    refine ARound.head (fr' := [(6, Sl.v a0), (7, .int .i64 (a0.len : Int)), (8, .int .i64 x8_5), (3, .int .u32 x3_14), (16, .int .i64 (IntKind.i64.wrap (x16_12 + 1)))]) ?_ (FrLe.cons rfl (FrLe.cons rfl (FrLe.cons rfl (FrLe.cons rfl (FrLe.cons rfl (FrLe.nil _))))))
    exact hY10 _ _ h
  refine AW.block ?_
  refine AW.seq ?_
  refine AW.reg ?_
  refine Lp (V_move rfl rfl) rfl rfl ?_
  refine Lp (V_and rfl rfl rfl) rfl rfl ?_
  refine Lp (V_eql rfl rfl rfl) rfl rfl ?_
  refine Lnil ?_
  refine thenN ?_
  refine AW.iff rfl decide_eq_true_iff h (fun h => ?_) (fun h => ?_)
  rotate_left
  · refine AW.reg ?_
    refine Lp (V_move rfl rfl) rfl rfl ?_
    refine Lp (V_shr rfl rfl rfl (by decide)) rfl rfl ?_
    refine Lp (V_asg rfl rfl) rfl rfl ?_
    refine Lnil ?_
    refine blockN ?_
    refine thenN ?_
    exact ⟨_, (FrLe.cons rfl (FrLe.cons rfl (FrLe.cons rfl (FrLe.cons rfl (FrLe.cons rfl (FrLe.nil _)))))), h⟩
  refine AW.reg ?_
  refine Lp (V_move rfl rfl) rfl rfl ?_
  refine Lp (V_shr rfl rfl rfl (by decide)) rfl rfl ?_
  refine Lp (V_xor rfl rfl rfl) rfl rfl ?_
  refine Lp (V_asg rfl rfl) rfl rfl ?_
  refine Lnil ?_
  refine blockN ?_
  refine thenN ?_
  exact ⟨_, (FrLe.cons rfl (FrLe.cons rfl (FrLe.cons rfl (FrLe.cons rfl (FrLe.cons rfl (FrLe.nil _)))))), h⟩

def j1_wire_Numbers (B : World) (ro : AH) (Q : Sl → Int → AH → Prop) (x4_2 : Sl) (σ : AH) : Prop :=
 Q x4_2 0 σ

def l3_wire_Numbers (B : World) (ro : AH) (a0 : Sl) (Q : Sl → Int → AH → Prop) : (Sl × Int) → AH → ((Sl × Int) → AH → Prop) → Prop := fun ⟨x4_4, x9_5⟩ σ Y3 =>
 if x9_5 < (a0.len : Int) then
  ∃ p11_6 : Addr, a0.a = some p11_6 ∧ (0 : Int) ≤ x9_5 ∧ x9_5 < (a0.len : Int) ∧
  ∃ (x12_7 : Int), acell ro σ (p11_6.add (Int.toNat x9_5 * 1)) = some (.int .i64 x12_7) ∧
  c_wire_right B ro x12_7 σ fun x14_8 σ =>
  if ¬ (x14_8 = true) then
   Q (⟨none, 0, 0⟩ : Sl) 10 σ
  else
  c_wire_put B ro x4_4 x12_7 σ fun x18_9 σ =>
  Y3 (x18_9, IntKind.i64.wrap (x9_5 + 1)) σ
 else
 j1_wire_Numbers B ro Q x4_4 σ

def f_wire_Numbers (B : World) (ro : AH) (a0 : Sl) (σ : AH) (Q : Sl → Int → AH → Prop) : Prop :=
 lfpD (l3_wire_Numbers B ro a0 Q ) ((⟨none, 0, 0⟩ : Sl), 0) σ

set_option maxRecDepth 100000 in
set_option maxHeartbeats 4000000 in
theorem wire_Numbers_ok {B : World} {ro : AH} {a0 : Sl} {σ : AH} {Q : Sl → Int → AH → Prop} (h : Sep ro σ → f_wire_Numbers B ro a0 σ Q) : c_wire_Numbers B ro a0 σ Q := by
  refine ACalls.of_sep fun hsep => ?_
  replace h := h hsep
  refine ACalls.of_body (args := [Sl.v a0]) Tryz.func78 rfl (by rw [Tryz.ntmps78]; simp) ?_
  rw [Tryz.ntmps78]
  unfold f_wire_Numbers at h
  refine AW.seq ?_
  refine AW.reg ?_
  refine Lp (V_asg rfl rfl) rfl rfl ?_
  refine Lp (V_asg rfl rfl) rfl rfl ?_
  refine Lnil ?_
  refine thenN ?_
  refine AW.seq ?_
  refine AW.reg ?_
  refine Lp (V_asg rfl rfl) rfl rfl ?_
  refine Lnil ?_
  refine thenN ?_
  refine AW.seqJ (fun fr σ => ∃ (x4_2 : Sl), FrLe [(4, Sl.v x4_2)] fr ∧ j1_wire_Numbers B ro Q x4_2 σ) ?_ ?_
  · rintro fr σ ⟨x4_2, hl, h⟩
    refine AW.weaken ?_ hl (HLe.refl _)
    unfold j1_wire_Numbers at h
    refine AW.seq ?_
    refine AW.reg ?_
    refine Lp (V_move rfl rfl) rfl rfl ?_
    refine Lp (V_asg rfl rfl) rfl rfl ?_
    refine Lp (V_asg rfl rfl) rfl rfl ?_
    refine Lnil ?_
    refine thenN ?_
    refine AW.ret ?_
    exact bR2 Tryz.results78 rfl rfl ⟨_, _, rfl, h⟩
  refine AW.seq ?_
  refine AW.reg ?_
  refine Lp (V_move rfl rfl) rfl rfl ?_
  refine Lp (V_lenL rfl rfl Tryz.underlying23 rfl rfl) rfl rfl ?_
  refine Lp (V_move rfl rfl) rfl rfl ?_
  refine Lnil ?_
  refine thenN ?_
  refine AW.block ?_
  refine ARound.loop (fr' := [(7, Sl.v a0), (8, .int .i64 (a0.len : Int)), (4, Sl.v (⟨none, 0, 0⟩ : Sl)), (9, .int .i64 0)]) ?_ (FrLe.cons rfl (FrLe.cons rfl (FrLe.cons rfl (FrLe.cons rfl (FrLe.nil _)))))
  refine h (fun ⟨x4_4, x9_5⟩ σ => ARound _ _ _ _ _ _ [(7, Sl.v a0), (8, .int .i64 (a0.len : Int)), (4, Sl.v x4_4), (9, .int .i64 x9_5)] σ) ?_
  rintro ⟨x4_4, x9_5⟩ σ Y3 hY3 h
  show AW _ _ _ _ _ _ _ _
  unfold l3_wire_Numbers at h
  dsimp only at h
  refine AW.seq ?_
  refine AW.reg ?_
  refine Lp (V_lss rfl rfl rfl) rfl rfl ?_
  refine Lnil ?_
  refine thenN ?_
  refine AW.seq ?_
  refine AW.iff rfl decide_eq_true_iff h (fun h => ?_) (fun h => ?_)
  rotate_left
  · refine AW.exit ?_
    refine thenE ?_
    refine thenE ?_
    refine blockE ?_
    refine thenN ?_
    exact ⟨_, (FrLe.cons rfl (FrLe.nil _)), h⟩
  refine AW.skip ?_
  refine thenN ?_
  refine AW.seq ?_
  refine AW.block ?_
  refine AW.seq ?_
  refine AW.reg ?_
  obtain ⟨p11_6, ha, h0, h1, h⟩ := h
  refine Lp (V_ixA rfl Tryz.underlying23 ty3 (ixL rfl ha) rfl h0 h1) rfl rfl ?_
  obtain ⟨x12_7, hc, h⟩ := h
  refine Ls rfl rfl (X_ld rfl Tryz.underlying3 rfl rfl hc ?_)
  refine Lp (V_asg rfl rfl) rfl rfl ?_
  refine Lnil ?_
  refine thenN ?_
  refine AW.seq ?_
  refine AW.seq ?_
  refine AW.reg ?_
  refine Lp (V_move rfl rfl) rfl rfl ?_
  refine Ls rfl rfl (X_call rfl Tryz.func102 rfl rfl rfl (ACalls.mono h ?_))
  rintro v σ ⟨x14_8, rfl, h⟩
  refine Lp (V_not rfl rfl) rfl rfl ?_
  refine Lnil ?_
  refine thenN ?_
  refine AW.iff rfl (bnot_iff Iff.rfl) h (fun h => ?_) (fun h => ?_)
  · refine AW.seq ?_
    refine AW.reg ?_
    refine Lp (V_asg rfl rfl) rfl rfl ?_
    refine Lp (V_asg rfl rfl) rfl rfl ?_
    refine Lnil ?_
    refine thenN ?_
    refine AW.ret ?_
    refine thenR ?_
    refine blockR ?_
    refine thenR ?_
    refine thenR ?_
    refine blockR ?_
    refine thenR ?_
    exact bR2 Tryz.results78 rfl rfl ⟨_, _, rfl, h⟩
  refine AW.skip ?_
  refine thenN ?_
  refine AW.reg ?_
  refine Lp (V_move rfl rfl) rfl rfl ?_
  refine Lp (V_move rfl rfl) rfl rfl ?_
  refine Ls rfl rfl (X_call rfl Tryz.func103 rfl rfl rfl (ACalls.mono h ?_))
  rintro v σ ⟨x18_9, rfl, h⟩
  refine Lp (V_asg rfl rfl) rfl rfl ?_
  refine Lnil ?_
  refine blockN ?_
  refine thenN ?_
  refine AW.reg ?_
  refine Lp (V_add rfl rfl rfl) rfl rfl ?_
  refine Lp (V_move rfl rfl) rfl rfl ?_
  refine Lnil ?_
  refine thenN ?_
  refine ARound.head (fr' := [(7, Sl.v a0), (8, .int .i64 (a0.len : Int)), (4, Sl.v x18_9), (9, .int .i64 (IntKind.i64.wrap (x9_5 + 1)))]) ?_ (FrLe.cons rfl (FrLe.cons rfl (FrLe.cons rfl (FrLe.cons rfl (FrLe.nil _)))))
  exact hY3 _ _ h

def f_wire_Frame (B : World) (ro : AH) (a0 : Sl) (σ : AH) (Q : Sl → Int → AH → Prop) : Prop :=
 if 65536 < (a0.len : Int) then
  Q (⟨none, 0, 0⟩ : Sl) 14 σ
 else
 c_wire_four B ro (a0.len : Int) σ fun x11_1 σ =>
 c_wire_four B ro (a0.len : Int) σ fun x14_2 σ =>
 awp Tryz.prog ro (Builtin.append_ #[22, 22] 22 #[Sl.v x14_2, Sl.v a0]) (fun v σ => ∃ (x16_3 : Sl), v = Sl.v x16_3 ∧
  c_wire_Sum B ro x16_3 σ fun x17_4 σ =>
  c_wire_four B ro x17_4 σ fun x18_5 σ =>
  awp Tryz.prog ro (Builtin.append_ #[22, 22] 22 #[Sl.v x11_1, Sl.v x18_5]) (fun v σ => ∃ (x21_6 : Sl), v = Sl.v x21_6 ∧
   awp Tryz.prog ro (Builtin.append_ #[22, 22] 22 #[Sl.v x21_6, Sl.v a0]) (fun v σ => ∃ (x23_7 : Sl), v = Sl.v x23_7 ∧
    Q x23_7 0 σ) σ) σ) σ

set_option maxRecDepth 100000 in
set_option maxHeartbeats 4000000 in
theorem wire_Frame_ok {B : World} {ro : AH} {a0 : Sl} {σ : AH} {Q : Sl → Int → AH → Prop} (h : Sep ro σ → f_wire_Frame B ro a0 σ Q) : c_wire_Frame B ro a0 σ Q := by
  refine ACalls.of_sep fun hsep => ?_
  replace h := h hsep
  refine ACalls.of_body (args := [Sl.v a0]) Tryz.func79 rfl (by rw [Tryz.ntmps79]; simp) ?_
  rw [Tryz.ntmps79]
  unfold f_wire_Frame at h
  refine AW.seq ?_
  refine AW.reg ?_
  refine Lp (V_asg rfl rfl) rfl rfl ?_
  refine Lp (V_asg rfl rfl) rfl rfl ?_
  refine Lnil ?_
  refine thenN ?_
  refine AW.seq ?_
  refine AW.seq ?_
  refine AW.reg ?_
  refine Lp (V_move rfl rfl) rfl rfl ?_
  refine Lp (V_lenL rfl rfl Tryz.underlying22 rfl rfl) rfl rfl ?_
  refine Lp (V_gtr rfl rfl rfl) rfl rfl ?_
  refine Lnil ?_
  refine thenN ?_
  refine AW.iff rfl decide_eq_true_iff h (fun h => ?_) (fun h => ?_)
  · refine AW.seq ?_
    refine AW.reg ?_
    refine Lp (V_asg rfl rfl) rfl rfl ?_
    refine Lp (V_asg rfl rfl) rfl rfl ?_
    refine Lnil ?_
    refine thenN ?_
    refine AW.ret ?_
    refine thenR ?_
    exact bR2 Tryz.results79 rfl rfl ⟨_, _, rfl, h⟩
  refine AW.skip ?_
  refine thenN ?_
  refine AW.seq ?_
  refine AW.reg ?_
  refine Lp (V_move rfl rfl) rfl rfl ?_
  refine Lp (V_lenL rfl rfl Tryz.underlying22 rfl rfl) rfl rfl ?_
  refine Ls rfl rfl (X_call rfl Tryz.func104 rfl rfl rfl (ACalls.mono h ?_))
  rintro v σ ⟨x11_1, rfl, h⟩
  refine Lp (V_asg rfl rfl) rfl rfl ?_
  refine Lnil ?_
  refine thenN ?_
  refine AW.seq ?_
  refine AW.reg ?_
  refine Lp (V_move rfl rfl) rfl rfl ?_
  refine Lp (V_lenL rfl rfl Tryz.underlying22 rfl rfl) rfl rfl ?_
  refine Ls rfl rfl (X_call rfl Tryz.func104 rfl rfl rfl (ACalls.mono h ?_))
  rintro v σ ⟨x14_2, rfl, h⟩
  refine Lp (V_move rfl rfl) rfl rfl ?_
  refine Ls rfl rfl (X_bi (s := Builtin.append_ #[22, 22] 22 #[Sl.v x14_2, Sl.v a0]) rfl rfl (fun _ => rfl) (awp_mono _ h ?_))
  rintro v σ ⟨x16_3, rfl, h⟩
  refine Ls rfl rfl (X_call rfl Tryz.func77 rfl rfl rfl (ACalls.mono h ?_))
  rintro v σ ⟨x17_4, rfl, h⟩
  refine Ls rfl rfl (X_call rfl Tryz.func104 rfl rfl rfl (ACalls.mono h ?_))
  rintro v σ ⟨x18_5, rfl, h⟩
  refine Lp (V_asg rfl rfl) rfl rfl ?_
  refine Lnil ?_
  refine thenN ?_
  refine AW.seq ?_
  refine AW.reg ?_
  refine Lp (V_move rfl rfl) rfl rfl ?_
  refine Lp (V_move rfl rfl) rfl rfl ?_
  refine Ls rfl rfl (X_bi (s := Builtin.append_ #[22, 22] 22 #[Sl.v x11_1, Sl.v x18_5]) rfl rfl (fun _ => rfl) (awp_mono _ h ?_))
  rintro v σ ⟨x21_6, rfl, h⟩
  refine Lp (V_move rfl rfl) rfl rfl ?_
  refine Ls rfl rfl (X_bi (s := Builtin.append_ #[22, 22] 22 #[Sl.v x21_6, Sl.v a0]) rfl rfl (fun _ => rfl) (awp_mono _ h ?_))
  rintro v σ ⟨x23_7, rfl, h⟩
  refine Lp (V_asg rfl rfl) rfl rfl ?_
  refine Lp (V_asg rfl rfl) rfl rfl ?_
  refine Lnil ?_
  refine thenN ?_
  refine AW.ret ?_
  exact bR2 Tryz.results79 rfl rfl ⟨_, _, rfl, h⟩

def f_wire_Unframe (B : World) (ro : AH) (a0 : Sl) (a1 : Int) (σ : AH) (Q : Sl → Int → Int → AH → Prop) : Prop :=
 if (a1 < 0) ∨ ((a0.len : Int) < a1) then
  Q (⟨none, 0, 0⟩ : Sl) 0 11 σ
 else
 if (IntKind.i64.wrap ((a0.len : Int) - a1)) < 8 then
  Q (⟨none, 0, 0⟩ : Sl) 0 12 σ
 else
 cutOk (some a1) none a0.len a0.cap ∧
 c_wire_value B ro (⟨cutA a0.a (Int.toNat a1) a0.cap 1, a0.len - Int.toNat a1, a0.cap - Int.toNat a1⟩ : Sl) σ fun x26_1 σ =>
 if 65536 < x26_1 then
  Q (⟨none, 0, 0⟩ : Sl) 0 14 σ
 else
 if (IntKind.i64.wrap ((IntKind.i64.wrap ((a0.len : Int) - a1)) - 8)) < x26_1 then
  Q (⟨none, 0, 0⟩ : Sl) 0 12 σ
 else
 cutOk (some (IntKind.i64.wrap (a1 + 8))) (some (IntKind.i64.wrap ((IntKind.i64.wrap (a1 + 8)) + x26_1))) a0.len a0.cap ∧
 c_bytes_Clone B ro (⟨cutA a0.a (Int.toNat (IntKind.i64.wrap (a1 + 8))) a0.cap 1, Int.toNat (IntKind.i64.wrap ((IntKind.i64.wrap (a1 + 8)) + x26_1)) - Int.toNat (IntKind.i64.wrap (a1 + 8)), a0.cap - Int.toNat (IntKind.i64.wrap (a1 + 8))⟩ : Sl) σ fun x46_2 σ =>
 cutOk (some (IntKind.i64.wrap (a1 + 4))) none a0.len a0.cap ∧
 c_wire_four B ro x26_1 σ fun x48_3 σ =>
 awp Tryz.prog ro (Builtin.append_ #[22, 22] 22 #[Sl.v x48_3, Sl.v x46_2]) (fun v σ => ∃ (x50_4 : Sl), v = Sl.v x50_4 ∧
  c_wire_Sum B ro x50_4 σ fun x51_5 σ =>
  c_wire_value B ro (⟨cutA a0.a (Int.toNat (IntKind.i64.wrap (a1 + 4))) a0.cap 1, a0.len - Int.toNat (IntKind.i64.wrap (a1 + 4)), a0.cap - Int.toNat (IntKind.i64.wrap (a1 + 4))⟩ : Sl) σ fun x56_6 σ =>
  if ¬ (x51_5 = x56_6) then
   Q (⟨none, 0, 0⟩ : Sl) 0 15 σ
  else
  Q x46_2 (IntKind.i64.wrap ((IntKind.i64.wrap (a1 + 8)) + x26_1)) 0 σ) σ

set_option maxRecDepth 100000 in
set_option maxHeartbeats 4000000 in
theorem wire_Unframe_ok {B : World} {ro : AH} {a0 : Sl} {a1 : Int} {σ : AH} {Q : Sl → Int → Int → AH → Prop} (h : Sep ro σ → f_wire_Unframe B ro a0 a1 σ Q) : c_wire_Unframe B ro a0 a1 σ Q := by
  refine ACalls.of_sep fun hsep => ?_
  replace h := h hsep
  refine ACalls.of_body (args := [Sl.v a0, .int .i64 a1]) Tryz.func86 rfl (by rw [Tryz.ntmps86]; simp) ?_
  rw [Tryz.ntmps86]
  unfold f_wire_Unframe at h
  refine AW.seq ?_
  refine AW.reg ?_
  refine Lp (V_asg rfl rfl) rfl rfl ?_
  refine Lp (V_asg rfl rfl) rfl rfl ?_
  refine Lp (V_asg rfl rfl) rfl rfl ?_
  refine Lnil ?_
  refine thenN ?_
  refine AW.seq ?_
  refine AW.block ?_
  refine AW.seq ?_
  refine AW.reg ?_
  refine Lp (V_move rfl rfl) rfl rfl ?_
  refine Lp (V_lss rfl rfl rfl) rfl rfl ?_
  refine Lp (V_move rfl rfl) rfl rfl ?_
  refine Lsplit 5 (decide (a1 < 0)) [(0, Sl.v a0), (1, .int .i64 a1), (16, .bool ((decide (a1 < 0)) || (decide ((a0.len : Int) < a1))))] ?_ ?_ ?_
  · intro e2 hk2
    refine Ln rfl rfl rfl rfl (.inl (by rw [e2]; rfl)) ?_
    refine Ln rfl rfl rfl rfl (.inl (by rw [e2]; rfl)) ?_
    refine Ln rfl rfl rfl rfl (.inl (by rw [e2]; rfl)) ?_
    refine Ln rfl rfl rfl rfl (.inl (by rw [e2]; rfl)) ?_
    refine Lp (V_pickT rfl (evb e2) rfl) rfl rfl ?_
    exact hk2 _ (FrLe.cons rfl (FrLe.cons rfl (FrLe.cons (by rw [e2]; rfl) (FrLe.nil _))))
  · intro e2 hk2
    refine Lypb (V_move rfl rfl) rfl rfl rfl rfl e2 ?_
    refine Lypb (V_move rfl rfl) rfl rfl rfl rfl e2 ?_
    refine Lypb (V_lenL rfl rfl Tryz.underlying22 rfl rfl) rfl rfl rfl rfl e2 ?_
    refine Lypb (V_gtr rfl rfl rfl) rfl rfl rfl rfl e2 ?_
    refine Lp (V_pickF rfl (evb e2) rfl) rfl rfl ?_
    exact hk2 _ (FrLe.cons rfl (FrLe.cons rfl (FrLe.cons (by rw [e2]; rfl) (FrLe.nil _))))
  intro fr hl
  refine Lfr hl ?_
  refine Lp (V_asg rfl rfl) rfl rfl ?_
  refine Lnil ?_
  refine thenN ?_
  refine AW.iff rfl (bor_iff decide_eq_true_iff decide_eq_true_iff) h (fun h => ?_) (fun h => ?_)
  · refine AW.seq ?_
    refine AW.reg ?_
    refine Lp (V_asg rfl rfl) rfl rfl ?_
    refine Lp (V_asg rfl rfl) rfl rfl ?_
    refine Lp (V_asg rfl rfl) rfl rfl ?_
    refine Lnil ?_
    refine thenN ?_
    refine AW.ret ?_
    refine blockR ?_
    refine thenR ?_
    exact bR3 Tryz.results86 rfl rfl rfl ⟨_, _, _, rfl, h⟩
  refine AW.seq ?_
  refine AW.reg ?_
  refine Lp (V_move rfl rfl) rfl rfl ?_
  refine Lp (V_lenL rfl rfl Tryz.underlying22 rfl rfl) rfl rfl ?_
  refine Lp (V_move rfl rfl) rfl rfl ?_
  refine Lp (V_sub rfl rfl rfl) rfl rfl ?_
  refine Lp (V_lss rfl rfl rfl) rfl rfl ?_
  refine Lp (V_asg rfl rfl) rfl rfl ?_
  refine Lnil ?_
  refine thenN ?_
  refine AW.iff rfl decide_eq_true_iff h (fun h => ?_) (fun h => ?_)
  · refine AW.seq ?_
    refine AW.reg ?_
    refine Lp (V_asg rfl rfl) rfl rfl ?_
    refine Lp (V_asg rfl rfl) rfl rfl ?_
    refine Lp (V_asg rfl rfl) rfl rfl ?_
    refine Lnil ?_
    refine thenN ?_
    refine AW.ret ?_
    refine blockR ?_
    refine thenR ?_
    exact bR3 Tryz.results86 rfl rfl rfl ⟨_, _, _, rfl, h⟩
  refine AW.skip ?_
  refine blockN ?_
  refine thenN ?_
  refine AW.seq ?_
  refine AW.reg ?_
  refine Lp (V_move rfl rfl) rfl rfl ?_
  refine Lp (V_move rfl rfl) rfl rfl ?_
  obtain ⟨hc, h⟩ := h
  refine Lp (V_slL (lo := (some a1)) (hi := none) rfl Tryz.underlying22 ty5 rfl (optI_some rfl) optI_none hc) rfl rfl ?_
  refine Ls rfl rfl (X_call rfl Tryz.func120 rfl rfl rfl (ACalls.mono h ?_))
  rintro v σ ⟨x26_1, rfl, h⟩
  refine Lp (V_asg rfl rfl) rfl rfl ?_
  refine Lnil ?_
  refine thenN ?_
  refine AW.seq ?_
  refine AW.block ?_
  refine AW.seq ?_
  refine AW.reg ?_
  refine Lp (V_move rfl rfl) rfl rfl ?_
  refine Lp (V_gtr rfl rfl rfl) rfl rfl ?_
  refine Lp (V_asg rfl rfl) rfl rfl ?_
  refine Lnil ?_
  refine thenN ?_
  refine AW.iff rfl decide_eq_true_iff h (fun h => ?_) (fun h => ?_)
  · refine AW.seq ?_
    refine AW.reg ?_
    refine Lp (V_asg rfl rfl) rfl rfl ?_
    refine Lp (V_asg rfl rfl) rfl rfl ?_
    refine Lp (V_asg rfl rfl) rfl rfl ?_
    refine Lnil ?_
    refine thenN ?_
    refine AW.ret ?_
    refine blockR ?_
    refine thenR ?_
    exact bR3 Tryz.results86 rfl rfl rfl ⟨_, _, _, rfl, h⟩
  refine AW.seq ?_
  refine AW.reg ?_
  refine Lp (V_move rfl rfl) rfl rfl ?_
  refine Lp (V_lenL rfl rfl Tryz.underlying22 rfl rfl) rfl rfl ?_
  refine Lp (V_move rfl rfl) rfl rfl ?_
  refine Lp (V_sub rfl rfl rfl) rfl rfl ?_
  refine Lp (V_sub rfl rfl rfl) rfl rfl ?_
  refine Lp (V_move rfl rfl) rfl rfl ?_
  refine Lp (V_lss rfl rfl rfl) rfl rfl ?_
  refine Lp (V_asg rfl rfl) rfl rfl ?_
  refine Lnil ?_
  refine thenN ?_
  refine AW.iff rfl decide_eq_true_iff h (fun h => ?_) (fun h => ?_)
  · refine AW.seq ?_
    refine AW.reg ?_
    refine Lp (V_asg rfl rfl) rfl rfl ?_
    refine Lp (V_asg rfl rfl) rfl rfl ?_
    refine Lp (V_asg rfl rfl) rfl rfl ?_
    refine Lnil ?_
    refine thenN ?_
    refine AW.ret ?_
    refine blockR ?_
    refine thenR ?_
    exact bR3 Tryz.results86 rfl rfl rfl ⟨_, _, _, rfl, h⟩
  refine AW.skip ?_
  refine blockN ?_
  refine thenN ?_
  refine AW.seq ?_
  refine AW.reg ?_
  refine Lp (V_move rfl rfl) rfl rfl ?_
  refine Lp (V_move rfl rfl) rfl rfl ?_
  refine Lp (V_add rfl rfl rfl) rfl rfl ?_
  refine Lp (V_move rfl rfl) rfl rfl ?_
  refine Lp (V_add rfl rfl rfl) rfl rfl ?_
  refine Lp (V_move rfl rfl) rfl rfl ?_
  refine Lp (V_add rfl rfl rfl) rfl rfl ?_
  obtain ⟨hc, h⟩ := h
  refine Lp (V_slL (lo := (some (IntKind.i64.wrap (a1 + 8)))) (hi := (some (IntKind.i64.wrap ((IntKind.i64.wrap (a1 + 8)) + x26_1)))) rfl Tryz.underlying22 ty5 rfl (optI_some rfl) (optI_some rfl) hc) rfl rfl ?_
  refine Ls rfl rfl (X_call rfl Tryz.func74 rfl rfl rfl (ACalls.mono h ?_))
  rintro v σ ⟨x46_2, rfl, h⟩
  refine Lp (V_asg rfl rfl) rfl rfl ?_
  refine Lnil ?_
  refine thenN ?_
  refine AW.seq ?_
  refine AW.seq ?_
  refine AW.drawn0 (fun i => ([0, 2, 0, 2, 2, 0, 0, 0, 0, 2, 0] : List Nat).getD i 2) [(1, 3), (1, 4), (1, 9), (3, 4), (3, 9)] [0, 2, 5, 6, 7, 8, 1, 3, 4, 9, 10] Tryz.mixed (by decide +kernel) ?_
  refine Dp rfl rfl rfl rfl (V_move rfl rfl) ?_
  refine Dp rfl rfl rfl rfl (V_move rfl rfl) ?_
  refine Dp rfl rfl rfl rfl (V_move rfl rfl) ?_
  refine Dp rfl rfl rfl rfl (V_move rfl rfl) ?_
  refine Dp rfl rfl rfl rfl (V_add rfl rfl rfl) ?_
  obtain ⟨hc, h⟩ := h
  refine Dp rfl rfl rfl rfl (V_slL (lo := (some (IntKind.i64.wrap (a1 + 4)))) (hi := none) rfl Tryz.underlying22 ty5 rfl (optI_some rfl) optI_none hc) ?_
  refine Dg rfl rfl rfl rfl (X_call rfl Tryz.func104 rfl rfl rfl (ACalls.mono h ?_))
  rintro v σ ⟨x48_3, rfl, h⟩
  refine Dg rfl rfl rfl rfl (X_bi (s := Builtin.append_ #[22, 22] 22 #[Sl.v x48_3, Sl.v x46_2]) rfl rfl (fun _ => rfl) (awp_mono _ h ?_))
  rintro v σ ⟨x50_4, rfl, h⟩
  refine Dg rfl rfl rfl rfl (X_call rfl Tryz.func77 rfl rfl rfl (ACalls.mono h ?_))
  rintro v σ ⟨x51_5, rfl, h⟩
  refine Dg rfl rfl rfl rfl (X_call rfl Tryz.func120 rfl rfl rfl (ACalls.mono h ?_))
  rintro v σ ⟨x56_6, rfl, h⟩
  refine Dp rfl rfl rfl rfl (V_neq rfl rfl rfl) ?_
  refine Dend ?_
  refine thenN ?_
  refine AW.iff rfl (bnot_iff decide_eq_true_iff) h (fun h => ?_) (fun h => ?_)
  · refine AW.seq ?_
    refine AW.reg ?_
    refine Lp (V_asg rfl rfl) rfl rfl ?_
    refine Lp (V_asg rfl rfl) rfl rfl ?_
    refine Lp (V_asg rfl rfl) rfl rfl ?_
    refine Lnil ?_
    refine thenN ?_
    refine AW.ret ?_
    refine thenR ?_
    exact bR3 Tryz.results86 rfl rfl rfl ⟨_, _, _, rfl, h⟩
  refine AW.skip ?_
  refine thenN ?_
  refine AW.seq ?_
  refine AW.reg ?_
  refine Lp (V_move rfl rfl) rfl rfl ?_
  refine Lp (V_move rfl rfl) rfl rfl ?_
  refine Lp (V_add rfl rfl rfl) rfl rfl ?_
  refine Lp (V_move rfl rfl) rfl rfl ?_
  refine Lp (V_add rfl rfl rfl) rfl rfl ?_
  refine Lp (V_asg rfl rfl) rfl rfl ?_
  refine Lp (V_asg rfl rfl) rfl rfl ?_
  refine Lp (V_asg rfl rfl) rfl rfl ?_
  refine Lnil ?_
  refine thenN ?_
  refine AW.ret ?_
  exact bR3 Tryz.results86 rfl rfl rfl ⟨_, _, _, rfl, h⟩

def f_wire_NewReader (B : World) (ro : AH) (a0 : Sl) (σ : AH) (Q : Option Addr → AH → Prop) : Prop :=
 c_bytes_Clone B ro a0 σ fun x4_1 σ =>
 nw ro σ (.cells #[Sl.v x4_1, .int .i64 0] 190) fun x6_2 σ =>
 Q (some ⟨x6_2, 0, none⟩) σ

set_option maxRecDepth 100000 in
set_option maxHeartbeats 4000000 in
theorem wire_NewReader_ok {B : World} {ro : AH} {a0 : Sl} {σ : AH} {Q : Option Addr → AH → Prop} (h : Sep ro σ → f_wire_NewReader B ro a0 σ Q) : c_wire_NewReader B ro a0 σ Q := by
  refine ACalls.of_sep fun hsep => ?_
  replace h := h hsep
  refine ACalls.of_body (args := [Sl.v a0]) Tryz.func87 rfl (by rw [Tryz.ntmps87]; simp) ?_
  rw [Tryz.ntmps87]
  unfold f_wire_NewReader at h
  refine AW.seq ?_
  refine AW.reg ?_
  refine Lp (V_asg rfl rfl) rfl rfl ?_
  refine Lnil ?_
  refine thenN ?_
  refine AW.seq ?_
  refine AW.reg ?_
  refine Lp (V_move rfl rfl) rfl rfl ?_
  refine Ls rfl rfl (X_call rfl Tryz.func74 rfl rfl rfl (ACalls.mono h ?_))
  rintro v σ ⟨x4_1, rfl, h⟩
  refine Lp (V_bld (vs := [(0, Sl.v x4_1)]) (cs := #[Sl.v x4_1, .int .i64 0]) rfl Tryz.underlying190 ty190 pl190 rfl rfl) rfl rfl ?_
  refine Ls rfl rfl (X_new (A_box rfl rfl) fun x6_2 g1 g2 => ?_)
  replace h := h x6_2 g1 g2
  refine Lp (V_asg rfl rfl) rfl rfl ?_
  refine Lnil ?_
  refine thenN ?_
  refine AW.ret ?_
  exact bR1 Tryz.results87 rfl ⟨_, rfl, h⟩

def f_wire_Reader_Num (B : World) (ro : AH) (a0 : Option Addr) (σ : AH) (Q : Int → AH → Prop) : Prop :=
 ∃ p7_1 : Addr, a0 = some p7_1 ∧
 ∃ (x9_2 : Int), acell ro σ (p7_1.add 1) = some (.int .i64 x9_2) ∧
 if ¬ (x9_2 = 0) then
  Q 0 σ
 else
 ∃ p13_3 : Addr, a0 = some p13_3 ∧
 ∃ (x15_4 : Sl), acell ro σ p13_3 = some (Sl.v x15_4) ∧
 c_wire_Number B ro x15_4 0 σ fun x16_5 x16_6 x16_7 σ =>
 ∃ p22_8 : Addr, a0 = some p22_8 ∧
 stN (p22_8.add 1) (fun σ =>
  ∃ p26_9 : Addr, a0 = some p26_9 ∧
  ∃ (x28_10 : Sl), acell ro σ p26_9 = some (Sl.v x28_10) ∧
  cutOk (some x16_6) none x28_10.len x28_10.cap ∧
  ∃ p31_11 : Addr, a0 = some p31_11 ∧
  stN p31_11 (fun σ =>
   Q x16_5 σ) [Sl.v (⟨cutA x28_10.a (Int.toNat x16_6) x28_10.cap 1, x28_10.len - Int.toNat x16_6, x28_10.cap - Int.toNat x16_6⟩ : Sl)] 0 σ) [.int .i64 x16_7] 0 σ

set_option maxRecDepth 100000 in
set_option maxHeartbeats 4000000 in
theorem wire_Reader_Num_ok {B : World} {ro : AH} {a0 : Option Addr} {σ : AH} {Q : Int → AH → Prop} (h : Sep ro σ → f_wire_Reader_Num B ro a0 σ Q) : c_wire_Reader_Num B ro a0 σ Q := by
  refine ACalls.of_sep fun hsep => ?_
  replace h := h hsep
  refine ACalls.of_body (args := [.pointer a0]) Tryz.func88 rfl (by rw [Tryz.ntmps88]; simp) ?_
  rw [Tryz.ntmps88]
  unfold f_wire_Reader_Num at h
  refine AW.seq ?_
  refine AW.reg ?_
  refine Lp (V_asg rfl rfl) rfl rfl ?_
  refine Lnil ?_
  refine thenN ?_
  refine AW.seq ?_
  refine AW.seq ?_
  refine AW.reg ?_
  refine Lp (V_move rfl rfl) rfl rfl ?_
  obtain ⟨p7_1, hc, h⟩ := h
  refine Lp (V_nil rfl (by rw [← hc]; rfl)) rfl rfl ?_
  refine Lp (V_fld rfl Tryz.underlying190 rfl ty27 (by decide) rfl) rfl rfl ?_
  obtain ⟨x9_2, hc, h⟩ := h
  refine Ls rfl rfl (X_ld rfl Tryz.underlying27 rfl rfl hc ?_)
  refine Lp (V_neq rfl rfl rfl) rfl rfl ?_
  refine Lnil ?_
  refine thenN ?_
  refine AW.iff rfl (bnot_iff decide_eq_true_iff) h (fun h => ?_) (fun h => ?_)
  · refine AW.seq ?_
    refine AW.reg ?_
    refine Lp (V_asg rfl rfl) rfl rfl ?_
    refine Lnil ?_
    refine thenN ?_
    refine AW.ret ?_
    refine thenR ?_
    exact bR1 Tryz.results88 rfl ⟨_, rfl, h⟩
  refine AW.skip ?_
  refine thenN ?_
  refine AW.seq ?_
  refine AW.reg ?_
  refine Lp (V_move rfl rfl) rfl rfl ?_
  obtain ⟨p13_3, hc, h⟩ := h
  refine Lp (V_nil rfl (by rw [← hc]; rfl)) rfl rfl ?_
  refine Lp (V_fld rfl Tryz.underlying190 rfl ty22 (by decide) rfl) rfl rfl ?_
  obtain ⟨x15_4, hc, h⟩ := h
  refine Ls rfl rfl (X_ld rfl Tryz.underlying22 rfl rfl hc ?_)
  refine Ls rfl rfl (X_call rfl Tryz.func97 rfl rfl rfl (ACalls.mono h ?_))
  rintro v σ ⟨x16_5, x16_6, x16_7, rfl, h⟩
  refine Lp (V_move rfl rfl) rfl rfl ?_
  refine Lp (V_ext rfl rfl rfl) rfl rfl ?_
  refine Lp (V_ext rfl rfl rfl) rfl rfl ?_
  refine Lp (V_ext rfl rfl rfl) rfl rfl ?_
  refine Lp (V_asg rfl rfl) rfl rfl ?_
  refine Lp (V_asg rfl rfl) rfl rfl ?_
  refine Lp (V_asg rfl rfl) rfl rfl ?_
  refine Lnil ?_
  refine thenN ?_
  refine AW.seq ?_
  refine AW.reg ?_
  refine Lp (V_move rfl rfl) rfl rfl ?_
  refine Lp (V_move rfl rfl) rfl rfl ?_
  obtain ⟨p22_8, hc, h⟩ := h
  refine Lp (V_nil rfl (by rw [← hc]; rfl)) rfl rfl ?_
  refine Lp (V_fld rfl Tryz.underlying190 rfl ty27 (by decide) rfl) rfl rfl ?_
  refine Ls rfl rfl (X_st rfl ty27 rfl rfl rfl rfl (stN_mono h fun σ h => ?_))
  refine Lnil ?_
  refine thenN ?_
  refine AW.seq ?_
  refine AW.reg ?_
  refine Lp (V_move rfl rfl) rfl rfl ?_
  refine Lp (V_move rfl rfl) rfl rfl ?_
  obtain ⟨p26_9, hc, h⟩ := h
  refine Lp (V_nil rfl (by rw [← hc]; rfl)) rfl rfl ?_
  refine Lp (V_fld rfl Tryz.underlying190 rfl ty22 (by decide) rfl) rfl rfl ?_
  obtain ⟨x28_10, hc, h⟩ := h
  refine Ls rfl rfl (X_ld rfl Tryz.underlying22 rfl rfl hc ?_)
  refine Lp (V_move rfl rfl) rfl rfl ?_
  obtain ⟨hc, h⟩ := h
  refine Lp (V_slL (lo := (some x16_6)) (hi := none) rfl Tryz.underlying22 ty5 rfl (optI_some rfl) optI_none hc) rfl rfl ?_
  obtain ⟨p31_11, hc, h⟩ := h
  refine Lp (V_nil rfl (by rw [← hc]; rfl)) rfl rfl ?_
  refine Lp (V_fld rfl Tryz.underlying190 rfl ty22 (by decide) rfl) rfl rfl ?_
  refine Ls rfl rfl (X_st rfl ty22 rfl rfl rfl rfl (stN_mono h fun σ h => ?_))
  refine Lnil ?_
  refine thenN ?_
  refine AW.seq ?_
  refine AW.reg ?_
  refine Lp (V_move rfl rfl) rfl rfl ?_
  refine Lp (V_asg rfl rfl) rfl rfl ?_
  refine Lnil ?_
  refine thenN ?_
  refine AW.ret ?_
  exact bR1 Tryz.results88 rfl ⟨_, rfl, h⟩

def f_wire_Reader_Err (B : World) (ro : AH) (a0 : Option Addr) (σ : AH) (Q : Int → AH → Prop) : Prop :=
 ∃ p4_1 : Addr, a0 = some p4_1 ∧
 ∃ (x6_2 : Int), acell ro σ (p4_1.add 1) = some (.int .i64 x6_2) ∧
 Q x6_2 σ

set_option maxRecDepth 100000 in
set_option maxHeartbeats 4000000 in
theorem wire_Reader_Err_ok {B : World} {ro : AH} {a0 : Option Addr} {σ : AH} {Q : Int → AH → Prop} (h : Sep ro σ → f_wire_Reader_Err B ro a0 σ Q) : c_wire_Reader_Err B ro a0 σ Q := by
  refine ACalls.of_sep fun hsep => ?_
  replace h := h hsep
  refine ACalls.of_body (args := [.pointer a0]) Tryz.func89 rfl (by rw [Tryz.ntmps89]; simp) ?_
  rw [Tryz.ntmps89]
  unfold f_wire_Reader_Err at h
  refine AW.seq ?_
  refine AW.reg ?_
  refine Lp (V_asg rfl rfl) rfl rfl ?_
  refine Lnil ?_
  refine thenN ?_
  refine AW.seq ?_
  refine AW.reg ?_
  refine Lp (V_move rfl rfl) rfl rfl ?_
  obtain ⟨p4_1, hc, h⟩ := h
  refine Lp (V_nil rfl (by rw [← hc]; rfl)) rfl rfl ?_
  refine Lp (V_fld rfl Tryz.underlying190 rfl ty27 (by decide) rfl) rfl rfl ?_
  obtain ⟨x6_2, hc, h⟩ := h
  refine Ls rfl rfl (X_ld rfl Tryz.underlying27 rfl rfl hc ?_)
  refine Lp (V_asg rfl rfl) rfl rfl ?_
  refine Lnil ?_
  refine thenN ?_
  refine AW.ret ?_
  exact bR1 Tryz.results89 rfl ⟨_, rfl, h⟩

def f_wire_Reader_Left (B : World) (ro : AH) (a0 : Option Addr) (σ : AH) (Q : Int → AH → Prop) : Prop :=
 ∃ p4_1 : Addr, a0 = some p4_1 ∧
 ∃ (x6_2 : Sl), acell ro σ p4_1 = some (Sl.v x6_2) ∧
 Q (x6_2.len : Int) σ

set_option maxRecDepth 100000 in
set_option maxHeartbeats 4000000 in
theorem wire_Reader_Left_ok {B : World} {ro : AH} {a0 : Option Addr} {σ : AH} {Q : Int → AH → Prop} (h : Sep ro σ → f_wire_Reader_Left B ro a0 σ Q) : c_wire_Reader_Left B ro a0 σ Q := by
  refine ACalls.of_sep fun hsep => ?_
  replace h := h hsep
  refine ACalls.of_body (args := [.pointer a0]) Tryz.func90 rfl (by rw [Tryz.ntmps90]; simp) ?_
  rw [Tryz.ntmps90]
  unfold f_wire_Reader_Left at h
  refine AW.seq ?_
  refine AW.reg ?_
  refine Lp (V_asg rfl rfl) rfl rfl ?_
  refine Lnil ?_
  refine thenN ?_
  refine AW.seq ?_
  refine AW.reg ?_
  refine Lp (V_move rfl rfl) rfl rfl ?_
  obtain ⟨p4_1, hc, h⟩ := h
  refine Lp (V_nil rfl (by rw [← hc]; rfl)) rfl rfl ?_
  refine Lp (V_fld rfl Tryz.underlying190 rfl ty22 (by decide) rfl) rfl rfl ?_
  obtain ⟨x6_2, hc, h⟩ := h
  refine Ls rfl rfl (X_ld rfl Tryz.underlying22 rfl rfl hc ?_)
  refine Lp (V_lenL rfl rfl Tryz.underlying22 rfl rfl) rfl rfl ?_
  refine Lp (V_asg rfl rfl) rfl rfl ?_
  refine Lnil ?_
  refine thenN ?_
  refine AW.ret ?_
  exact bR1 Tryz.results90 rfl ⟨_, rfl, h⟩

def j1_wire_Number (B : World) (ro : AH) (a0 : Sl) (a1 : Int) (Q : Int → Int → Int → AH → Prop) (σ : AH) : Prop :=
 if 9 ≤ (IntKind.i64.wrap ((a0.len : Int) - a1)) then
  Q 0 0 13 σ
 else
 Q 0 0 12 σ

def j7_wire_Number (B : World) (ro : AH) (a1 : Int) (x4_3 : Int) (x21_4 : Int) (x25_6 : Int) (Q : Int → Int → Int → AH → Prop) (Y2 : (Int × Int) → AH → Prop) (x48_8 : Bool) (σ : AH) : Prop :=
 if x48_8 = true then
  Q 0 0 13 σ
 else
 Q (bitOr .i64 x4_3 (IntKind.i64.wrap ((IntKind.i64.wrap (bitAnd .u8 x25_6 127)) * 2 ^ (min (Int.toNat (IntKind.i64.wrap (7 * x21_4))) 64)))) (IntKind.i64.wrap ((IntKind.i64.wrap (a1 + x21_4)) + 1)) 0 σ

def l2_wire_Number (B : World) (ro : AH) (a0 : Sl) (a1 : Int) (Q : Int → Int → Int → AH → Prop) : (Int × Int) → AH → ((Int × Int) → AH → Prop) → Prop := fun ⟨x4_3, x21_4⟩ σ Y2 =>
 if x21_4 < ((⟨cutA a0.a (Int.toNat a1) a0.cap 1, a0.len - Int.toNat a1, a0.cap - Int.toNat a1⟩ : Sl).len : Int) then
  ∃ p24_5 : Addr, (⟨cutA a0.a (Int.toNat a1) a0.cap 1, a0.len - Int.toNat a1, a0.cap - Int.toNat a1⟩ : Sl).a = some p24_5 ∧ (0 : Int) ≤ x21_4 ∧ x21_4 < ((⟨cutA a0.a (Int.toNat a1) a0.cap 1, a0.len - Int.toNat a1, a0.cap - Int.toNat a1⟩ : Sl).len : Int) ∧
  ∃ (x25_6 : Int), acell ro σ (p24_5.add (Int.toNat x21_4 * 1)) = some (.int .u8 x25_6) ∧
  if x21_4 = 9 then
   j1_wire_Number B ro a0 a1 Q σ
  else
  (0 : Int) ≤ (IntKind.i64.wrap (7 * x21_4)) ∧
  if x25_6 < 128 then
   if (x25_6 = 0) ∧ (0 < x21_4) then
    j7_wire_Number B ro a1 x4_3 x21_4 x25_6 Q Y2 true σ
   else
   c_wire_right B ro (bitOr .i64 x4_3 (IntKind.i64.wrap ((IntKind.i64.wrap (bitAnd .u8 x25_6 127)) * 2 ^ (min (Int.toNat (IntKind.i64.wrap (7 * x21_4))) 64)))) σ fun x46_9 σ =>
   j7_wire_Number B ro a1 x4_3 x21_4 x25_6 Q Y2 (!x46_9) σ
  else
  Y2 (bitOr .i64 x4_3 (IntKind.i64.wrap ((IntKind.i64.wrap (bitAnd .u8 x25_6 127)) * 2 ^ (min (Int.toNat (IntKind.i64.wrap (7 * x21_4))) 64))), IntKind.i64.wrap (x21_4 + 1)) σ
 else
 j1_wire_Number B ro a0 a1 Q σ

def f_wire_Number (B : World) (ro : AH) (a0 : Sl) (a1 : Int) (σ : AH) (Q : Int → Int → Int → AH → Prop) : Prop :=
 if (a1 < 0) ∨ ((a0.len : Int) < a1) then
  Q 0 0 11 σ
 else
 cutOk (some a1) none a0.len a0.cap ∧
 lfpD (l2_wire_Number B ro a0 a1 Q ) (0, 0) σ

set_option maxRecDepth 100000 in
set_option maxHeartbeats 4000000 in
theorem wire_Number_ok {B : World} {ro : AH} {a0 : Sl} {a1 : Int} {σ : AH} {Q : Int → Int → Int → AH → Prop} (h : Sep ro σ → f_wire_Number B ro a0 a1 σ Q) : c_wire_Number B ro a0 a1 σ Q := by
  refine ACalls.of_sep fun hsep => ?_
  replace h := h hsep
  refine ACalls.of_body (args := [Sl.v a0, .int .i64 a1]) Tryz.func97 rfl (by rw [Tryz.ntmps97]; simp) ?_
  rw [Tryz.ntmps97]
  unfold f_wire_Number at h
  refine AW.seq ?_
  refine AW.reg ?_
  refine Lp (V_asg rfl rfl) rfl rfl ?_
  refine Lp (V_asg rfl rfl) rfl rfl ?_
  refine Lp (V_asg rfl rfl) rfl rfl ?_
  refine Lnil ?_
  refine thenN ?_
  refine AW.seq ?_
  refine AW.seq ?_
  refine AW.reg ?_
  refine Lp (V_move rfl rfl) rfl rfl ?_
  refine Lp (V_lss rfl rfl rfl) rfl rfl ?_
  refine Lp (V_move rfl rfl) rfl rfl ?_
  refine Lsplit 5 (decide (a1 < 0)) [(0, Sl.v a0), (1, .int .i64 a1), (4, .int .i64 0), (16, .bool ((decide (a1 < 0)) || (decide ((a0.len : Int) < a1))))] ?_ ?_ ?_
  · intro e2 hk2
    refine Ln rfl rfl rfl rfl (.inl (by rw [e2]; rfl)) ?_
    refine Ln rfl rfl rfl rfl (.inl (by rw [e2]; rfl)) ?_
    refine Ln rfl rfl rfl rfl (.inl (by rw [e2]; rfl)) ?_
    refine Ln rfl rfl rfl rfl (.inl (by rw [e2]; rfl)) ?_
    refine Lp (V_pickT rfl (evb e2) rfl) rfl rfl ?_
    exact hk2 _ (FrLe.cons rfl (FrLe.cons rfl (FrLe.cons rfl (FrLe.cons (by rw [e2]; rfl) (FrLe.nil _)))))
  · intro e2 hk2
    refine Lypb (V_move rfl rfl) rfl rfl rfl rfl e2 ?_
    refine Lypb (V_move rfl rfl) rfl rfl rfl rfl e2 ?_
    refine Lypb (V_lenL rfl rfl Tryz.underlying22 rfl rfl) rfl rfl rfl rfl e2 ?_
    refine Lypb (V_gtr rfl rfl rfl) rfl rfl rfl rfl e2 ?_
    refine Lp (V_pickF rfl (evb e2) rfl) rfl rfl ?_
    exact hk2 _ (FrLe.cons rfl (FrLe.cons rfl (FrLe.cons rfl (FrLe.cons (by rw [e2]; rfl) (FrLe.nil _)))))
  intro fr hl
  refine Lfr hl ?_
  refine Lnil ?_
  refine thenN ?_
  refine AW.iff rfl (bor_iff decide_eq_true_iff decide_eq_true_iff) h (fun h => ?_) (fun h => ?_)
  · refine AW.seq ?_
    refine AW.reg ?_
    refine Lp (V_asg rfl rfl) rfl rfl ?_
    refine Lp (V_asg rfl rfl) rfl rfl ?_
    refine Lp (V_asg rfl rfl) rfl rfl ?_
    refine Lnil ?_
    refine thenN ?_
    refine AW.ret ?_
    refine thenR ?_
    exact bR3 Tryz.results97 rfl rfl rfl ⟨_, _, _, rfl, h⟩
  refine AW.skip ?_
  refine thenN ?_
  refine AW.seqJ (fun fr σ => FrLe [(0, Sl.v a0), (1, .int .i64 a1)] fr ∧ j1_wire_Number B ro a0 a1 Q σ) ?_ ?_
  · rintro fr σ ⟨hl, h⟩
    refine AW.weaken ?_ hl (HLe.refl _)
    unfold j1_wire_Number at h
    refine AW.seq ?_
    refine AW.seq ?_
    refine AW.reg ?_
    refine Lp (V_move rfl rfl) rfl rfl ?_
    refine Lp (V_lenL rfl rfl Tryz.underlying22 rfl rfl) rfl rfl ?_
    refine Lp (V_move rfl rfl) rfl rfl ?_
    refine Lp (V_sub rfl rfl rfl) rfl rfl ?_
    refine Lp (V_geq rfl rfl rfl) rfl rfl ?_
    refine Lnil ?_
    refine thenN ?_
    refine AW.iff rfl decide_eq_true_iff h (fun h => ?_) (fun h => ?_)
    · refine AW.seq ?_
      refine AW.reg ?_
      refine Lp (V_asg rfl rfl) rfl rfl ?_
      refine Lp (V_asg rfl rfl) rfl rfl ?_
      refine Lp (V_asg rfl rfl) rfl rfl ?_
      refine Lnil ?_
      refine thenN ?_
      refine AW.ret ?_
      refine thenR ?_
      exact bR3 Tryz.results97 rfl rfl rfl ⟨_, _, _, rfl, h⟩
    refine AW.skip ?_
    refine thenN ?_
    refine AW.seq ?_
    refine AW.reg ?_
    refine Lp (V_asg rfl rfl) rfl rfl ?_
    refine Lp (V_asg rfl rfl) rfl rfl ?_
    refine Lp (V_asg rfl rfl) rfl rfl ?_
    refine Lnil ?_
    refine thenN ?_
    refine AW.ret ?_
    exact bR3 Tryz.results97 rfl rfl rfl ⟨_, _, _, rfl, h⟩
  refine AW.seq ?_
  refine AW.reg ?_
  refine Lp (V_move rfl rfl) rfl rfl ?_
  refine Lp (V_move rfl rfl) rfl rfl ?_
  obtain ⟨hc, h⟩ := h
  refine Lp (V_slL (lo := (some a1)) (hi := none) rfl Tryz.underlying22 ty5 rfl (optI_some rfl) optI_none hc) rfl rfl ?_
  refine Lp (V_lenL rfl rfl Tryz.underlying22 rfl rfl) rfl rfl ?_
  refine Lp (V_move rfl rfl) rfl rfl ?_
  refine Lnil ?_
  refine thenN ?_
  refine AW.block ?_
  refine ARound.loop (fr' := [(0, Sl.v a0), (1, .int .i64 a1), (19, Sl.v (⟨cutA a0.a (Int.toNat a1) a0.cap 1, a0.len - Int.toNat a1, a0.cap - Int.toNat a1⟩ : Sl)), (20, .int .i64 ((⟨cutA a0.a (Int.toNat a1) a0.cap 1, a0.len - Int.toNat a1, a0.cap - Int.toNat a1⟩ : Sl).len : Int)), (4, .int .i64 0), (21, .int .i64 0)]) ?_ (FrLe.cons rfl (FrLe.cons rfl (FrLe.cons rfl (FrLe.cons rfl (FrLe.cons rfl (FrLe.cons rfl (FrLe.nil _)))))))
  refine h (fun ⟨x4_3, x21_4⟩ σ => ARound _ _ _ _ _ _ [(0, Sl.v a0), (1, .int .i64 a1), (19, Sl.v (⟨cutA a0.a (Int.toNat a1) a0.cap 1, a0.len - Int.toNat a1, a0.cap - Int.toNat a1⟩ : Sl)), (20, .int .i64 ((⟨cutA a0.a (Int.toNat a1) a0.cap 1, a0.len - Int.toNat a1, a0.cap - Int.toNat a1⟩ : Sl).len : Int)), (4, .int .i64 x4_3), (21, .int .i64 x21_4)] σ) ?_
  rintro ⟨x4_3, x21_4⟩ σ Y2 hY2 h
  show AW _ _ _ _ _ _ _ _
  unfold l2_wire_Number at h
  dsimp only at h
  refine AW.seq ?_
  refine AW.reg ?_
  refine Lp (V_lss rfl rfl rfl) rfl rfl ?_
  refine Lnil ?_
  refine thenN ?_
  refine AW.seq ?_
  refine AW.iff rfl decide_eq_true_iff h (fun h => ?_) (fun h => ?_)
  rotate_left
  · refine AW.exit ?_
    refine thenE ?_
    refine thenE ?_
    refine blockE ?_
    refine thenN ?_
    exact ⟨(FrLe.cons rfl (FrLe.cons rfl (FrLe.nil _))), h⟩
  refine AW.skip ?_
  refine thenN ?_
  refine AW.seq ?_
  refine AW.block ?_
  refine AW.seq ?_
  refine AW.reg ?_
  refine Lp (V_move rfl rfl) rfl rfl ?_
  obtain ⟨p24_5, ha, h0, h1, h⟩ := h
  refine Lp (V_ixA rfl Tryz.underlying22 ty5 (ixL rfl ha) rfl h0 h1) rfl rfl ?_
  obtain ⟨x25_6, hc, h⟩ := h
  refine Ls rfl rfl (X_ld rfl Tryz.underlying5 rfl rfl hc ?_)
  refine Lp (V_asg rfl rfl) rfl rfl ?_
  refine Lp (V_asg rfl rfl) rfl rfl ?_
  refine Lnil ?_
  refine thenN ?_
  refine AW.seq ?_
  refine AW.seq ?_
  refine AW.reg ?_
  refine Lp (V_move rfl rfl) rfl rfl ?_
  refine Lp (V_eql rfl rfl rfl) rfl rfl ?_
  refine Lnil ?_
  refine thenN ?_
  refine AW.iff rfl decide_eq_true_iff h (fun h => ?_) (fun h => ?_)
  · refine AW.exit ?_
    refine thenE ?_
    refine blockO rfl ?_
    refine thenE ?_
    refine thenE ?_
    refine blockE ?_
    refine thenN ?_
    exact ⟨(FrLe.cons rfl (FrLe.cons rfl (FrLe.nil _))), h⟩
  refine AW.skip ?_
  refine thenN ?_
  refine AW.seq ?_
  refine AW.reg ?_
  refine Lp (V_move rfl rfl) rfl rfl ?_
  refine Lp (V_move rfl rfl) rfl rfl ?_
  refine Lp (V_and rfl rfl rfl) rfl rfl ?_
  refine Lp (V_cvt rfl rfl Tryz.underlying5 Tryz.underlying3) rfl rfl ?_
  refine Lp (V_move rfl rfl) rfl rfl ?_
  refine Lp (V_mul rfl rfl rfl) rfl rfl ?_
  obtain ⟨hc, h⟩ := h
  refine Lp (V_shl rfl rfl rfl hc) rfl rfl ?_
  refine Lp (V_or rfl rfl rfl) rfl rfl ?_
  refine Lp (V_asg rfl rfl) rfl rfl ?_
  refine Lnil ?_
  refine thenN ?_
  refine AW.seq ?_
  refine AW.reg ?_
  refine Lp (V_move rfl rfl) rfl rfl ?_
  refine Lp (V_lss rfl rfl rfl) rfl rfl ?_
  refine Lnil ?_
  refine thenN ?_
  refine AW.iff rfl decide_eq_true_iff h (fun h => ?_) (fun h => ?_)
  rotate_left
  · refine AW.skip ?_
    refine blockN ?_
    refine thenN ?_
    refine AW.reg ?_
    refine Lp (V_add rfl rfl rfl) rfl rfl ?_
    refine Lp (V_move rfl rfl) rfl rfl ?_
    refine Lnil ?_
    refine thenN ?_
    refine ARound.head (fr' := [(0, Sl.v a0), (1, .int .i64 a1), (19, Sl.v (⟨cutA a0.a (Int.toNat a1) a0.cap 1, a0.len - Int.toNat a1, a0.cap - Int.toNat a1⟩ : Sl)), (20, .int .i64 ((⟨cutA a0.a (Int.toNat a1) a0.cap 1, a0.len - Int.toNat a1, a0.cap - Int.toNat a1⟩ : Sl).len : Int)), (4, .int .i64 (bitOr .i64 x4_3 (IntKind.i64.wrap ((IntKind.i64.wrap (bitAnd .u8 x25_6 127)) * 2 ^ (min (Int.toNat (IntKind.i64.wrap (7 * x21_4))) 64))))), (21, .int .i64 (IntKind.i64.wrap (x21_4 + 1)))]) ?_ (FrLe.cons rfl (FrLe.cons rfl (FrLe.cons rfl (FrLe.cons rfl (FrLe.cons rfl (FrLe.cons rfl (FrLe.nil _)))))))
    exact hY2 _ _ h
  refine AW.seq ?_
  refine AW.seq ?_
  refine AW.reg ?_
  refine Lp (V_move rfl rfl) rfl rfl ?_
  refine Lp (V_eql rfl rfl rfl) rfl rfl ?_
  refine Lp (V_move rfl rfl) rfl rfl ?_
  refine Lsplit 3 (decide (x25_6 = 0)) [(1, .int .i64 a1), (4, .int .i64 (bitOr .i64 x4_3 (IntKind.i64.wrap ((IntKind.i64.wrap (bitAnd .u8 x25_6 127)) * 2 ^ (min (Int.toNat (IntKind.i64.wrap (7 * x21_4))) 64))))), (7, .int .i64 x21_4), (43, .bool ((decide (x25_6 = 0)) && (decide (0 < x21_4))))] ?_ ?_ ?_
  · intro e2 hk2
    refine Lypb (V_move rfl rfl) rfl rfl rfl rfl e2 ?_
    refine Lypb (V_gtr rfl rfl rfl) rfl rfl rfl rfl e2 ?_
    refine Lp (V_pickT rfl (evb e2) rfl) rfl rfl ?_
    exact hk2 _ (FrLe.cons rfl (FrLe.cons rfl (FrLe.cons rfl (FrLe.cons (by rw [e2]; rfl) (FrLe.nil _)))))
  · intro e2 hk2
    refine Ln rfl rfl rfl rfl (.inl (by rw [e2]; rfl)) ?_
    refine Ln rfl rfl rfl rfl (.inl (by rw [e2]; rfl)) ?_
    refine Lp (V_pickF rfl (evb e2) rfl) rfl rfl ?_
    exact hk2 _ (FrLe.cons rfl (FrLe.cons rfl (FrLe.cons rfl (FrLe.cons (by rw [e2]; rfl) (FrLe.nil _)))))
  intro fr hl
  refine Lfr hl ?_
  refine Lp (V_move rfl rfl) rfl rfl ?_
  refine LsplitJ 4 ((decide (x25_6 = 0)) && (decide (0 < x21_4))) (band_iff decide_eq_true_iff decide_eq_true_iff) h (fun fr σ => ∃ (x48_8 : Bool), FrLe [(1, .int .i64 a1), (4, .int .i64 (bitOr .i64 x4_3 (IntKind.i64.wrap ((IntKind.i64.wrap (bitAnd .u8 x25_6 127)) * 2 ^ (min (Int.toNat (IntKind.i64.wrap (7 * x21_4))) 64))))), (7, .int .i64 x21_4), (48, .bool x48_8)] fr ∧ j7_wire_Number B ro a1 x4_3 x21_4 x25_6 Q Y2 x48_8 σ) ?_ ?_ ?_
  · intro h e6 hk6
    refine Ln rfl rfl rfl rfl (.inl (by rw [e6]; rfl)) ?_
    refine Ln rfl rfl rfl rfl (.inl (by rw [e6]; rfl)) ?_
    refine Ln rfl rfl rfl rfl (.inl (by rw [e6]; rfl)) ?_
    refine Lp (V_pickT rfl (evb e6) rfl) rfl rfl ?_
    exact hk6 _ _ ⟨_, (FrLe.cons rfl (FrLe.cons rfl (FrLe.cons rfl (FrLe.cons rfl (FrLe.nil _))))), h⟩
  · intro h e6 hk6
    refine Lypb (V_move rfl rfl) rfl rfl rfl rfl e6 ?_
    refine Lyb rfl rfl rfl rfl e6 (X_call rfl Tryz.func102 rfl rfl rfl (ACalls.mono h ?_))
    rintro v σ ⟨x46_9, rfl, h⟩
    refine Lypb (V_not rfl rfl) rfl rfl rfl rfl e6 ?_
    refine Lp (V_pickF rfl (evb e6) rfl) rfl rfl ?_
    exact hk6 _ _ ⟨_, (FrLe.cons rfl (FrLe.cons rfl (FrLe.cons rfl (FrLe.cons rfl (FrLe.nil _))))), h⟩
  rintro fr σ ⟨x48_8, hl, h⟩
  unfold j7_wire_Number at h
  refine Lfr hl ?_
  refine Lnil ?_
  refine thenN ?_
  refine AW.iff rfl Iff.rfl h (fun h => ?_) (fun h => ?_)
  · refine AW.seq ?_
    refine AW.reg ?_
    refine Lp (V_asg rfl rfl) rfl rfl ?_
    refine Lp (V_asg rfl rfl) rfl rfl ?_
    refine Lp (V_asg rfl rfl) rfl rfl ?_
    refine Lnil ?_
    refine thenN ?_
    refine AW.ret ?_
    refine thenR ?_
    refine blockR ?_
    refine thenR ?_
    refine thenR ?_
    refine blockR ?_
    refine thenR ?_
    exact bR3 Tryz.results97 rfl rfl rfl ⟨_, _, _, rfl, h⟩
  refine AW.skip ?_
  refine thenN ?_
  refine AW.seq ?_
  refine AW.reg ?_
  refine Lp (V_move rfl rfl) rfl rfl ?_
  refine Lp (V_move rfl rfl) rfl rfl ?_
  refine Lp (V_move rfl rfl) rfl rfl ?_
  refine Lp (V_add rfl rfl rfl) rfl rfl ?_
  refine Lp (V_add rfl rfl rfl) rfl rfl ?_
  refine Lp (V_asg rfl rfl) rfl rfl ?_
  refine Lp (V_asg rfl rfl) rfl rfl ?_
  refine Lp (V_asg rfl rfl) rfl rfl ?_
  refine Lnil ?_
  refine thenN ?_
  refine AW.ret ?_
  refine blockR ?_
  refine thenR ?_
  refine thenR ?_
  refine blockR ?_
  refine thenR ?_
  exact bR3 Tryz.results97 rfl rfl rfl ⟨_, _, _, rfl, h⟩

def f_wire_right (B : World) (ro : AH) (a0 : Int) (σ : AH) (Q : Bool → AH → Prop) : Prop :=
 Q ((decide (0 ≤ a0)) && (decide (a0 ≤ 4611686018427387903))) σ

set_option maxRecDepth 100000 in
set_option maxHeartbeats 4000000 in
theorem wire_right_ok {B : World} {ro : AH} {a0 : Int} {σ : AH} {Q : Bool → AH → Prop} (h : Sep ro σ → f_wire_right B ro a0 σ Q) : c_wire_right B ro a0 σ Q := by
  refine ACalls.of_sep fun hsep => ?_
  replace h := h hsep
  refine ACalls.of_body (args := [.int .i64 a0]) Tryz.func102 rfl (by rw [Tryz.ntmps102]; simp) ?_
  rw [Tryz.ntmps102]
  unfold f_wire_right at h
  refine AW.seq ?_
  refine AW.reg ?_
  refine Lp (V_asg rfl rfl) rfl rfl ?_
  refine Lnil ?_
  refine thenN ?_
  refine AW.seq ?_
  refine AW.reg ?_
  refine Lp (V_move rfl rfl) rfl rfl ?_
  refine Lp (V_geq rfl rfl rfl) rfl rfl ?_
  refine Lp (V_move rfl rfl) rfl rfl ?_
  refine Lsplit 3 (decide (0 ≤ a0)) [(8, .bool ((decide (0 ≤ a0)) && (decide (a0 ≤ 4611686018427387903))))] ?_ ?_ ?_
  · intro e2 hk2
    refine Lypb (V_move rfl rfl) rfl rfl rfl rfl e2 ?_
    refine Lypb (V_leq rfl rfl rfl) rfl rfl rfl rfl e2 ?_
    refine Lp (V_pickT rfl (evb e2) rfl) rfl rfl ?_
    exact hk2 _ (FrLe.cons (by rw [e2]; rfl) (FrLe.nil _))
  · intro e2 hk2
    refine Ln rfl rfl rfl rfl (.inl (by rw [e2]; rfl)) ?_
    refine Ln rfl rfl rfl rfl (.inl (by rw [e2]; rfl)) ?_
    refine Lp (V_pickF rfl (evb e2) rfl) rfl rfl ?_
    exact hk2 _ (FrLe.cons (by rw [e2]; rfl) (FrLe.nil _))
  intro fr hl
  refine Lfr hl ?_
  refine Lp (V_asg rfl rfl) rfl rfl ?_
  refine Lnil ?_
  refine thenN ?_
  refine AW.ret ?_
  exact bR1 Tryz.results102 rfl ⟨_, rfl, h⟩

def j1_wire_put (B : World) (ro : AH) (Q : Sl → AH → Prop) (x0_2 : Sl) (x1_3 : Int) (σ : AH) : Prop :=
 nw ro σ (.cells #[.int .u8 (IntKind.u8.wrap x1_3)] 5) fun x18_4 σ =>
 awp Tryz.prog ro (Builtin.append_ #[22, 22] 22 #[Sl.v x0_2, Sl.v (⟨some ⟨x18_4, 0, none⟩, 1, 1⟩ : Sl)]) (fun v σ => ∃ (x19_5 : Sl), v = Sl.v x19_5 ∧
  Q x19_5 σ) σ

def l6_wire_put (B : World) (ro : AH) (Q : Sl → AH → Prop) : (Sl × Int) → AH → ((Sl × Int) → AH → Prop) → Prop := fun ⟨x0_7, x1_8⟩ σ Y6 =>
 if 128 ≤ x1_8 then
  nw ro σ (.cells #[.int .u8 (bitOr .u8 (IntKind.u8.wrap x1_8) 128)] 5) fun x13_9 σ =>
  awp Tryz.prog ro (Builtin.append_ #[22, 22] 22 #[Sl.v x0_7, Sl.v (⟨some ⟨x13_9, 0, none⟩, 1, 1⟩ : Sl)]) (fun v σ => ∃ (x14_10 : Sl), v = Sl.v x14_10 ∧
   Y6 (x14_10, Int.fdiv x1_8 (2 ^ (min (Int.toNat 7) 64))) σ) σ
 else
 j1_wire_put B ro Q x0_7 x1_8 σ

def f_wire_put (B : World) (ro : AH) (a0 : Sl) (a1 : Int) (σ : AH) (Q : Sl → AH → Prop) : Prop :=
 lfpD (l6_wire_put B ro Q ) (a0, a1) σ

set_option maxRecDepth 100000 in
set_option maxHeartbeats 4000000 in
theorem wire_put_ok {B : World} {ro : AH} {a0 : Sl} {a1 : Int} {σ : AH} {Q : Sl → AH → Prop} (h : Sep ro σ → f_wire_put B ro a0 a1 σ Q) : c_wire_put B ro a0 a1 σ Q := by
  refine ACalls.of_sep fun hsep => ?_
  replace h := h hsep
  refine ACalls.of_body (args := [Sl.v a0, .int .i64 a1]) Tryz.func103 rfl (by rw [Tryz.ntmps103]; simp) ?_
  rw [Tryz.ntmps103]
  unfold f_wire_put at h
  refine AW.seq ?_
  refine AW.reg ?_
  refine Lp (V_asg rfl rfl) rfl rfl ?_
  refine Lnil ?_
  refine thenN ?_
  refine AW.seqJ (fun fr σ => ∃ (x0_2 : Sl) (x1_3 : Int), FrLe [(0, Sl.v x0_2), (1, .int .i64 x1_3)] fr ∧ j1_wire_put B ro Q x0_2 x1_3 σ) ?_ ?_
  · rintro fr σ ⟨x0_2, x1_3, hl, h⟩
    refine AW.weaken ?_ hl (HLe.refl _)
    unfold j1_wire_put at h
    refine AW.seq ?_
    refine AW.reg ?_
    refine Lp (V_move rfl rfl) rfl rfl ?_
    refine Lp (V_move rfl rfl) rfl rfl ?_
    refine Lp (V_cvt rfl rfl Tryz.underlying3 Tryz.underlying5) rfl rfl ?_
    refine Ls rfl rfl (X_new (A_bsl (vs := [(0, .int .u8 (IntKind.u8.wrap x1_3))]) (cs := #[.int .u8 (IntKind.u8.wrap x1_3)]) rfl Tryz.underlying22 ty5 (by decide) rfl rfl) fun x18_4 g1 g2 => ?_)
    replace h := h x18_4 g1 g2
    refine Ls rfl rfl (X_bi (s := Builtin.append_ #[22, 22] 22 #[Sl.v x0_2, Sl.v (⟨some ⟨x18_4, 0, none⟩, 1, 1⟩ : Sl)]) rfl rfl (fun _ => rfl) (awp_mono _ h ?_))
    rintro v σ ⟨x19_5, rfl, h⟩
    refine Lp (V_asg rfl rfl) rfl rfl ?_
    refine Lnil ?_
    refine thenN ?_
    refine AW.ret ?_
    exact bR1 Tryz.results103 rfl ⟨_, rfl, h⟩
  refine AW.block ?_
  refine ARound.loop (fr' := [(0, Sl.v a0), (1, .int .i64 a1)]) ?_ (FrLe.cons rfl (FrLe.cons rfl (FrLe.nil _)))
  refine h (fun ⟨x0_7, x1_8⟩ σ => ARound _ _ _ _ _ _ [(0, Sl.v x0_7), (1, .int .i64 x1_8)] σ) ?_
  rintro ⟨x0_7, x1_8⟩ σ Y6 hY6 h
  show AW _ _ _ _ _ _ _ _
  unfold l6_wire_put at h
  dsimp only at h
  refine AW.seq ?_
  refine AW.seq ?_
  refine AW.reg ?_
  refine Lp (V_move rfl rfl) rfl rfl ?_
  refine Lp (V_geq rfl rfl rfl) rfl rfl ?_
  refine Lnil ?_
  refine thenN ?_
  refine AW.iff rfl decide_eq_true_iff h (fun h => ?_) (fun h => ?_)
  rotate_left
  · refine AW.exit ?_
    refine thenE ?_
    refine thenE ?_
    refine blockE ?_
    refine thenN ?_
    exact ⟨_, _, (FrLe.cons rfl (FrLe.cons rfl (FrLe.nil _))), h⟩
  refine AW.skip ?_
  refine thenN ?_
  refine AW.seq ?_
  refine AW.block ?_
  refine AW.reg ?_
  refine Lp (V_move rfl rfl) rfl rfl ?_
  refine Lp (V_move rfl rfl) rfl rfl ?_
  refine Lp (V_cvt rfl rfl Tryz.underlying3 Tryz.underlying5) rfl rfl ?_
  refine Lp (V_or rfl rfl rfl) rfl rfl ?_
  refine Ls rfl rfl (X_new (A_bsl (vs := [(0, .int .u8 (bitOr .u8 (IntKind.u8.wrap x1_8) 128))]) (cs := #[.int .u8 (bitOr .u8 (IntKind.u8.wrap x1_8) 128)]) rfl Tryz.underlying22 ty5 (by decide) rfl rfl) fun x13_9 g1 g2 => ?_)
  replace h := h x13_9 g1 g2
  refine Ls rfl rfl (X_bi (s := Builtin.append_ #[22, 22] 22 #[Sl.v x0_7, Sl.v (⟨some ⟨x13_9, 0, none⟩, 1, 1⟩ : Sl)]) rfl rfl (fun _ => rfl) (awp_mono _ h ?_))
  rintro v σ ⟨x14_10, rfl, h⟩
  refine Lp (V_asg rfl rfl) rfl rfl ?_
  refine Lnil ?_
  refine blockN ?_
  refine thenN ?_
  refine AW.reg ?_
  refine Lp (V_move rfl rfl) rfl rfl ?_
  refine Lp (V_shr rfl rfl rfl (by decide)) rfl rfl ?_
  refine Lp (V_asg rfl rfl) rfl rfl ?_
  refine Lnil ?_
  refine thenN ?_
  refine ARound.head (fr' := [(0, Sl.v x14_10), (1, .int .i64 (Int.fdiv x1_8 (2 ^ (min (Int.toNat 7) 64))))]) ?_ (FrLe.cons rfl (FrLe.cons rfl (FrLe.nil _)))
  exact hY6 _ _ h

def f_wire_four (B : World) (ro : AH) (a0 : Int) (σ : AH) (Q : Sl → AH → Prop) : Prop :=
 nw ro σ (.cells #[.int .u8 (IntKind.u8.wrap a0), .int .u8 (IntKind.u8.wrap (Int.fdiv a0 (2 ^ (min (Int.toNat 8) 64)))), .int .u8 (IntKind.u8.wrap (Int.fdiv a0 (2 ^ (min (Int.toNat 16) 64)))), .int .u8 (IntKind.u8.wrap (Int.fdiv a0 (2 ^ (min (Int.toNat 24) 64))))] 5) fun x14_1 σ =>
 Q (⟨some ⟨x14_1, 0, none⟩, 4, 4⟩ : Sl) σ

set_option maxRecDepth 100000 in
set_option maxHeartbeats 4000000 in
theorem wire_four_ok {B : World} {ro : AH} {a0 : Int} {σ : AH} {Q : Sl → AH → Prop} (h : Sep ro σ → f_wire_four B ro a0 σ Q) : c_wire_four B ro a0 σ Q := by
  refine ACalls.of_sep fun hsep => ?_
  replace h := h hsep
  refine ACalls.of_body (args := [.int .i64 a0]) Tryz.func104 rfl (by rw [Tryz.ntmps104]; simp) ?_
  rw [Tryz.ntmps104]
  unfold f_wire_four at h
  refine AW.seq ?_
  refine AW.reg ?_
  refine Lp (V_asg rfl rfl) rfl rfl ?_
  refine Lnil ?_
  refine thenN ?_
  refine AW.seq ?_
  refine AW.reg ?_
  refine Lp (V_move rfl rfl) rfl rfl ?_
  refine Lp (V_cvt rfl rfl Tryz.underlying3 Tryz.underlying5) rfl rfl ?_
  refine Lp (V_move rfl rfl) rfl rfl ?_
  refine Lp (V_shr rfl rfl rfl (by decide)) rfl rfl ?_
  refine Lp (V_cvt rfl rfl Tryz.underlying3 Tryz.underlying5) rfl rfl ?_
  refine Lp (V_move rfl rfl) rfl rfl ?_
  refine Lp (V_shr rfl rfl rfl (by decide)) rfl rfl ?_
  refine Lp (V_cvt rfl rfl Tryz.underlying3 Tryz.underlying5) rfl rfl ?_
  refine Lp (V_move rfl rfl) rfl rfl ?_
  refine Lp (V_shr rfl rfl rfl (by decide)) rfl rfl ?_
  refine Lp (V_cvt rfl rfl Tryz.underlying3 Tryz.underlying5) rfl rfl ?_
  refine Ls rfl rfl (X_new (A_bsl (vs := [(0, .int .u8 (IntKind.u8.wrap a0)), (1, .int .u8 (IntKind.u8.wrap (Int.fdiv a0 (2 ^ (min (Int.toNat 8) 64))))), (2, .int .u8 (IntKind.u8.wrap (Int.fdiv a0 (2 ^ (min (Int.toNat 16) 64))))), (3, .int .u8 (IntKind.u8.wrap (Int.fdiv a0 (2 ^ (min (Int.toNat 24) 64)))))]) (cs := #[.int .u8 (IntKind.u8.wrap a0), .int .u8 (IntKind.u8.wrap (Int.fdiv a0 (2 ^ (min (Int.toNat 8) 64)))), .int .u8 (IntKind.u8.wrap (Int.fdiv a0 (2 ^ (min (Int.toNat 16) 64)))), .int .u8 (IntKind.u8.wrap (Int.fdiv a0 (2 ^ (min (Int.toNat 24) 64))))]) rfl Tryz.underlying22 ty5 (by decide) rfl rfl) fun x14_1 g1 g2 => ?_)
  replace h := h x14_1 g1 g2
  refine Lp (V_asg rfl rfl) rfl rfl ?_
  refine Lnil ?_
  refine thenN ?_
  refine AW.ret ?_
  exact bR1 Tryz.results104 rfl ⟨_, rfl, h⟩

def f_wire_value (B : World) (ro : AH) (a0 : Sl) (σ : AH) (Q : Int → AH → Prop) : Prop :=
 ∃ p4_1 : Addr, a0.a = some p4_1 ∧ (0 : Int) ≤ 0 ∧ 0 < (a0.len : Int) ∧
 ∃ p8_2 : Addr, a0.a = some p8_2 ∧ (0 : Int) ≤ 1 ∧ 1 < (a0.len : Int) ∧
 ∃ p14_3 : Addr, a0.a = some p14_3 ∧ (0 : Int) ≤ 2 ∧ 2 < (a0.len : Int) ∧
 ∃ p20_4 : Addr, a0.a = some p20_4 ∧ (0 : Int) ≤ 3 ∧ 3 < (a0.len : Int) ∧
 ∃ (x5_5 : Int), acell ro σ (p4_1.add (Int.toNat 0 * 1)) = some (.int .u8 x5_5) ∧
 ∃ (x9_6 : Int), acell ro σ (p8_2.add (Int.toNat 1 * 1)) = some (.int .u8 x9_6) ∧
 ∃ (x15_7 : Int), acell ro σ (p14_3.add (Int.toNat 2 * 1)) = some (.int .u8 x15_7) ∧
 ∃ (x21_8 : Int), acell ro σ (p20_4.add (Int.toNat 3 * 1)) = some (.int .u8 x21_8) ∧
 Q (bitOr .i64 (bitOr .i64 (bitOr .i64 (IntKind.i64.wrap x5_5) (IntKind.i64.wrap ((IntKind.i64.wrap x9_6) * 2 ^ (min (Int.toNat 8) 64)))) (IntKind.i64.wrap ((IntKind.i64.wrap x15_7) * 2 ^ (min (Int.toNat 16) 64)))) (IntKind.i64.wrap ((IntKind.i64.wrap x21_8) * 2 ^ (min (Int.toNat 24) 64)))) σ

set_option maxRecDepth 100000 in
set_option maxHeartbeats 4000000 in
theorem wire_value_ok {B : World} {ro : AH} {a0 : Sl} {σ : AH} {Q : Int → AH → Prop} (h : Sep ro σ → f_wire_value B ro a0 σ Q) : c_wire_value B ro a0 σ Q := by
  refine ACalls.of_sep fun hsep => ?_
  replace h := h hsep
  refine ACalls.of_body (args := [Sl.v a0]) Tryz.func120 rfl (by rw [Tryz.ntmps120]; simp) ?_
  rw [Tryz.ntmps120]
  unfold f_wire_value at h
  refine AW.seq ?_
  refine AW.reg ?_
  refine Lp (V_asg rfl rfl) rfl rfl ?_
  refine Lnil ?_
  refine thenN ?_
  refine AW.seq ?_
  refine AW.drawn0 (fun i => ([0, 0, 3, 0, 0, 0, 3, 0, 0, 0, 0, 0, 3, 0, 0, 0, 0, 0, 3, 0, 0, 0, 0] : List Nat).getD i 2) [] [0, 1, 4, 5, 10, 11, 16, 17, 2, 3, 6, 7, 8, 9, 12, 13, 14, 15, 18, 19, 20, 21, 22] Tryz.mixed (by decide +kernel) ?_
  refine Dp rfl rfl rfl rfl (V_move rfl rfl) ?_
  obtain ⟨p4_1, ha, h0, h1, h⟩ := h
  refine Dp rfl rfl rfl rfl (V_ixA rfl Tryz.underlying22 ty5 (ixL rfl ha) rfl h0 h1) ?_
  refine Dp rfl rfl rfl rfl (V_move rfl rfl) ?_
  obtain ⟨p8_2, ha, h0, h1, h⟩ := h
  refine Dp rfl rfl rfl rfl (V_ixA rfl Tryz.underlying22 ty5 (ixL rfl ha) rfl h0 h1) ?_
  refine Dp rfl rfl rfl rfl (V_move rfl rfl) ?_
  obtain ⟨p14_3, ha, h0, h1, h⟩ := h
  refine Dp rfl rfl rfl rfl (V_ixA rfl Tryz.underlying22 ty5 (ixL rfl ha) rfl h0 h1) ?_
  refine Dp rfl rfl rfl rfl (V_move rfl rfl) ?_
  obtain ⟨p20_4, ha, h0, h1, h⟩ := h
  refine Dp rfl rfl rfl rfl (V_ixA rfl Tryz.underlying22 ty5 (ixL rfl ha) rfl h0 h1) ?_
  obtain ⟨x5_5, hc, h⟩ := h
  refine Dr rfl rfl rfl rfl (R_ld rfl Tryz.underlying5 rfl rfl hc) ?_
  refine Dp rfl rfl rfl rfl (V_cvt rfl rfl Tryz.underlying5 Tryz.underlying3) ?_
  obtain ⟨x9_6, hc, h⟩ := h
  refine Dr rfl rfl rfl rfl (R_ld rfl Tryz.underlying5 rfl rfl hc) ?_
  refine Dp rfl rfl rfl rfl (V_cvt rfl rfl Tryz.underlying5 Tryz.underlying3) ?_
  refine Dp rfl rfl rfl rfl (V_shl rfl rfl rfl (by decide)) ?_
  refine Dp rfl rfl rfl rfl (V_or rfl rfl rfl) ?_
  obtain ⟨x15_7, hc, h⟩ := h
  refine Dr rfl rfl rfl rfl (R_ld rfl Tryz.underlying5 rfl rfl hc) ?_
  refine Dp rfl rfl rfl rfl (V_cvt rfl rfl Tryz.underlying5 Tryz.underlying3) ?_
  refine Dp rfl rfl rfl rfl (V_shl rfl rfl rfl (by decide)) ?_
  refine Dp rfl rfl rfl rfl (V_or rfl rfl rfl) ?_
  obtain ⟨x21_8, hc, h⟩ := h
  refine Dr rfl rfl rfl rfl (R_ld rfl Tryz.underlying5 rfl rfl hc) ?_
  refine Dp rfl rfl rfl rfl (V_cvt rfl rfl Tryz.underlying5 Tryz.underlying3) ?_
  refine Dp rfl rfl rfl rfl (V_shl rfl rfl rfl (by decide)) ?_
  refine Dp rfl rfl rfl rfl (V_or rfl rfl rfl) ?_
  refine Dp rfl rfl rfl rfl (V_asg rfl rfl) ?_
  refine Dend ?_
  refine thenN ?_
  refine AW.ret ?_
  exact bR1 Tryz.results120 rfl ⟨_, rfl, h⟩

end Go.Proofs.YtfobjidchipdaaaGreatDoor.G

/- The wire, the walk: a writer. -/
namespace Go.Proofs.YtfobjidchipdaaaGreatDoor.Wi
open Go Go.Proofs.YtfobjidchipdaaaGreatDoor.SL Go.Proofs.YtfobjidchipdaaaGreatDoor.G Go.Proofs.YtfobjidchipdaaaGreatDoor.Zt
set_option linter.unusedSimpArgs false
set_option linter.unusedVariables false
variable {B : World} {ro σ σ' : AH} {tag tag' : Nat → Nat}

theorem u8or (n : Nat) : bitOr .u8 (IntKind.u8.wrap (n : Int)) 128 = ((n % 128 + 128 : Nat) : Int) := by
  have h : ∀ c : Fin 256, bitOr .u8 ((c.val : Nat) : Int) 128 = ((c.val % 128 + 128 : Nat) : Int) := by decide +kernel
  have e : IntKind.u8.wrap (n : Int) = ((n % 256 : Nat) : Int) := by
    simp [IntKind.wrap, IntKind.bits, IntKind.signed]
  rw [e, h ⟨n % 256, Nat.mod_lt _ (by decide)⟩]
  simp only
  omega
theorem u8wrap {n : Nat} (h : n < 256) : IntKind.u8.wrap (n : Int) = (n : Int) := by
  simp [IntKind.wrap, IntKind.bits, IntKind.signed]; omega
theorem vU_of {n : Nat} (h : n < 256) : vU (UInt8.ofNat n) = .int .u8 (n : Int) := by
  unfold vU; rw [u8_of n h]
theorem right_ok {n : Int} {Q : Bool → AH → Prop} (hQ : Q (rightN n) σ) : c_wire_right B ro n σ Q := by
  refine wire_right_ok fun _ => ?_
  unfold f_wire_right
  exact hQ
end Go.Proofs.YtfobjidchipdaaaGreatDoor.Wi

/- The wire, the walk: a reader. -/
namespace Go.Proofs.YtfobjidchipdaaaGreatDoor.Wi
open Go Go.Proofs.YtfobjidchipdaaaGreatDoor.SL Go.Proofs.YtfobjidchipdaaaGreatDoor.G Go.Proofs.YtfobjidchipdaaaGreatDoor.Zt
set_option linter.unusedSimpArgs false
set_option linter.unusedVariables false
variable {B : World} {ro σ σ' : AH} {tag tag' : Nat → Nat}

theorem u8and (c : UInt8) : bitAnd .u8 (c.toNat : Int) 127 = ((c.toNat % 128 : Nat) : Int) := by
  have h : ∀ c : Fin 256, bitAnd .u8 ((c.val : Nat) : Int) 127 = ((c.val % 128 : Nat) : Int) := by decide +kernel
  exact h ⟨c.toNat, u8_lt c⟩
theorem orshift {n i : Nat} (c : UInt8) (hi : i ≤ 8) (hn : n < 128 ^ i) :
    bitOr .i64 (n : Int) (IntKind.i64.wrap ((IntKind.i64.wrap (bitAnd .u8 (c.toNat : Int) 127)) * 2 ^ (min (Int.toNat (IntKind.i64.wrap (7 * (i : Int)))) 64))) = ((n + 128 ^ i * (c.toNat % 128) : Nat) : Int) := by
  have hm : c.toNat % 128 < 128 := Nat.mod_lt _ (by decide)
  rw [u8and]
  generalize c.toNat % 128 = m at hm
  rw [w64_eq (n := (m : Int)) (by omega) (by omega), w64_eq (n := 7 * (i : Int)) (by omega) (by omega)]
  have hp : (2 : Int) ^ (min (Int.toNat (7 * (i : Int))) 64) = ((128 ^ i : Nat) : Int) := by
    have : i = 0 ∨ i = 1 ∨ i = 2 ∨ i = 3 ∨ i = 4 ∨ i = 5 ∨ i = 6 ∨ i = 7 ∨ i = 8 := by omega
    rcases this with rfl | rfl | rfl | rfl | rfl | rfl | rfl | rfl | rfl <;> decide
  rw [hp]
  have h8 : 128 ^ i ≤ 128 ^ 8 := Nat.pow_le_pow_right (by decide) hi
  have h9 : m * 128 ^ i ≤ 127 * 128 ^ 8 := Nat.mul_le_mul (by omega) h8
  have h9' : m * 128 ^ i ≤ 9151314442816847872 := by simpa using h9
  have hn' : n < 72057594037927936 := Nat.lt_of_lt_of_le hn (by simpa using h8)
  rw [← Int.natCast_mul, w64_eq (by omega) (by omega)]
  unfold bitOr
  have e : (BitVec.ofInt IntKind.i64.bits (n : Int) ||| BitVec.ofInt IntKind.i64.bits ((m * 128 ^ i : Nat) : Int)).toNat = n + 128 ^ i * m := by
    rw [BitVec.toNat_or, BitVec.ofInt_natCast, BitVec.ofInt_natCast, BitVec.toNat_ofNat, BitVec.toNat_ofNat]
    rw [show IntKind.i64.bits = 64 from rfl, Nat.mod_eq_of_lt (by omega), Nat.mod_eq_of_lt (by omega)]
    have e2 : 128 ^ i = 2 ^ (7 * i) := by rw [Nat.pow_mul]
    rw [Nat.or_comm, Nat.mul_comm m, e2, ← Nat.two_pow_add_eq_or_of_lt (by rw [← e2]; exact hn)]
    omega
  rw [e]
  have : 128 ^ i * m = m * 128 ^ i := Nat.mul_comm _ _
  rw [w64_eq (by omega) (by omega)]

set_option maxRecDepth 100000 in
theorem number_ok {s : Sl} {l : Str} {Q : Int → Int → Int → AH → Prop} (h : SL.Read ro σ s (l.map vU)) (hl : l.length ≤ 140737488355328) (hQ : Q (num l).1 (num l).2.1 (num l).2.2 σ) : c_wire_Number B ro s 0 σ Q := by
  refine wire_Number_ok fun _ => ?_
  unfold f_wire_Number
  have hln : s.len = l.length := by rw [h.1, List.length_map]
  rw [if_neg (by omega)]
  refine ⟨⟨trivial, by decide, by simp only [cutHi]; omega⟩, ?_⟩
  have e0 : (⟨cutA s.a (Int.toNat 0) s.cap 1, s.len - Int.toNat 0, s.cap - Int.toNat 0⟩ : Sl) = s := by rw [show Int.toNat 0 = 0 from rfl, cutA_zero]; rfl
  suffices ∀ (m i : Nat), i + m = 9 → i ≤ l.length → (∀ j c, j < i → l[j]? = some c → 128 ≤ c.toNat) → lfpD (l2_wire_Number B ro s 0 Q) (((val (l.take i) : Nat) : Int), (i : Int)) σ from
    this 9 0 rfl (Nat.zero_le _) (fun j c h => by omega)
  intro m
  induction m with
  | zero =>
    intro i hi hil hall
    have hi9 : i = 9 := by omega
    subst hi9
    refine lfpD.intro ?_
    unfold l2_wire_Number
    simp only [e0]
    have hnum : num l = (0, 0, if l.length < 9 then 12 else 13) := by unfold num; rw [scan_none_of 9 l hall]
    have hj : j1_wire_Number B ro s 0 Q σ := by
      unfold j1_wire_Number
      rw [Int.sub_zero, w64_eq (by omega) (by omega), if_pos (by omega)]
      rw [hnum, if_neg (by omega)] at hQ
      exact hQ
    by_cases hlt : 9 < l.length
    · rw [if_pos (by omega)]
      have ha : s.a ≠ none := fun hn => by have := h.2.1 hn; simp at this; subst this; simp at hlt
      obtain ⟨p, hs⟩ : ∃ p, s.a = some p := by
        cases hs : s.a with
        | none => exact absurd hs ha
        | some p => exact ⟨p, rfl⟩
      · skip
        refine ⟨p, by rw [show Int.toNat 0 = 0 from rfl, cutA_zero, hs], by decide, by omega, (l[9].toNat : Int), ?_, ?_⟩
        · have := h.2.2 p hs 9 (vU l[9]) (by rw [List.getElem?_map, List.getElem?_eq_getElem hlt]; rfl)
          exact this
        · rw [if_pos (by decide)]; exact hj
    · rw [if_neg (by omega)]; exact hj
  | succ m ih =>
    intro i hi hil hall
    refine lfpD.intro ?_
    unfold l2_wire_Number
    simp only [e0]
    by_cases hlt : i < l.length
    · rw [if_pos (by omega)]
      have ha : s.a ≠ none := fun hn => by have := h.2.1 hn; simp at this; subst this; simp at hlt
      obtain ⟨p, hs⟩ : ∃ p, s.a = some p := by
        cases hs : s.a with
        | none => exact absurd hs ha
        | some p => exact ⟨p, rfl⟩
      · skip
        refine ⟨p, by rw [show Int.toNat 0 = 0 from rfl, cutA_zero, hs], by omega, by omega, (l[i].toNat : Int), ?_, ?_⟩
        · have := h.2.2 p hs i (vU l[i]) (by rw [List.getElem?_map, List.getElem?_eq_getElem hlt]; rfl)
          rw [Int.toNat_natCast, Nat.mul_one]; exact this
        · rw [if_neg (by omega)]
          refine ⟨by rw [w64_eq (by omega) (by omega)]; omega, ?_⟩
          rw [orshift l[i] (by omega) (val_take l i)]
          have hlen : (l.take i).length = i := by simp; omega
          have hval : val (l.take i) + 128 ^ i * (l[i].toNat % 128) = val (l.take (i + 1)) := by
            have e : l.take (i + 1) = l.take i ++ [l[i]] := by rw [List.take_add_one, List.getElem?_eq_getElem hlt]; rfl
            rw [e, val_snoc, hlen]
          rw [hval]
          by_cases hc : l[i].toNat < 128
          · rw [if_pos (by omega)]
            have hscan : scan 9 l = some i := scan_of 9 l i l[i] (by omega) hall (List.getElem?_eq_getElem hlt) hc
            have hz : (l[i]? = some 0) ↔ l[i].toNat = 0 := by
              rw [List.getElem?_eq_getElem hlt]
              refine ⟨fun h => by rw [Option.some.inj h]; rfl, fun h => congrArg some (u8_eq h)⟩
            unfold num at hQ
            rw [hscan] at hQ
            simp only at hQ
            by_cases hz0 : ((l[i].toNat : Int) = 0) ∧ ((0 : Int) < (i : Int))
            · rw [if_pos hz0]
              unfold j7_wire_Number
              rw [if_pos rfl]
              rw [if_pos (.inl ⟨by omega, hz.2 (by omega)⟩)] at hQ
              exact hQ
            · rw [if_neg hz0]
              refine right_ok ?_
              unfold j7_wire_Number
              by_cases hr : 4611686018427387904 ≤ val (l.take (i + 1))
              · rw [if_pos (by simp [rightN]; omega)]
                rw [if_pos (.inr hr)] at hQ
                exact hQ
              · rw [if_neg (by simp [rightN]; omega)]
                rw [if_neg (fun h => by
                  rcases h with ⟨h1, h2⟩ | h
                  · exact hz0 ⟨by rw [hz.1 h2]; rfl, by omega⟩
                  · exact hr h)] at hQ
                rw [Int.zero_add, orshift l[i] (by omega) (val_take l i), hval, w64_eq (n := (i : Int)) (by omega) (by omega), w64_eq (by omega) (by omega)]
                exact hQ
          · rw [if_neg (by omega)]
            rw [Pa.inc i (by omega)]
            refine ih (i + 1) (by omega) (by omega) fun j c hj hjc => ?_
            rcases Nat.lt_or_ge j i with h1 | h1
            · exact hall j c h1 hjc
            · have : j = i := by omega
              subst this
              rw [List.getElem?_eq_getElem hlt] at hjc
              cases hjc; omega
    · rw [if_neg (by omega)]
      have hnone : scan 9 l = none := scan_none_of 9 l fun j c _ hjc => hall j c (by
        rcases Nat.lt_or_ge j l.length with h | h
        · omega
        · rw [List.getElem?_eq_none h] at hjc; cases hjc) hjc
      unfold num at hQ
      rw [hnone] at hQ
      simp only at hQ
      unfold j1_wire_Number
      rw [Int.sub_zero, w64_eq (by omega) (by omega), if_neg (by omega)]
      rw [if_pos (by omega)] at hQ
      exact hQ
end Go.Proofs.YtfobjidchipdaaaGreatDoor.Wi

/- Sums, four bytes, frames, numbers: the walk of the wire's functions that snapshots and logs use. -/
namespace Go.Proofs.YtfobjidchipdaaaGreatDoor.Wi
open Go Go.Proofs.YtfobjidchipdaaaGreatDoor.SL Go.Proofs.YtfobjidchipdaaaGreatDoor.G Go.Proofs.YtfobjidchipdaaaGreatDoor.Pa Go.Proofs.YtfobjidchipdaaaGreatDoor.Zt
set_option linter.unusedSimpArgs false
set_option linter.unusedVariables false
set_option maxRecDepth 100000
variable {B : World} {ro σ σ' : AH} {tag tag' : Nat → Nat}
theorem w32_eq {n : Int} (h0 : 0 ≤ n) (h1 : n < 4294967296) : IntKind.u32.wrap n = n := by
  unfold IntKind.wrap
  show (if false = true then _ else _) = n
  rw [if_neg (by decide)]
  show n % 4294967296 = n
  omega
theorem xor32 {a b : Nat} (ha : a < 4294967296) (hb : b < 4294967296) : bitXor .u32 (a : Int) (b : Int) = ((a ^^^ b : Nat) : Int) := by
  unfold bitXor
  have e : (BitVec.ofInt IntKind.u32.bits (a : Int) ^^^ BitVec.ofInt IntKind.u32.bits (b : Int)).toNat = a ^^^ b := by
    rw [BitVec.toNat_xor, BitVec.ofInt_natCast, BitVec.ofInt_natCast, BitVec.toNat_ofNat, BitVec.toNat_ofNat]
    rw [show IntKind.u32.bits = 32 from rfl, Nat.mod_eq_of_lt (by omega), Nat.mod_eq_of_lt (by omega)]
  rw [e]
  have := Nat.xor_lt_two_pow (n := 32) (x := a) (y := b) (by omega) (by omega)
  rw [w32_eq (by omega) (by omega)]
theorem and1 {a : Nat} (ha : a < 4294967296) : bitAnd .u32 (a : Int) 1 = ((a % 2 : Nat) : Int) := by
  unfold bitAnd
  have e : (BitVec.ofInt IntKind.u32.bits (a : Int) &&& BitVec.ofInt IntKind.u32.bits 1).toNat = a % 2 := by
    rw [show (1 : Int) = ((1 : Nat) : Int) from rfl, BitVec.toNat_and, BitVec.ofInt_natCast, BitVec.ofInt_natCast, BitVec.toNat_ofNat, BitVec.toNat_ofNat]
    rw [show IntKind.u32.bits = 32 from rfl, Nat.mod_eq_of_lt (by omega), Nat.mod_eq_of_lt (by omega), Nat.and_one_is_mod]
  rw [e]
  rw [w32_eq (by omega) (by omega)]
theorem half (a : Nat) : Int.fdiv (a : Int) (2 ^ (min (Int.toNat 1) 32)) = ((a / 2 : Nat) : Int) := by
  rw [show (2 : Int) ^ (min (Int.toNat 1) 32) = 2 from by decide, Int.fdiv_eq_ediv_of_nonneg _ (by decide)]; omega
def bits : Nat → Nat → Nat
  | 0, s => s
  | m + 1, s => bits m (crcBit s)
theorem bits8 (s : Nat) (c : UInt8) : bits 8 (s ^^^ c.toNat) = crcByte s c := rfl
theorem not32 {a : Nat} (ha : a < 4294967296) : bitXor .u32 (if IntKind.u32.signed then -1 else IntKind.u32.max) (a : Int) = ((4294967295 - a : Nat) : Int) := by
  rw [if_neg (by decide), show IntKind.u32.max = ((4294967295 : Nat) : Int) from by decide, xor32 (by decide) ha]
  congr 1
  apply Nat.eq_of_testBit_eq
  intro i
  rw [Nat.testBit_xor]
  have h2 := Nat.testBit_two_pow_sub_succ (n := 32) (x := a) (by omega) i
  rw [show (2 : Nat) ^ 32 - (a + 1) = 4294967295 - a from by omega] at h2
  rw [h2, show (4294967295 : Nat) = 2 ^ 32 - 1 from rfl, Nat.testBit_two_pow_sub_one]
  by_cases hi : i < 32
  · simp [hi]
  · simp [hi]
    exact Nat.testBit_lt_two_pow (Nat.lt_of_lt_of_le (show a < 2 ^ 32 by omega) (Nat.pow_le_pow_right (by decide) (by omega)))
theorem sum_ok {s : Sl} {l : Str} {Q : Int → AH → Prop} (h : SL.Read ro σ s (l.map vU)) (hl : l.length < 4611686018427387904) (hQ : Q (crc l : Nat) σ) : c_wire_Sum B ro s σ Q := by
  refine wire_Sum_ok fun _ => ?_
  unfold f_wire_Sum
  have hln : s.len = l.length := by rw [h.1, List.length_map]
  have hrl : ∀ j, (l.take j).foldl crcByte 4294967295 < 4294967296 := fun j => crcR_lt (l.take j)
  suffices ∀ (m j : Nat), j + m = l.length → lfpD (l3_wire_Sum B ro s Q) ((((l.take j).foldl crcByte 4294967295 : Nat) : Int), (j : Int)) σ from this _ 0 (Nat.zero_add _)
  intro m
  induction m with
  | zero =>
    intro j hj
    refine lfpD.intro ?_
    unfold l3_wire_Sum
    simp only
    rw [if_neg (by omega)]
    unfold j1_wire_Sum
    have := hrl j
    rw [not32 (hrl j), w64_eq (by omega) (by omega)]
    rw [List.take_of_length_le (by omega)]
    exact hQ
  | succ m ih =>
    intro j hj
    have hjl : j < l.length := by omega
    have hjr := hrl j
    refine lfpD.intro ?_
    unfold l3_wire_Sum
    simp only
    rw [if_pos (by omega)]
    obtain ⟨p, hp⟩ : ∃ p, s.a = some p := by
      cases ha : s.a with
      | none => have := h.2.1 ha; simp at this; subst this; simp at hjl
      | some p => exact ⟨p, rfl⟩
    refine ⟨p, hp, by omega, by omega, (l[j].toNat : Int), ?_, ?_⟩
    · rw [Int.toNat_natCast, Nat.mul_one]
      refine h.2.2 p hp j _ ?_
      rw [List.getElem?_map, List.getElem?_eq_getElem hjl]; rfl
    · have hc := u8_lt l[j]
      have et : (l.take (j + 1)).foldl crcByte 4294967295 = crcByte ((l.take j).foldl crcByte 4294967295) l[j] := by
        rw [List.take_add_one, List.getElem?_eq_getElem hjl, List.foldl_append]; rfl
      have ihj := ih (j + 1) (by omega)
      rw [et] at ihj
      generalize (l.take j).foldl crcByte 4294967295 = a at *
      generalize l[j] = c at *
      rw [w32_eq (by omega) (by omega), xor32 hjr (by omega)]
      rw [← bits8] at ihj
      have hx : a ^^^ c.toNat < 4294967296 := Nat.xor_lt_two_pow (n := 32) (by omega) (by omega)
      generalize a ^^^ c.toNat = b at *
      clear et hjr hrl
      suffices ∀ (k i b : Nat), i + k = 8 → b < 4294967296 → lfpD (l3_wire_Sum B ro s Q) (((bits k b : Nat) : Int), ((j + 1 : Nat) : Int)) σ → lfpD (l10_wire_Sum B ro s (j : Int) Q (lfpD (l3_wire_Sum B ro s Q))) ((b : Int), (i : Int)) σ from this 8 0 b rfl hx ihj
      intro k
      induction k with
      | zero =>
        intro i b hi hb hK
        refine lfpD.intro ?_
        unfold l10_wire_Sum
        simp only
        rw [if_neg (by omega)]
        unfold j6_wire_Sum
        rw [Pa.inc j (by omega)]
        exact hK
      | succ k ihk =>
        intro i b hi hb hK
        refine lfpD.intro ?_
        unfold l10_wire_Sum
        simp only
        rw [if_pos (by omega), and1 hb, half]
        have hK2 : lfpD (l3_wire_Sum B ro s Q) (((bits k (crcBit b) : Nat) : Int), ((j + 1 : Nat) : Int)) σ := hK
        have hlt := crcBit_lt hb
        by_cases c1 : b % 2 = 1
        · rw [if_pos (by omega)]
          unfold j13_wire_Sum
          rw [Pa.inc i (by omega), show (3988292384 : Int) = ((3988292384 : Nat) : Int) from rfl, xor32 (by omega) (by decide)]
          have e : crcBit b = (b / 2) ^^^ 3988292384 := by unfold crcBit; rw [if_pos c1]
          rw [e] at hK2 hlt
          exact ihk (i + 1) _ (by omega) hlt hK2
        · rw [if_neg (by omega)]
          unfold j13_wire_Sum
          rw [Pa.inc i (by omega)]
          have e : crcBit b = b / 2 := by unfold crcBit; rw [if_neg c1]
          rw [e] at hK2 hlt
          exact ihk (i + 1) _ (by omega) hlt hK2
theorem bor {n m k : Nat} (hn : n < 2 ^ k) (hm : 2 ^ k * m + n < 9223372036854775808) : bitOr .i64 (n : Int) ((m * 2 ^ k : Nat) : Int) = ((n + 2 ^ k * m : Nat) : Int) := by
  unfold bitOr
  have h1 : m * 2 ^ k = 2 ^ k * m := Nat.mul_comm _ _
  have e : (BitVec.ofInt IntKind.i64.bits (n : Int) ||| BitVec.ofInt IntKind.i64.bits ((m * 2 ^ k : Nat) : Int)).toNat = n + 2 ^ k * m := by
    rw [BitVec.toNat_or, BitVec.ofInt_natCast, BitVec.ofInt_natCast, BitVec.toNat_ofNat, BitVec.toNat_ofNat]
    rw [show IntKind.i64.bits = 64 from rfl, Nat.mod_eq_of_lt (by omega), Nat.mod_eq_of_lt (by omega)]
    rw [Nat.or_comm, h1, ← Nat.two_pow_add_eq_or_of_lt hn]
    omega
  rw [e, w64_eq (by omega) (by omega)]
theorem value_ok {s : Sl} {l : Str} {Q : Int → AH → Prop} (h : SL.Read ro σ s (l.map vU)) (h4 : 4 ≤ l.length) (hQ : Q (value l : Nat) σ) : c_wire_value B ro s σ Q := by
  refine wire_value_ok fun _ => ?_
  unfold f_wire_value
  have hln : s.len = l.length := by rw [h.1, List.length_map]
  obtain ⟨a, b, c, d, r, rfl⟩ : ∃ a b c d r, l = a :: b :: c :: d :: r := by
    match l, h4 with
    | a :: b :: c :: d :: r, _ => exact ⟨a, b, c, d, r, rfl⟩
  obtain ⟨p, hp⟩ : ∃ p, s.a = some p := by
    cases ha : s.a with
    | none => have := h.2.1 ha; cases this
    | some p => exact ⟨p, rfl⟩
  have hg := h.2.2 p hp
  refine ⟨p, hp, by omega, by omega, p, hp, by omega, by omega, p, hp, by omega, by omega, p, hp, by omega, by omega, (a.toNat : Int), hg 0 _ rfl, (b.toNat : Int), hg 1 _ rfl, (c.toNat : Int), hg 2 _ rfl, (d.toNat : Int), hg 3 _ rfl, ?_⟩
  have ha := u8_lt a
  have hb := u8_lt b
  have hc := u8_lt c
  have hd := u8_lt d
  change Q ((a.toNat + 256 * b.toNat + 65536 * c.toNat + 16777216 * d.toNat : Nat) : Int) σ at hQ
  generalize a.toNat = a at *
  generalize b.toNat = b at *
  generalize c.toNat = c at *
  generalize d.toNat = d at *
  rw [show (2 : Int) ^ (min (Int.toNat 8) 64) = ((2 ^ 8 : Nat) : Int) from by decide, show (2 : Int) ^ (min (Int.toNat 16) 64) = ((2 ^ 16 : Nat) : Int) from by decide, show (2 : Int) ^ (min (Int.toNat 24) 64) = ((2 ^ 24 : Nat) : Int) from by decide]
  rw [w64_eq (n := (a : Int)) (by omega) (by omega), w64_eq (n := (b : Int)) (by omega) (by omega), w64_eq (n := (c : Int)) (by omega) (by omega), w64_eq (n := (d : Int)) (by omega) (by omega)]
  rw [← Int.natCast_mul, ← Int.natCast_mul, ← Int.natCast_mul]
  rw [w64_eq (n := ((b * 2 ^ 8 : Nat) : Int)) (by omega) (by omega), w64_eq (n := ((c * 2 ^ 16 : Nat) : Int)) (by omega) (by omega), w64_eq (n := ((d * 2 ^ 24 : Nat) : Int)) (by omega) (by omega)]
  rw [bor (k := 8) (by omega) (by omega), bor (k := 16) (by omega) (by omega), bor (k := 24) (by omega) (by omega)]
  have e : a + 2 ^ 8 * b + 2 ^ 16 * c + 2 ^ 24 * d = a + 256 * b + 65536 * c + 16777216 * d := by omega
  rw [e]; exact hQ
theorem u8mod (n : Nat) : IntKind.u8.wrap (n : Int) = ((n % 256 : Nat) : Int) := by
  unfold IntKind.wrap
  rw [if_neg (by simp [IntKind.signed])]
  show (n : Int) % 256 = _
  omega
theorem four_ok {n q : Nat} {Q : Sl → AH → Prop} (hn : n < 4294967296) (hQ : ∀ s tag' σ', (∀ R, Step R ro tag σ tag' σ') → s.len = s.cap → Row tag' σ' q 5 s ((four n).map vU) → Q s σ') : c_wire_four B ro (n : Int) σ Q := by
  refine wire_four_ok fun hs => ?_
  unfold f_wire_four
  refine nw_cells (tag := tag) q hs fun x tag1 σ1 st1 r1 => ?_
  refine hQ _ tag1 σ1 st1 rfl ?_
  have fd : ∀ k : Nat, k ≤ 64 → Int.fdiv (n : Int) (2 ^ k) = ((n / 2 ^ k : Nat) : Int) := fun k hk => by
    have : ((2 : Int) ^ k) = ((2 ^ k : Nat) : Int) := by simp
    rw [this, Int.fdiv_eq_ediv_of_nonneg _ (Int.natCast_nonneg _)]; rfl
  rw [show min (Int.toNat 8) 64 = 8 from by decide, show min (Int.toNat 16) 64 = 16 from by decide, show min (Int.toNat 24) 64 = 24 from by decide, fd 8 (by decide), fd 16 (by decide), fd 24 (by decide), u8mod, u8mod, u8mod, u8mod] at r1
  have e : (four n).map vU = [.int .u8 ((n % 256 : Nat) : Int), .int .u8 ((n / 2 ^ 8 % 256 : Nat) : Int), .int .u8 ((n / 2 ^ 16 % 256 : Nat) : Int), .int .u8 ((n / 2 ^ 24 % 256 : Nat) : Int)] := by
    unfold four
    simp only [List.map_cons, List.map_nil, vU]
    rw [u8_of _ (by omega), u8_of _ (by omega), u8_of _ (by omega), u8_of _ (by omega)]
  rw [e]
  exact r1
end Go.Proofs.YtfobjidchipdaaaGreatDoor.Wi

/- The wire, the walk: a reader's calls. -/
namespace Go.Proofs.YtfobjidchipdaaaGreatDoor.Wi
open Go Go.Proofs.YtfobjidchipdaaaGreatDoor.SL Go.Proofs.YtfobjidchipdaaaGreatDoor.G Go.Proofs.YtfobjidchipdaaaGreatDoor.Zt
set_option linter.unusedSimpArgs false
set_option linter.unusedVariables false
variable {B : World} {ro σ σ' : AH} {tag tag' : Nat → Nat}

/-- the end of a row of bytes -/
def Tail (tag : Nat → Nat) (σ : AH) (q : Nat) (s : Sl) (l : Str) : Prop :=
  (s = ⟨none, 0, 0⟩ ∧ l = []) ∨ ∃ (g : Nat) (cs : Array Value) (k : Nat), s.a = some ⟨g, k, none⟩ ∧ tag g = q ∧ σ g = some (.cells cs 5) ∧ s.len = l.length ∧ s.len ≤ s.cap ∧ ∀ (i : Nat) (c : UInt8), l[i]? = some c → cs[k + i]? = some (vU c)
theorem Tail.len {q : Nat} {s : Sl} {l : Str} (h : Tail tag σ q s l) : s.len = l.length := by
  rcases h with ⟨rfl, rfl⟩ | ⟨_, _, _, _, _, _, h, _⟩
  · rfl
  · exact h
theorem Tail.cap {q : Nat} {s : Sl} {l : Str} (h : Tail tag σ q s l) : s.len ≤ s.cap := by
  rcases h with ⟨rfl, rfl⟩ | ⟨_, _, _, _, _, _, _, h, _⟩
  · exact Nat.le_refl _
  · exact h
theorem Tail.keep {R : List Nat} {q : Nat} {s : Sl} {l : Str} (h : Tail tag σ q s l) (k : Step R ro tag σ tag' σ') (hr : q ∉ R) : Tail tag' σ' q s l := by
  rcases h with h | ⟨g, cs, o, ha, ht, hb, hx⟩
  · exact .inl h
  · obtain ⟨t, e⟩ := k.keep g _ hb (by rw [ht]; exact hr)
    exact .inr ⟨g, cs, o, ha, t.trans ht, e, hx⟩
theorem Tail.of_row {q : Nat} {s : Sl} {l : Str} (h : Row tag σ q 5 s (l.map vU)) : Tail tag σ q s l := by
  rcases h with ⟨rfl, h⟩ | ⟨b, cs, ha, ht, hb, hln, hc, hle, hg⟩
  · exact .inl ⟨rfl, by simpa using h⟩
  · refine .inr ⟨b, cs, 0, ha, ht, hb, by rw [hln, List.length_map], hle, fun i c hi => ?_⟩
    have hil : i < l.length := by
      rcases Nat.lt_or_ge i l.length with h | h
      · exact h
      · rw [List.getElem?_eq_none h] at hi; cases hi
    rw [Nat.zero_add, hg i (by simpa using hil), List.getElem?_map, hi]; rfl
theorem Tail.read {q : Nat} {s : Sl} {l : Str} (h : Tail tag σ q s l) (hs : SL.Sep ro σ) : SL.Read ro σ s (l.map vU) := by
  refine ⟨by rw [h.len, List.length_map], fun hn => ?_, fun p hp i v hv => ?_⟩
  · rcases h with ⟨_, rfl⟩ | ⟨_, _, _, ha, _⟩
    · rfl
    · rw [hn] at ha; cases ha
  · rcases h with ⟨rfl, _⟩ | ⟨g, cs, k, ha, ht, hb, hln, hle, hg⟩
    · cases hp
    · rw [hp] at ha; cases ha
      rw [List.getElem?_map] at hv
      obtain ⟨c, hc, rfl⟩ := Option.map_eq_some_iff.1 hv
      unfold acell rd
      simp only [add_add, hs g _ hb, hb, cellOf]
      exact hg i c hc
theorem Tail.drop {q e : Nat} {s : Sl} {l : Str} (h : Tail tag σ q s l) (he : e ≤ l.length) : Tail tag σ q ⟨cutA s.a e s.cap 1, s.len - e, s.cap - e⟩ (l.drop e) := by
  rcases h with ⟨rfl, rfl⟩ | ⟨g, cs, k, ha, ht, hb, hln, hle, hg⟩
  · have : e = 0 := by simpa using he
    subst this
    exact .inl ⟨by simp [cutA], rfl⟩
  · unfold cutA
    by_cases hc : s.cap = e
    · rw [if_pos hc]
      refine .inr ⟨g, cs, k, ha, ht, hb, by simp; omega, by simp; omega, fun i c hi => ?_⟩
      rw [List.drop_of_length_le (by omega)] at hi; cases hi
    · rw [if_neg hc]
      refine .inr ⟨g, cs, k + e, by simp [ha, add_add], ht, hb, by simp; omega, by simp; omega, fun i c hi => ?_⟩
      rw [List.getElem?_drop] at hi
      rw [Nat.add_assoc]; exact hg (e + i) c hi
/-- a reader at A, of the role r -/
def RdAt (tag : Nat → Nat) (σ : AH) (r A : Nat) (x : Rd) : Prop :=
  ∃ s : Sl, Row tag σ r 190 ⟨some ⟨A, 0, none⟩, 2, 2⟩ [Sl.v s, Zt.vI x.err] ∧ Tail tag σ 6 s x.rest ∧ x.rest.length ≤ 140737488355328
theorem RdAt.keep {R : List Nat} {r A : Nat} {x : Rd} (h : RdAt tag σ r A x) (k : Step R ro tag σ tag' σ') (h1 : r ∉ R) (h2 : 6 ∉ R) : RdAt tag' σ' r A x := by
  obtain ⟨s, a, b, c⟩ := h
  exact ⟨s, a.keep k h1, b.keep k h2, c⟩
set_option maxRecDepth 100000 in
theorem newReader_ok {r : Nat} {a : Sl} {b : Str} {Q : Option Addr → AH → Prop} (h : SL.Read ro σ a (b.map vU)) (hs : SL.Sep ro σ) (hl : b.length ≤ 140737488355328) (hQ : ∀ A tag' σ', (∀ R, Step R ro tag σ tag' σ') → RdAt tag' σ' r A ⟨b, 0⟩ → Q (some ⟨A, 0, none⟩) σ') :
    c_wire_NewReader B ro a σ Q := by
  refine wire_NewReader_ok fun _ => ?_
  unfold f_wire_NewReader
  refine clone_ok (tag := tag) h hs (by simp; omega) (vU_st _) fun s tag1 σ1 st1 r1 => ?_
  refine nw_cells (tag := tag1) r (st1 []).sep fun A tag2 σ2 st2 r2 => ?_
  exact hQ A tag2 σ2 (fun R => (st1 R).trans (st2 R)) ⟨s, r2, Tail.of_row (r1.keep (st2 []) (by simp)), hl⟩
theorem left_ok {r A : Nat} {x : Rd} {Q : Int → AH → Prop} (h : RdAt tag σ r A x) (hs : SL.Sep ro σ) (hQ : Q (x.rest.length : Nat) σ) : c_wire_Reader_Left B ro (some ⟨A, 0, none⟩) σ Q := by
  refine wire_Reader_Left_ok fun _ => ?_
  unfold f_wire_Reader_Left
  obtain ⟨s, a, b, c⟩ := h
  obtain ⟨p, hp, hg⟩ := a.ptr hs (by simp)
  cases hp
  refine ⟨_, rfl, s, hg 0 _ rfl, ?_⟩
  rw [b.len]; exact hQ
theorem rerr_ok {r A : Nat} {x : Rd} {Q : Int → AH → Prop} (h : RdAt tag σ r A x) (hs : SL.Sep ro σ) (hQ : Q x.err σ) : c_wire_Reader_Err B ro (some ⟨A, 0, none⟩) σ Q := by
  refine wire_Reader_Err_ok fun _ => ?_
  unfold f_wire_Reader_Err
  obtain ⟨s, a, b, c⟩ := h
  obtain ⟨p, hp, hg⟩ := a.ptr hs (by simp)
  cases hp
  exact ⟨_, rfl, x.err, hg 1 _ rfl, hQ⟩
set_option maxRecDepth 100000 in
theorem rdNum_ok {r A : Nat} {x : Rd} {Q : Int → AH → Prop} (h : RdAt tag σ r A x) (h6 : r ≠ 6) (hs : SL.Sep ro σ) (hQ : ∀ σ', Step [r] ro tag σ tag σ' → RdAt tag σ' r A (rnum x).2 → Q ((rnum x).1 : Nat) σ') : c_wire_Reader_Num B ro (some ⟨A, 0, none⟩) σ Q := by
  refine wire_Reader_Num_ok fun _ => ?_
  unfold f_wire_Reader_Num
  obtain ⟨s, a, b, c⟩ := id h
  obtain ⟨p, hp, hg⟩ := a.ptr hs (by simp)
  cases hp
  refine ⟨_, rfl, x.err, hg 1 _ rfl, ?_⟩
  by_cases he : x.err = 0
  · rw [if_neg (by simpa using he)]
    refine ⟨_, rfl, s, hg 0 _ rfl, ?_⟩
    refine number_ok (b.read hs) c ?_
    have hrn : rnum x = ((num x.rest).1, ⟨x.rest.drop (num x.rest).2.1, (num x.rest).2.2⟩) := by unfold rnum; rw [if_neg (by simpa using he)]
    rw [hrn] at hQ
    have hle := num_le x.rest
    have hln := b.len
    have hcp := b.cap
    refine ⟨_, rfl, ?_⟩
    refine a.st (i := 1) hs rfl (by simp) rfl fun σ1 st1 r1 => ?_
    obtain ⟨p1, hp1, hg1⟩ := r1.ptr st1.sep (by simp)
    cases hp1
    refine ⟨_, rfl, s, hg1 0 _ rfl, ⟨trivial, by omega, by simp only [cutHi]; omega⟩, _, rfl, ?_⟩
    rw [Int.toNat_natCast]
    refine r1.st (i := 0) st1.sep rfl (by simp) rfl fun σ2 st2 r2 => ?_
    refine hQ σ2 (st1.trans st2) ⟨_, r2, ((b.drop hle.1).keep st1 (by simpa using fun h => h6 h.symm)).keep st2 (by simpa using fun h => h6 h.symm), by simp; omega⟩
  · rw [if_pos (by simpa using he)]
    rw [rnum_bad he] at hQ
    exact hQ σ (Step.refl hs) h
end Go.Proofs.YtfobjidchipdaaaGreatDoor.Wi

/- Frames and numbers: the walk. -/
namespace Go.Proofs.YtfobjidchipdaaaGreatDoor.Wi
open Go Go.Proofs.YtfobjidchipdaaaGreatDoor.SL Go.Proofs.YtfobjidchipdaaaGreatDoor.G Go.Proofs.YtfobjidchipdaaaGreatDoor.Pa Go.Proofs.YtfobjidchipdaaaGreatDoor.Zt
set_option linter.unusedSimpArgs false
set_option linter.unusedVariables false
set_option maxRecDepth 100000
variable {B : World} {ro σ σ' : AH} {tag tag' : Nat → Nat}
theorem frame_ok {q : Nat} {s : Sl} {p : Str} {Q : Sl → Int → AH → Prop} (hq : q ≠ 0) (hs : SL.Sep ro σ) (hln : s.len = p.length) (hx : ∀ tag' σ', Step [] ro tag σ tag' σ' → SL.Read ro σ' s (p.map vU))
    (hno : 65536 < p.length → Q ⟨none, 0, 0⟩ 14 σ) (hok : p.length ≤ 65536 → ∀ s' tag' σ', (∀ R, q ∈ R → Step R ro tag σ tag' σ') → Row tag' σ' q 5 s' ((frame p).map vU) → Q s' 0 σ') : c_wire_Frame B ro s σ Q := by
  refine wire_Frame_ok fun _ => ?_
  unfold f_wire_Frame
  rw [hln]
  by_cases c : 65536 < p.length
  · rw [if_pos (by omega)]; exact hno c
  · rw [if_neg (by omega)]
    refine four_ok (tag := tag) (q := q) (by omega) fun s1 tag1 σ1 st1 e1 r1 => ?_
    refine four_ok (tag := tag1) (q := 0) (by omega) fun s2 tag2 σ2 st2 e2 r2 => ?_
    have r1' := r1.keep (st2 []) (by simp)
    refine awp_appendN r2 (st2 []).sep (hx _ _ ((st1 []).trans (st2 []))) u30 ty5 rfl (by simp [storable]) (by simp [four_len]; omega) (by decide) fun s3 tag3 σ3 st3 r3 => ?_
    refine ⟨s3, rfl, ?_⟩
    rw [← List.map_append] at r3
    have st3' := fun R => st3 R (.inl e2)
    refine sum_ok (r3.read (st3' []).sep) (by simp [four_len]; omega) ?_
    refine four_ok (tag := tag3) (q := 0) (crc_lt _) fun s4 tag4 σ4 st4 e4 r4 => ?_
    refine awp_appendN ((r1'.keep (st3' []) (by simp)).keep (st4 []) (by simp)) (st4 []).sep (r4.read (st4 []).sep) u30 ty5 rfl (by simp [storable]) (by simp [four_len]) (by decide) fun s5 tag5 σ5 st5 r5 => ?_
    refine ⟨s5, rfl, ?_⟩
    rw [← List.map_append] at r5
    have st5' := fun R => st5 R (.inl e1)
    refine awp_appendN r5 (st5' []).sep (hx _ _ ((st1 []).trans ((st2 []).trans ((st3' []).trans ((st4 []).trans (st5' [])))))) u30 ty5 rfl (by simp [storable]) (by simp [four_len]; omega) (by decide) fun s6 tag6 σ6 st6 r6 => ?_
    refine ⟨s6, rfl, hok (by omega) s6 tag6 σ6 (fun R hR => (st1 R).trans ((st2 R).trans ((st3' R).trans ((st4 R).trans ((st5' R).trans (st6 R (.inr hR))))))) ?_⟩
    rw [← List.map_append, List.append_assoc] at r6
    exact r6
theorem putA_ok {q n : Nat} {acc0 : Str} {s0 : Sl} {Q : Sl → AH → Prop} (hs : SL.Sep ro σ) (hn : n < 4611686018427387904) (ha0 : acc0.length ≤ 1048576) (h0 : Row tag σ q 5 s0 (acc0.map vU)) (hQ : ∀ s tag' σ', Step [q] ro tag σ tag' σ' → Row tag' σ' q 5 s ((acc0 ++ vput n).map vU) → Q s σ') : c_wire_put B ro s0 (n : Int) σ Q := by
  refine wire_put_ok fun _ => ?_
  unfold f_wire_put
  suffices ∀ (m k : Nat) (acc : Str) (s : Sl) (tag1 : Nat → Nat) (σ1 : AH), k < 128 ^ (m + 1) → acc.length + m < 20 + acc0.length → acc ++ vput k = acc0 ++ vput n → Step [q] ro tag σ tag1 σ1 → Row tag1 σ1 q 5 s (acc.map vU) → lfpD (l6_wire_put B ro Q) (s, (k : Int)) σ1 from
    this 8 n acc0 s0 tag σ (by omega) (by omega) rfl (Step.refl hs) h0
  intro m
  induction m with
  | zero =>
    intro k acc s tag1 σ1 hk ha he st r1
    have hk : k < 128 := by simpa using hk
    refine lfpD.intro ?_
    unfold l6_wire_put
    simp only
    rw [if_neg (by omega)]
    unfold j1_wire_put
    refine nw_cells (tag := tag1) 0 st.sep fun x tag2 σ2 st2 r2 => ?_
    rw [u8wrap (by omega)] at r2
    refine awp_appendN (l2 := [vU (UInt8.ofNat k)]) (r1.keep (st2 []) (by simp)) (st2 []).sep (by rw [vU_of (by omega)]; exact r2.read (st2 []).sep) u30 ty5 rfl (by simp [storable]) (by simp; omega) (by decide) fun s' tag3 σ3 st3 r3 => ?_
    refine ⟨s', rfl, hQ s' tag3 σ3 (st.trans ((st2 _).trans (st3 _ (.inr (by simp))))) ?_⟩
    rw [← he]
    rw [vput, if_pos hk, List.map_append]
    exact r3
  | succ m ih =>
    intro k acc s tag1 σ1 hk ha he st r1
    refine lfpD.intro ?_
    unfold l6_wire_put
    simp only
    by_cases h128 : 128 ≤ k
    · rw [if_pos (by omega)]
      refine nw_cells (tag := tag1) 0 st.sep fun x tag2 σ2 st2 r2 => ?_
      rw [u8or] at r2
      refine awp_appendN (l2 := [vU (UInt8.ofNat (k % 128 + 128))]) (r1.keep (st2 []) (by simp)) (st2 []).sep (by rw [vU_of (by omega)]; exact r2.read (st2 []).sep) u30 ty5 rfl (by simp [storable]) (by simp; omega) (by decide) fun s' tag3 σ3 st3 r3 => ?_
      refine ⟨s', rfl, ?_⟩
      rw [show Int.fdiv (k : Int) (2 ^ (min (Int.toNat 7) 64)) = ((k / 128 : Nat) : Int) by
        rw [show (2 : Int) ^ (min (Int.toNat 7) 64) = 128 from by decide, Int.fdiv_eq_ediv_of_nonneg _ (by decide)]; omega]
      refine ih (k / 128) (acc ++ [UInt8.ofNat (k % 128 + 128)]) s' tag3 σ3 (by rw [Nat.pow_succ] at hk; exact Nat.div_lt_of_lt_mul (by rw [Nat.mul_comm]; exact hk)) (by simp; omega) ?_ (st.trans ((st2 _).trans (st3 _ (.inr (by simp))))) (by rw [List.map_append]; exact r3)
      rw [← he, List.append_assoc]
      conv => rhs; rw [vput, if_neg (by omega)]
      rfl
    · rw [if_neg (by omega)]
      unfold j1_wire_put
      refine nw_cells (tag := tag1) 0 st.sep fun x tag2 σ2 st2 r2 => ?_
      rw [u8wrap (by omega)] at r2
      refine awp_appendN (l2 := [vU (UInt8.ofNat k)]) (r1.keep (st2 []) (by simp)) (st2 []).sep (by rw [vU_of (by omega)]; exact r2.read (st2 []).sep) u30 ty5 rfl (by simp [storable]) (by simp; omega) (by decide) fun s' tag3 σ3 st3 r3 => ?_
      refine ⟨s', rfl, hQ s' tag3 σ3 (st.trans ((st2 _).trans (st3 _ (.inr (by simp))))) ?_⟩
      rw [← he]
      rw [vput, if_pos (by omega), List.map_append]
      exact r3
def nums (ns : List Int) : Str := ns.flatMap fun n => vput n.toNat
theorem vput_len9 {n : Nat} (h : n < 4611686018427387904) : (vput n).length ≤ 9 := (vput_len 8 n (by omega)).2
theorem nums_len : ∀ {ns : List Int}, ns.all rightN = true → (nums ns).length ≤ 9 * ns.length := by
  intro ns
  induction ns with
  | nil => intro _; simp [nums]
  | cons n ns ih =>
    intro h
    rw [List.all_cons, Bool.and_eq_true] at h
    have := ih h.2
    have h1 : rightN n = true := h.1
    unfold rightN at h1
    simp at h1
    have := vput_len9 (n := n.toNat) (by omega)
    unfold nums at *
    rw [List.flatMap_cons, List.length_append, List.length_cons]
    omega
theorem numbers_ok {q : Nat} {s : Sl} {ns : List Int} {Q : Sl → Int → AH → Prop} (hs : SL.Sep ro σ) (hln : s.len = ns.length) (hl : ns.length ≤ 100) (hx : ∀ tag' σ', Step [q] ro tag σ tag' σ' → SL.Read ro σ' s (ns.map Zt.vI))
    (hno : ns.all rightN = false → ∀ tag' σ', Step [q] ro tag σ tag' σ' → Q ⟨none, 0, 0⟩ 10 σ')
    (hok : ns.all rightN = true → ∀ s' tag' σ', Step [q] ro tag σ tag' σ' → Row tag' σ' q 5 s' ((nums ns).map vU) → Q s' 0 σ') : c_wire_Numbers B ro s σ Q := by
  refine wire_Numbers_ok fun _ => ?_
  unfold f_wire_Numbers
  suffices ∀ (m j : Nat) (s' : Sl) (tag1 : Nat → Nat) (σ1 : AH), j + m = ns.length → (ns.take j).all rightN = true → Step [q] ro tag σ tag1 σ1 → Row tag1 σ1 q 5 s' ((nums (ns.take j)).map vU) → lfpD (l3_wire_Numbers B ro s Q) (s', (j : Int)) σ1 from
    this _ 0 _ tag σ (Nat.zero_add _) rfl (Step.refl hs) (Row.nil q 5)
  intro m
  induction m with
  | zero =>
    intro j s' tag1 σ1 hj ha st r
    refine lfpD.intro ?_
    unfold l3_wire_Numbers
    simp only
    rw [if_neg (by omega)]
    unfold j1_wire_Numbers
    rw [List.take_of_length_le (by omega)] at ha r
    exact hok ha s' tag1 σ1 st r
  | succ m ih =>
    intro j s' tag1 σ1 hj ha st r
    have hjl : j < ns.length := by omega
    refine lfpD.intro ?_
    unfold l3_wire_Numbers
    simp only
    rw [if_pos (by omega)]
    have h := hx tag1 σ1 st
    obtain ⟨p, hp⟩ : ∃ p, s.a = some p := by
      cases ha : s.a with
      | none => have := h.2.1 ha; simp at this; subst this; simp at hjl
      | some p => exact ⟨p, rfl⟩
    refine ⟨p, hp, by omega, by omega, ns[j], ?_, ?_⟩
    · rw [Int.toNat_natCast, Nat.mul_one]
      refine h.2.2 p hp j _ ?_
      rw [List.getElem?_map, List.getElem?_eq_getElem hjl]; rfl
    · refine right_ok ?_
      by_cases c : rightN ns[j] = true
      · rw [if_neg (by simpa using c)]
        have c' := c
        unfold rightN at c'
        simp at c'
        have e : ns[j] = ((ns[j].toNat : Nat) : Int) := by omega
        have hlen := nums_len ha
        rw [List.length_take] at hlen
        rw [e]
        refine putA_ok st.sep (by omega) (by omega) r fun s2 tag2 σ2 st2 r2 => ?_
        rw [Pa.inc j (by omega)]
        have et : ns.take (j + 1) = ns.take j ++ [ns[j]] := by rw [List.take_add_one, List.getElem?_eq_getElem hjl]; rfl
        refine ih (j + 1) s2 tag2 σ2 (by omega) ?_ (st.trans st2) ?_
        · rw [et, List.all_append, ha]; simpa using c
        · rw [et]
          unfold nums at r2 ⊢
          rw [List.flatMap_append, List.flatMap_singleton]; exact r2
      · rw [if_pos (by simpa using c)]
        refine hno ?_ tag1 σ1 st
        rw [← Bool.not_eq_true, List.all_eq_true]
        exact fun h => c (h _ (List.getElem_mem hjl))
theorem read_drop {s : Sl} {l : Str} (h : SL.Read ro σ s (l.map vU)) (hc : s.len ≤ s.cap) {e : Nat} (he : e ≤ l.length) : SL.Read ro σ ⟨cutA s.a e s.cap 1, s.len - e, s.cap - e⟩ ((l.drop e).map vU) := by
  obtain ⟨h1, h2, h3⟩ := h
  rw [List.length_map] at h1
  refine ⟨by simp only; rw [h1]; simp, fun ha => ?_, fun p hp i w hw => ?_⟩
  · unfold cutA at ha
    simp only at ha
    have hn : s.a = none := by
      split at ha
      · exact ha
      · exact Option.map_eq_none_iff.1 ha
    have := h2 hn
    simp at this; subst this; simp
  · unfold cutA at hp
    simp only at hp
    have hi : i < (l.drop e).length := by
      rcases Nat.lt_or_ge i (l.drop e).length with h | h
      · exact h
      · rw [List.getElem?_eq_none (by simpa using h)] at hw; cases hw
    rw [List.length_drop] at hi
    split at hp
    · omega
    · obtain ⟨p', hp', rfl⟩ := Option.map_eq_some_iff.1 hp
      have hw' : (l.map vU)[e + i]? = some w := by
        rw [← hw, List.map_drop, List.getElem?_drop]
      have := h3 p' hp' (e + i) w hw'
      have e1 : (p'.add (e * 1)).add i = p'.add (e + i) := by
        obtain ⟨b, o, sp⟩ := p'
        cases e with
        | zero => rw [Nat.zero_mul, Nat.zero_add]; rfl
        | succ e => rw [Nat.mul_one, show (⟨b, o, sp⟩ : Addr).add (e + 1) = ⟨b, o + (e + 1), none⟩ from rfl, add_add, show (⟨b, o, sp⟩ : Addr).add (e + 1 + i) = ⟨b, o + (e + 1 + i), none⟩ from by rw [show e + 1 + i = (e + i) + 1 by omega]; rfl, Nat.add_assoc]
      rw [e1]; exact this
theorem read_take {s : Sl} {l : Str} (h : SL.Read ro σ s (l.map vU)) {n c : Nat} (hn : n ≤ l.length) : SL.Read ro σ ⟨s.a, n, c⟩ ((l.take n).map vU) := by
  obtain ⟨h1, h2, h3⟩ := h
  refine ⟨by simp; omega, fun ha => ?_, fun p hp i w hw => ?_⟩
  · have := h2 ha
    simp at this; subst this; simp
  · refine h3 p hp i w ?_
    rw [← hw, List.map_take, List.getElem?_take]
    have hi : i < n := by
      rcases Nat.lt_or_ge i ((l.take n).map vU).length with h | h
      · simp at h; omega
      · rw [List.getElem?_eq_none h] at hw; cases hw
    rw [if_pos hi]
theorem unframe_ok {s : Sl} {l : Str} {k : Nat} {Q : Sl → Int → Int → AH → Prop} (hs : SL.Sep ro σ) (hcap : s.len ≤ s.cap) (hk : k ≤ l.length) (hl : l.length ≤ 140737488355328) (hx : ∀ tag' σ', Step [] ro tag σ tag' σ' → SL.Read ro σ' s (l.map vU))
    (hno : (unframe (l.drop k)).2.2 ≠ 0 → ∀ tag' σ', (∀ R, Step R ro tag σ tag' σ') → Q ⟨none, 0, 0⟩ 0 (unframe (l.drop k)).2.2 σ')
    (hok : (unframe (l.drop k)).2.2 = 0 → ∀ s' tag' σ', (∀ R, Step R ro tag σ tag' σ') → Row tag' σ' 6 5 s' ((unframe (l.drop k)).1.map vU) → Q s' ((k + (unframe (l.drop k)).2.1 : Nat) : Int) 0 σ') : c_wire_Unframe B ro s (k : Int) σ Q := by
  refine wire_Unframe_ok fun _ => ?_
  unfold f_wire_Unframe
  have h0 := hx tag σ (Step.refl hs)
  have hln : s.len = l.length := by rw [h0.1, List.length_map]
  have hdl : (l.drop k).length = l.length - k := List.length_drop ..
  rw [if_neg (by omega), w64_eq (n := (s.len : Int) - (k : Int)) (by omega) (by omega)]
  unfold unframe at hno hok
  by_cases c1 : (l.drop k).length < 8
  · rw [if_pos (by omega)]
    rw [if_pos c1] at hno
    exact hno (by decide) tag σ fun R => Step.refl hs
  rw [if_neg (by omega)]
  rw [if_neg c1] at hno hok
  refine ⟨⟨trivial, by omega, by simp only [cutHi]; omega⟩, ?_⟩
  rw [Int.toNat_natCast]
  refine value_ok (read_drop h0 hcap hk) (by omega) ?_
  have hv4 : value (l.drop k) < 4294967296 := by
    match l.drop k with
    | a :: b :: c :: d :: r => unfold value; have := u8_lt a; have := u8_lt b; have := u8_lt c; have := u8_lt d; simp only; omega
    | [] => decide
    | [a] => show (0 : Nat) < _; decide
    | [a, b] => show (0 : Nat) < _; decide
    | [a, b, c] => show (0 : Nat) < _; decide
  obtain ⟨n, hn⟩ : ∃ n, value (l.drop k) = n := ⟨_, rfl⟩
  rw [hn] at hno hok hv4 ⊢
  by_cases c2 : 65536 < n
  · rw [if_pos (by omega)]
    rw [if_pos c2] at hno
    exact hno (by decide) tag σ fun R => Step.refl hs
  rw [if_neg (by omega)]
  rw [if_neg c2] at hno hok
  rw [w64_eq (n := (s.len : Int) - (k : Int) - 8) (by omega) (by omega)]
  by_cases c3 : (l.drop k).length - 8 < n
  · rw [if_pos (by omega)]
    rw [if_pos c3] at hno
    exact hno (by decide) tag σ fun R => Step.refl hs
  rw [if_neg (by omega)]
  rw [if_neg c3] at hno hok
  rw [w64_eq (n := (k : Int) + 8) (by omega) (by omega), w64_eq (n := (k : Int) + 8 + (n : Int)) (by omega) (by omega), w64_eq (n := (k : Int) + 4) (by omega) (by omega)]
  refine ⟨⟨⟨by omega, by omega⟩, by omega, by simp only [cutHi]; omega⟩, ?_⟩
  rw [show Int.toNat ((k : Int) + 8) = k + 8 by omega, show Int.toNat ((k : Int) + 8 + (n : Int)) = k + 8 + n by omega, show Int.toNat ((k : Int) + 4) = k + 4 by omega]
  have ed8 : (l.drop k).drop 8 = l.drop (k + 8) := by rw [List.drop_drop]
  have ed4 : (l.drop k).drop 4 = l.drop (k + 4) := by rw [List.drop_drop]
  rw [ed8, ed4] at hno hok
  have hr8 := read_take (read_drop h0 hcap (e := k + 8) (by omega)) (n := n) (c := s.cap - (k + 8)) (by rw [List.length_drop]; omega)
  simp only at hr8
  rw [show k + 8 + n - (k + 8) = n by omega]
  have hpl : ((l.drop (k + 8)).take n).length = n := by rw [List.length_take, List.length_drop]; omega
  obtain ⟨p, hp⟩ : ∃ p, (l.drop (k + 8)).take n = p := ⟨_, rfl⟩
  rw [hp] at hno hok hr8 hpl
  refine clone_ok (tag := tag) hr8 hs (by rw [List.length_map]; omega) (by simp [storable]) fun s1 tag1 σ1 st1 r1 => ?_
  refine ⟨⟨trivial, by omega, by simp only [cutHi]; omega⟩, ?_⟩
  refine four_ok (tag := tag1) (q := 0) (by omega) fun s2 tag2 σ2 st2 e2 r2 => ?_
  have r1' := r1.keep (st2 []) (by simp)
  refine awp_appendN r2 (st2 []).sep (r1'.read (st2 []).sep) u30 ty5 rfl (by simp [storable]) (by simp [four_len]; omega) (by decide) fun s3 tag3 σ3 st3 r3 => ?_
  refine ⟨s3, rfl, ?_⟩
  rw [← List.map_append] at r3
  have st3' := fun R => st3 R (.inl e2)
  have sta : ∀ R, Step R ro tag σ tag3 σ3 := fun R => (st1 R).trans ((st2 R).trans (st3' R))
  refine sum_ok (r3.read (st3' []).sep) (by simp [four_len]; omega) ?_
  have h3 := hx tag3 σ3 (sta [])
  refine value_ok (read_drop h3 hcap (e := k + 4) (by omega)) (by rw [List.length_drop]; omega) ?_
  by_cases c4 : crc (four n ++ p) = value (l.drop (k + 4))
  · rw [if_neg (by rw [c4]; simp)]
    rw [if_pos c4] at hok
    rw [show ((k : Int) + 8 + (n : Int)) = ((k + (8 + n) : Nat) : Int) by omega]
    exact hok rfl s1 tag3 σ3 sta (r1'.keep (st3' []) (by simp))
  · rw [if_pos (by omega)]
    rw [if_neg c4] at hno
    exact hno (by decide) tag3 σ3 sta
end Go.Proofs.YtfobjidchipdaaaGreatDoor.Wi
