/- Functions as predicate transformers, and the proofs that the code does what they tell: printed by wip/tools/gen.py. -/
import Derived.Test.YthfpmipeejjogaaGreatDoorGC
namespace Go.Proofs.YthfpmipeejjogaaGreatDoor.G
open Go Go.Proofs.YthfpmipeejjogaaGreatDoor.SL
set_option linter.unusedVariables false
set_option linter.unusedSimpArgs false

def j2_slices_DeleteFunc_string_string (B : World) (ro : AH) (a0 : Sl) (Q : Sl → AH → Prop) (x5_3 : Int) (σ : AH) : Prop :=
 cutOk (some x5_3) none a0.len a0.cap ∧
 awp Tryz.prog ro (Builtin.clear_ #[25] 0 #[Sl.v (⟨cutA a0.a (Int.toNat x5_3) a0.cap 1, a0.len - Int.toNat x5_3, a0.cap - Int.toNat x5_3⟩ : Sl)]) (fun v σ => v = .tuple #[] ∧
  cutOk none (some x5_3) a0.len a0.cap ∧
  Q (⟨cutA a0.a (0) a0.cap 1, Int.toNat x5_3 - 0, a0.cap - 0⟩ : Sl) σ) σ

def j7_slices_DeleteFunc_string_string (B : World) (ro : AH) (a0 : Sl) (a1 : Value) (x6_6 : Int) (Q : Sl → AH → Prop) (Y4 : (Int × Int) → AH → Prop) (x5_8 : Int) (σ : AH) : Prop :=
 Y4 (x5_8, IntKind.i64.wrap (x6_6 + 1)) σ

def l4_slices_DeleteFunc_string_string (B : World) (ro : AH) (a0 : Sl) (a1 : Value) (Q : Sl → AH → Prop) : (Int × Int) → AH → ((Int × Int) → AH → Prop) → Prop := fun ⟨x5_5, x6_6⟩ σ Y4 =>
 if x6_6 < (a0.len : Int) then
  ∃ p24_9 : Addr, a0.a = some p24_9 ∧ (0 : Int) ≤ x6_6 ∧ x6_6 < (a0.len : Int) ∧
  ∃ (x25_10 : ByteArray), acell ro σ (p24_9.add (Int.toNat x6_6 * 1)) = some (.string x25_10) ∧
  callV Tryz.prog B ro a1 [.string x25_10] σ (fun v σ => ∃ (x28_11 : Bool), v = .bool x28_11 ∧
   if ¬ (x28_11 = true) then
    ∃ p33_12 : Addr, a0.a = some p33_12 ∧ (0 : Int) ≤ x5_5 ∧ x5_5 < (a0.len : Int) ∧
    stN (p33_12.add (Int.toNat x5_5 * 1)) (fun σ =>
     j7_slices_DeleteFunc_string_string B ro a0 a1 x6_6 Q Y4 (IntKind.i64.wrap (x5_5 + 1)) σ) [.string x25_10] 0 σ
   else
   j7_slices_DeleteFunc_string_string B ro a0 a1 x6_6 Q Y4 x5_5 σ)
 else
 j2_slices_DeleteFunc_string_string B ro a0 Q x5_5 σ

def f_slices_DeleteFunc_string_string (B : World) (ro : AH) (a0 : Sl) (a1 : Value) (σ : AH) (Q : Sl → AH → Prop) : Prop :=
 c_slices_IndexFunc_string_string B ro a0 a1 σ fun x10_1 σ =>
 if x10_1 = (-1) then
  Q a0 σ
 else
 lfpD (l4_slices_DeleteFunc_string_string B ro a0 a1 Q ) (x10_1, IntKind.i64.wrap (x10_1 + 1)) σ

set_option maxRecDepth 100000 in
set_option maxHeartbeats 4000000 in
theorem slices_DeleteFunc_string_string_ok {B : World} {ro : AH} {a0 : Sl} {a1 : Value} {σ : AH} {Q : Sl → AH → Prop} (h : Sep ro σ → f_slices_DeleteFunc_string_string B ro a0 a1 σ Q) : c_slices_DeleteFunc_string_string B ro a0 a1 σ Q := by
  refine ACalls.of_sep fun hsep => ?_
  replace h := h hsep
  refine ACalls.of_body (args := [Sl.v a0, a1]) Tryz.func56 rfl (by rw [Tryz.ntmps56]; simp) ?_
  rw [Tryz.ntmps56]
  unfold f_slices_DeleteFunc_string_string at h
  refine AW.seq ?_
  refine AW.reg ?_
  refine Lp (V_asg rfl rfl) rfl rfl ?_
  refine Lnil ?_
  refine thenN ?_
  refine AW.seq ?_
  refine AW.reg ?_
  refine Lp (V_move rfl rfl) rfl rfl ?_
  refine Lp (V_move rfl rfl) rfl rfl ?_
  refine Ls rfl rfl (X_call rfl Tryz.func107 rfl rfl rfl (ACalls.mono h ?_))
  rintro v σ ⟨x10_1, rfl, h⟩
  refine Lp (V_asg rfl rfl) rfl rfl ?_
  refine Lnil ?_
  refine thenN ?_
  refine AW.seq ?_
  refine AW.seq ?_
  refine AW.reg ?_
  refine Lp (V_move rfl rfl) rfl rfl ?_
  refine Lp (V_eql rfl rfl rfl) rfl rfl ?_
  refine Lnil ?_
  refine thenN ?_
  refine AW.iff rfl decide_eq_true_iff h (fun h => ?_) (fun h => ?_)
  · refine AW.seq ?_
    refine AW.reg ?_
    refine Lp (V_move rfl rfl) rfl rfl ?_
    refine Lp (V_asg rfl rfl) rfl rfl ?_
    refine Lnil ?_
    refine thenN ?_
    refine AW.ret ?_
    refine thenR ?_
    exact bR1 Tryz.results56 rfl ⟨_, rfl, h⟩
  refine AW.skip ?_
  refine thenN ?_
  refine AW.seqJ (fun fr σ => ∃ (x5_3 : Int), FrLe [(0, Sl.v a0), (5, .int .i64 x5_3)] fr ∧ j2_slices_DeleteFunc_string_string B ro a0 Q x5_3 σ) ?_ ?_
  · rintro fr σ ⟨x5_3, hl, h⟩
    refine AW.weaken ?_ hl (HLe.refl _)
    unfold j2_slices_DeleteFunc_string_string at h
    refine AW.seq ?_
    refine AW.reg ?_
    refine Lp (V_move rfl rfl) rfl rfl ?_
    refine Lp (V_move rfl rfl) rfl rfl ?_
    obtain ⟨hc, h⟩ := h
    refine Lp (V_slL (lo := (some x5_3)) (hi := none) rfl Tryz.underlying25 ty9 rfl (optI_some rfl) optI_none hc) rfl rfl ?_
    refine Ls rfl rfl (X_bi (s := Builtin.clear_ #[25] 0 #[Sl.v (⟨cutA a0.a (Int.toNat x5_3) a0.cap 1, a0.len - Int.toNat x5_3, a0.cap - Int.toNat x5_3⟩ : Sl)]) rfl rfl (fun _ => rfl) (awp_mono _ h ?_))
    rintro v σ ⟨rfl, h⟩
    refine Lnil ?_
    refine thenN ?_
    refine AW.seq ?_
    refine AW.reg ?_
    refine Lp (V_move rfl rfl) rfl rfl ?_
    refine Lp (V_move rfl rfl) rfl rfl ?_
    obtain ⟨hc, h⟩ := h
    refine Lp (V_slL (lo := none) (hi := (some x5_3)) rfl Tryz.underlying25 ty9 rfl optI_none (optI_some rfl) hc) rfl rfl ?_
    refine Lp (V_asg rfl rfl) rfl rfl ?_
    refine Lnil ?_
    refine thenN ?_
    refine AW.ret ?_
    exact bR1 Tryz.results56 rfl ⟨_, rfl, h⟩
  refine AW.seq ?_
  refine AW.reg ?_
  refine Lp (V_move rfl rfl) rfl rfl ?_
  refine Lp (V_add rfl rfl rfl) rfl rfl ?_
  refine Lp (V_asg rfl rfl) rfl rfl ?_
  refine Lnil ?_
  refine thenN ?_
  refine AW.block ?_
  refine ARound.loop (fr' := [(0, Sl.v a0), (1, a1), (5, .int .i64 x10_1), (6, .int .i64 (IntKind.i64.wrap (x10_1 + 1)))]) ?_ (FrLe.cons rfl (FrLe.cons rfl (FrLe.cons rfl (FrLe.cons rfl (FrLe.nil _)))))
  refine h (fun ⟨x5_5, x6_6⟩ σ => ARound _ _ _ _ _ _ [(0, Sl.v a0), (1, a1), (5, .int .i64 x5_5), (6, .int .i64 x6_6)] σ) ?_
  rintro ⟨x5_5, x6_6⟩ σ Y4 hY4 h
  show AW _ _ _ _ _ _ _ _
  unfold l4_slices_DeleteFunc_string_string at h
  dsimp only at h
  refine AW.seq ?_
  refine AW.seq ?_
  refine AW.reg ?_
  refine Lp (V_move rfl rfl) rfl rfl ?_
  refine Lp (V_move rfl rfl) rfl rfl ?_
  refine Lp (V_lenL rfl rfl Tryz.underlying25 rfl rfl) rfl rfl ?_
  refine Lp (V_lss rfl rfl rfl) rfl rfl ?_
  refine Lnil ?_
  refine thenN ?_
  refine AW.iff rfl decide_eq_true_iff h (fun h => ?_) (fun h => ?_)
  rotate_left
  · refine AW.exit ?_
    refine thenE ?_
    refine thenE ?_
    refine blockE ?_
    refine thenN ?_
    exact ⟨_, (FrLe.cons rfl (FrLe.cons rfl (FrLe.nil _))), h⟩
  refine AW.skip ?_
  refine thenN ?_
  refine AW.seqJ (fun fr σ => ∃ (x5_8 : Int), FrLe [(0, Sl.v a0), (1, a1), (6, .int .i64 x6_6), (5, .int .i64 x5_8)] fr ∧ j7_slices_DeleteFunc_string_string B ro a0 a1 x6_6 Q Y4 x5_8 σ) ?_ ?_
  · rintro fr σ ⟨x5_8, hl, h⟩
    refine AW.weaken ?_ hl (HLe.refl _)
    unfold j7_slices_DeleteFunc_string_string at h
    refine AW.reg ?_
    refine Lp (V_move rfl rfl) rfl rfl ?_
    refine Lp (V_add rfl rfl rfl) rfl rfl ?_
    refine Lp (V_asg rfl rfl) rfl rfl ?_
    refine Lnil ?_
    refine thenN ?_
    refine ARound.head (fr' := [(0, Sl.v a0), (1, a1), (5, .int .i64 x5_8), (6, .int .i64 (IntKind.i64.wrap (x6_6 + 1)))]) ?_ (FrLe.cons rfl (FrLe.cons rfl (FrLe.cons rfl (FrLe.cons rfl (FrLe.nil _)))))
    exact hY4 _ _ h
  refine AW.block ?_
  refine AW.seq ?_
  refine AW.reg ?_
  refine Lp (V_move rfl rfl) rfl rfl ?_
  refine Lp (V_move rfl rfl) rfl rfl ?_
  obtain ⟨p24_9, ha, h0, h1, h⟩ := h
  refine Lp (V_ixA rfl Tryz.underlying25 ty9 (ixL rfl ha) rfl h0 h1) rfl rfl ?_
  obtain ⟨x25_10, hc, h⟩ := h
  refine Ls rfl rfl (X_ld rfl Tryz.underlying9 rfl rfl hc ?_)
  refine Lp (V_asg rfl rfl) rfl rfl ?_
  refine Lnil ?_
  refine thenN ?_
  refine AW.seq ?_
  refine AW.reg ?_
  refine Lp (V_move rfl rfl) rfl rfl ?_
  refine Lp (V_move rfl rfl) rfl rfl ?_
  refine Ls rfl rfl (X_callV rfl rfl rfl (callV_mono h ?_))
  rintro v σ ⟨x28_11, rfl, h⟩
  refine Lp (V_not rfl rfl) rfl rfl ?_
  refine Lnil ?_
  refine thenN ?_
  refine AW.iff rfl (bnot_iff Iff.rfl) h (fun h => ?_) (fun h => ?_)
  rotate_left
  · refine AW.skip ?_
    refine blockN ?_
    refine thenN ?_
    exact ⟨_, (FrLe.cons rfl (FrLe.cons rfl (FrLe.cons rfl (FrLe.cons rfl (FrLe.nil _))))), h⟩
  refine AW.seq ?_
  refine AW.reg ?_
  refine Lp (V_move rfl rfl) rfl rfl ?_
  refine Lp (V_move rfl rfl) rfl rfl ?_
  refine Lp (V_move rfl rfl) rfl rfl ?_
  obtain ⟨p33_12, ha, h0, h1, h⟩ := h
  refine Lp (V_ixA rfl Tryz.underlying25 ty9 (ixL rfl ha) rfl h0 h1) rfl rfl ?_
  refine Ls rfl rfl (X_st rfl ty9 rfl rfl rfl rfl (stN_mono h fun σ h => ?_))
  refine Lnil ?_
  refine thenN ?_
  refine AW.reg ?_
  refine Lp (V_move rfl rfl) rfl rfl ?_
  refine Lp (V_add rfl rfl rfl) rfl rfl ?_
  refine Lp (V_asg rfl rfl) rfl rfl ?_
  refine Lnil ?_
  refine blockN ?_
  refine thenN ?_
  exact ⟨_, (FrLe.cons rfl (FrLe.cons rfl (FrLe.cons rfl (FrLe.cons rfl (FrLe.nil _))))), h⟩

def f_bytes_Clone (B : World) (ro : AH) (a0 : Sl) (σ : AH) (Q : Sl → AH → Prop) : Prop :=
 if a0.a = none then
  Q (⟨none, 0, 0⟩ : Sl) σ
 else
 nw ro σ (.cells #[] 5) fun x5_1 σ =>
 awp Tryz.prog ro (Builtin.append_ #[30, 30] 30 #[Sl.v (⟨some ⟨x5_1, 0, none⟩, 0, 0⟩ : Sl), Sl.v a0]) (fun v σ => ∃ (x7_2 : Sl), v = Sl.v x7_2 ∧
  Q x7_2 σ) σ

set_option maxRecDepth 100000 in
set_option maxHeartbeats 4000000 in
theorem bytes_Clone_ok {B : World} {ro : AH} {a0 : Sl} {σ : AH} {Q : Sl → AH → Prop} (h : Sep ro σ → f_bytes_Clone B ro a0 σ Q) : c_bytes_Clone B ro a0 σ Q := by
  refine ACalls.of_sep fun hsep => ?_
  replace h := h hsep
  refine ACalls.of_body (args := [Sl.v a0]) Tryz.func61 rfl (by rw [Tryz.ntmps61]; simp) ?_
  rw [Tryz.ntmps61]
  unfold f_bytes_Clone at h
  refine AW.seq ?_
  refine AW.reg ?_
  refine Lp (V_asg rfl rfl) rfl rfl ?_
  refine Lnil ?_
  refine thenN ?_
  refine AW.seq ?_
  refine AW.seq ?_
  refine AW.reg ?_
  refine Lp (V_move rfl rfl) rfl rfl ?_
  refine Lp (V_eqL rfl Tryz.underlying30 rfl rfl) rfl rfl ?_
  refine Lnil ?_
  refine thenN ?_
  refine AW.iff rfl isNone_iff h (fun h => ?_) (fun h => ?_)
  · refine AW.seq ?_
    refine AW.reg ?_
    refine Lp (V_asg rfl rfl) rfl rfl ?_
    refine Lnil ?_
    refine thenN ?_
    refine AW.ret ?_
    refine thenR ?_
    exact bR1 Tryz.results61 rfl ⟨_, rfl, h⟩
  refine AW.skip ?_
  refine thenN ?_
  refine AW.seq ?_
  refine AW.reg ?_
  refine Ls rfl rfl (X_new (A_bsl (vs := []) (cs := #[]) rfl Tryz.underlying30 ty5 (by decide) rfl rfl) fun x5_1 g1 g2 => ?_)
  replace h := h x5_1 g1 g2
  refine Lp (V_move rfl rfl) rfl rfl ?_
  refine Ls rfl rfl (X_bi (s := Builtin.append_ #[30, 30] 30 #[Sl.v (⟨some ⟨x5_1, 0, none⟩, 0, 0⟩ : Sl), Sl.v a0]) rfl rfl (fun _ => rfl) (awp_mono _ h ?_))
  rintro v σ ⟨x7_2, rfl, h⟩
  refine Lp (V_asg rfl rfl) rfl rfl ?_
  refine Lnil ?_
  refine thenN ?_
  refine AW.ret ?_
  exact bR1 Tryz.results61 rfl ⟨_, rfl, h⟩

def j1_slices_IndexFunc_string_string (B : World) (ro : AH) (Q : Int → AH → Prop) (σ : AH) : Prop :=
 Q (-1) σ

def l2_slices_IndexFunc_string_string (B : World) (ro : AH) (a0 : Sl) (a1 : Value) (Q : Int → AH → Prop) : (Int) → AH → ((Int) → AH → Prop) → Prop := fun x8_3 σ Y2 =>
 if x8_3 < (a0.len : Int) then
  ∃ p14_4 : Addr, a0.a = some p14_4 ∧ (0 : Int) ≤ x8_3 ∧ x8_3 < (a0.len : Int) ∧
  ∃ (x15_5 : ByteArray), acell ro σ (p14_4.add (Int.toNat x8_3 * 1)) = some (.string x15_5) ∧
  callV Tryz.prog B ro a1 [.string x15_5] σ (fun v σ => ∃ (x16_6 : Bool), v = .bool x16_6 ∧
   if x16_6 = true then
    Q x8_3 σ
   else
   Y2 (IntKind.i64.wrap (x8_3 + 1)) σ)
 else
 j1_slices_IndexFunc_string_string B ro Q σ

def f_slices_IndexFunc_string_string (B : World) (ro : AH) (a0 : Sl) (a1 : Value) (σ : AH) (Q : Int → AH → Prop) : Prop :=
 lfpD (l2_slices_IndexFunc_string_string B ro a0 a1 Q ) (0) σ

set_option maxRecDepth 100000 in
set_option maxHeartbeats 4000000 in
theorem slices_IndexFunc_string_string_ok {B : World} {ro : AH} {a0 : Sl} {a1 : Value} {σ : AH} {Q : Int → AH → Prop} (h : Sep ro σ → f_slices_IndexFunc_string_string B ro a0 a1 σ Q) : c_slices_IndexFunc_string_string B ro a0 a1 σ Q := by
  refine ACalls.of_sep fun hsep => ?_
  replace h := h hsep
  refine ACalls.of_body (args := [Sl.v a0, a1]) Tryz.func107 rfl (by rw [Tryz.ntmps107]; simp) ?_
  rw [Tryz.ntmps107]
  unfold f_slices_IndexFunc_string_string at h
  refine AW.seq ?_
  refine AW.reg ?_
  refine Lp (V_asg rfl rfl) rfl rfl ?_
  refine Lnil ?_
  refine thenN ?_
  refine AW.seqJ (fun fr σ => FrLe [] fr ∧ j1_slices_IndexFunc_string_string B ro Q σ) ?_ ?_
  · rintro fr σ ⟨hl, h⟩
    refine AW.weaken ?_ hl (HLe.refl _)
    unfold j1_slices_IndexFunc_string_string at h
    refine AW.seq ?_
    refine AW.reg ?_
    refine Lp (V_asg rfl rfl) rfl rfl ?_
    refine Lnil ?_
    refine thenN ?_
    refine AW.ret ?_
    exact bR1 Tryz.results107 rfl ⟨_, rfl, h⟩
  refine AW.seq ?_
  refine AW.reg ?_
  refine Lp (V_move rfl rfl) rfl rfl ?_
  refine Lp (V_lenL rfl rfl Tryz.underlying25 rfl rfl) rfl rfl ?_
  refine Lp (V_move rfl rfl) rfl rfl ?_
  refine Lnil ?_
  refine thenN ?_
  refine AW.block ?_
  refine ARound.loop (fr' := [(0, Sl.v a0), (1, a1), (7, .int .i64 (a0.len : Int)), (8, .int .i64 0)]) ?_ (FrLe.cons rfl (FrLe.cons rfl (FrLe.cons rfl (FrLe.cons rfl (FrLe.nil _)))))
  refine h (fun x8_3 σ => ARound _ _ _ _ _ _ [(0, Sl.v a0), (1, a1), (7, .int .i64 (a0.len : Int)), (8, .int .i64 x8_3)] σ) ?_
  rintro x8_3 σ Y2 hY2 h
  show AW _ _ _ _ _ _ _ _
  unfold l2_slices_IndexFunc_string_string at h
  refine AW.seq ?_
  refine AW.reg ?_
  refine Lp (V_lss rfl rfl rfl) rfl rfl ?_
  refine Lnil ?_
  refine thenN ?_
  refine AW.seq ?_
  refine AW.iff rfl decide_eq_true_iff h (fun h => ?_) (fun h => ?_)
  rotate_left
  · refine AW.exit ?_
    refine thenE ?_
    refine thenE ?_
    refine blockE ?_
    refine thenN ?_
    exact ⟨(FrLe.nil _), h⟩
  refine AW.skip ?_
  refine thenN ?_
  refine AW.seq ?_
  refine AW.block ?_
  refine AW.seq ?_
  refine AW.reg ?_
  refine Lp (V_move rfl rfl) rfl rfl ?_
  refine Lp (V_asg rfl rfl) rfl rfl ?_
  refine Lnil ?_
  refine thenN ?_
  refine AW.seq ?_
  refine AW.reg ?_
  refine Lp (V_move rfl rfl) rfl rfl ?_
  refine Lp (V_move rfl rfl) rfl rfl ?_
  refine Lp (V_move rfl rfl) rfl rfl ?_
  obtain ⟨p14_4, ha, h0, h1, h⟩ := h
  refine Lp (V_ixA rfl Tryz.underlying25 ty9 (ixL rfl ha) rfl h0 h1) rfl rfl ?_
  obtain ⟨x15_5, hc, h⟩ := h
  refine Ls rfl rfl (X_ld rfl Tryz.underlying9 rfl rfl hc ?_)
  refine Ls rfl rfl (X_callV rfl rfl rfl (callV_mono h ?_))
  rintro v σ ⟨x16_6, rfl, h⟩
  refine Lnil ?_
  refine thenN ?_
  refine AW.iff rfl Iff.rfl h (fun h => ?_) (fun h => ?_)
  · refine AW.seq ?_
    refine AW.reg ?_
    refine Lp (V_move rfl rfl) rfl rfl ?_
    refine Lp (V_asg rfl rfl) rfl rfl ?_
    refine Lnil ?_
    refine thenN ?_
    refine AW.ret ?_
    refine blockR ?_
    refine thenR ?_
    refine thenR ?_
    refine blockR ?_
    refine thenR ?_
    exact bR1 Tryz.results107 rfl ⟨_, rfl, h⟩
  refine AW.skip ?_
  refine blockN ?_
  refine thenN ?_
  refine AW.reg ?_
  refine Lp (V_add rfl rfl rfl) rfl rfl ?_
  refine Lp (V_move rfl rfl) rfl rfl ?_
  refine Lnil ?_
  refine thenN ?_
  refine ARound.head (fr' := [(0, Sl.v a0), (1, a1), (7, .int .i64 (a0.len : Int)), (8, .int .i64 (IntKind.i64.wrap (x8_3 + 1)))]) ?_ (FrLe.cons rfl (FrLe.cons rfl (FrLe.cons rfl (FrLe.cons rfl (FrLe.nil _)))))
  exact hY2 _ _ h

def f_strings_HasPrefix (B : World) (ro : AH) (a0 : ByteArray) (a1 : ByteArray) (σ : AH) (Q : Bool → AH → Prop) : Prop :=
 c_stringslite_HasPrefix B ro a0 a1 σ fun x7_1 σ =>
 Q x7_1 σ

set_option maxRecDepth 100000 in
set_option maxHeartbeats 4000000 in
theorem strings_HasPrefix_ok {B : World} {ro : AH} {a0 : ByteArray} {a1 : ByteArray} {σ : AH} {Q : Bool → AH → Prop} (h : Sep ro σ → f_strings_HasPrefix B ro a0 a1 σ Q) : c_strings_HasPrefix B ro a0 a1 σ Q := by
  refine ACalls.of_sep fun hsep => ?_
  replace h := h hsep
  refine ACalls.of_body (args := [.string a0, .string a1]) Tryz.func110 rfl (by rw [Tryz.ntmps110]; simp) ?_
  rw [Tryz.ntmps110]
  unfold f_strings_HasPrefix at h
  refine AW.seq ?_
  refine AW.reg ?_
  refine Lp (V_asg rfl rfl) rfl rfl ?_
  refine Lnil ?_
  refine thenN ?_
  refine AW.seq ?_
  refine AW.reg ?_
  refine Lp (V_move rfl rfl) rfl rfl ?_
  refine Lp (V_move rfl rfl) rfl rfl ?_
  refine Ls rfl rfl (X_call rfl Tryz.func133 rfl rfl rfl (ACalls.mono h ?_))
  rintro v σ ⟨x7_1, rfl, h⟩
  refine Lp (V_asg rfl rfl) rfl rfl ?_
  refine Lnil ?_
  refine thenN ?_
  refine AW.ret ?_
  exact bR1 Tryz.results110 rfl ⟨_, rfl, h⟩

def f_strings_LastIndexByte (B : World) (ro : AH) (a0 : ByteArray) (a1 : Int) (σ : AH) (Q : Int → AH → Prop) : Prop :=
 c_bytealg_LastIndexByteString B ro a0 a1 σ fun x7_1 σ =>
 Q x7_1 σ

set_option maxRecDepth 100000 in
set_option maxHeartbeats 4000000 in
theorem strings_LastIndexByte_ok {B : World} {ro : AH} {a0 : ByteArray} {a1 : Int} {σ : AH} {Q : Int → AH → Prop} (h : Sep ro σ → f_strings_LastIndexByte B ro a0 a1 σ Q) : c_strings_LastIndexByte B ro a0 a1 σ Q := by
  refine ACalls.of_sep fun hsep => ?_
  replace h := h hsep
  refine ACalls.of_body (args := [.string a0, .int .u8 a1]) Tryz.func111 rfl (by rw [Tryz.ntmps111]; simp) ?_
  rw [Tryz.ntmps111]
  unfold f_strings_LastIndexByte at h
  refine AW.seq ?_
  refine AW.reg ?_
  refine Lp (V_asg rfl rfl) rfl rfl ?_
  refine Lnil ?_
  refine thenN ?_
  refine AW.seq ?_
  refine AW.reg ?_
  refine Lp (V_move rfl rfl) rfl rfl ?_
  refine Lp (V_move rfl rfl) rfl rfl ?_
  refine Ls rfl rfl (X_call rfl Tryz.func134 rfl rfl rfl (ACalls.mono h ?_))
  rintro v σ ⟨x7_1, rfl, h⟩
  refine Lp (V_asg rfl rfl) rfl rfl ?_
  refine Lnil ?_
  refine thenN ?_
  refine AW.ret ?_
  exact bR1 Tryz.results111 rfl ⟨_, rfl, h⟩

def j1_stringslite_HasPrefix (B : World) (ro : AH) (Q : Bool → AH → Prop) (x17_2 : Bool) (σ : AH) : Prop :=
 Q x17_2 σ

def f_stringslite_HasPrefix (B : World) (ro : AH) (a0 : ByteArray) (a1 : ByteArray) (σ : AH) (Q : Bool → AH → Prop) : Prop :=
 if (a1.size : Int) ≤ (a0.size : Int) then
  cutOk none (some (a1.size : Int)) a0.size a0.size ∧
  j1_stringslite_HasPrefix B ro Q (decide ((a0.extract (0) (Int.toNat (a1.size : Int))) = a1)) σ
 else
 j1_stringslite_HasPrefix B ro Q false σ

set_option maxRecDepth 100000 in
set_option maxHeartbeats 4000000 in
theorem stringslite_HasPrefix_ok {B : World} {ro : AH} {a0 : ByteArray} {a1 : ByteArray} {σ : AH} {Q : Bool → AH → Prop} (h : Sep ro σ → f_stringslite_HasPrefix B ro a0 a1 σ Q) : c_stringslite_HasPrefix B ro a0 a1 σ Q := by
  refine ACalls.of_sep fun hsep => ?_
  replace h := h hsep
  refine ACalls.of_body (args := [.string a0, .string a1]) Tryz.func133 rfl (by rw [Tryz.ntmps133]; simp) ?_
  rw [Tryz.ntmps133]
  unfold f_stringslite_HasPrefix at h
  refine AW.seq ?_
  refine AW.reg ?_
  refine Lp (V_asg rfl rfl) rfl rfl ?_
  refine Lnil ?_
  refine thenN ?_
  refine AW.seq ?_
  refine AW.reg ?_
  refine Lp (V_move rfl rfl) rfl rfl ?_
  refine Lp (V_lenS rfl rfl Tryz.underlying9 rfl rfl) rfl rfl ?_
  refine Lp (V_move rfl rfl) rfl rfl ?_
  refine Lp (V_lenS rfl rfl Tryz.underlying9 rfl rfl) rfl rfl ?_
  refine Lp (V_geq rfl rfl rfl) rfl rfl ?_
  refine Lp (V_move rfl rfl) rfl rfl ?_
  refine LsplitJ 7 (decide ((a1.size : Int) ≤ (a0.size : Int))) decide_eq_true_iff h (fun fr σ => ∃ (x17_2 : Bool), FrLe [(17, .bool x17_2)] fr ∧ j1_stringslite_HasPrefix B ro Q x17_2 σ) ?_ ?_ ?_
  · intro h e5 hk5
    refine Lypb (V_move rfl rfl) rfl rfl rfl rfl e5 ?_
    refine Lypb (V_move rfl rfl) rfl rfl rfl rfl e5 ?_
    refine Lypb (V_lenS rfl rfl Tryz.underlying9 rfl rfl) rfl rfl rfl rfl e5 ?_
    obtain ⟨hc, h⟩ := h
    refine Lypb (V_slS (lo := none) (hi := (some (a1.size : Int))) rfl Tryz.underlying9 rfl optI_none (optI_some rfl) hc) rfl rfl rfl rfl e5 ?_
    refine Lypb (V_move rfl rfl) rfl rfl rfl rfl e5 ?_
    refine Lypb (V_eqlS rfl rfl rfl) rfl rfl rfl rfl e5 ?_
    refine Lp (V_pickT rfl (evb e5) rfl) rfl rfl ?_
    exact hk5 _ _ ⟨_, (FrLe.cons rfl (FrLe.nil _)), h⟩
  · intro h e5 hk5
    refine Ln rfl rfl rfl rfl (.inl (by rw [e5]; rfl)) ?_
    refine Ln rfl rfl rfl rfl (.inl (by rw [e5]; rfl)) ?_
    refine Ln rfl rfl rfl rfl (.inl (by rw [e5]; rfl)) ?_
    refine Ln rfl rfl rfl rfl (.inl (by rw [e5]; rfl)) ?_
    refine Ln rfl rfl rfl rfl (.inl (by rw [e5]; rfl)) ?_
    refine Ln rfl rfl rfl rfl (.inl (by rw [e5]; rfl)) ?_
    refine Lp (V_pickF rfl (evb e5) rfl) rfl rfl ?_
    exact hk5 _ _ ⟨_, (FrLe.cons rfl (FrLe.nil _)), h⟩
  rintro fr σ ⟨x17_2, hl, h⟩
  unfold j1_stringslite_HasPrefix at h
  refine Lfr hl ?_
  refine Lp (V_asg rfl rfl) rfl rfl ?_
  refine Lnil ?_
  refine thenN ?_
  refine AW.ret ?_
  exact bR1 Tryz.results133 rfl ⟨_, rfl, h⟩

def j1_bytealg_LastIndexByteString (B : World) (ro : AH) (Q : Int → AH → Prop) (σ : AH) : Prop :=
 Q (-1) σ

def l2_bytealg_LastIndexByteString (B : World) (ro : AH) (a0 : ByteArray) (a1 : Int) (Q : Int → AH → Prop) : (Int) → AH → ((Int) → AH → Prop) → Prop := fun x5_3 σ Y2 =>
 if 0 ≤ x5_3 then
  ∃ x15_4 : UInt8, (0 : Int) ≤ x5_3 ∧ a0[Int.toNat x5_3]? = some x15_4 ∧
  if (x15_4.toNat : Int) = a1 then
   Q x5_3 σ
  else
  Y2 (IntKind.i64.wrap (x5_3 - 1)) σ
 else
 j1_bytealg_LastIndexByteString B ro Q σ

def f_bytealg_LastIndexByteString (B : World) (ro : AH) (a0 : ByteArray) (a1 : Int) (σ : AH) (Q : Int → AH → Prop) : Prop :=
 lfpD (l2_bytealg_LastIndexByteString B ro a0 a1 Q ) (IntKind.i64.wrap ((a0.size : Int) - 1)) σ

set_option maxRecDepth 100000 in
set_option maxHeartbeats 4000000 in
theorem bytealg_LastIndexByteString_ok {B : World} {ro : AH} {a0 : ByteArray} {a1 : Int} {σ : AH} {Q : Int → AH → Prop} (h : Sep ro σ → f_bytealg_LastIndexByteString B ro a0 a1 σ Q) : c_bytealg_LastIndexByteString B ro a0 a1 σ Q := by
  refine ACalls.of_sep fun hsep => ?_
  replace h := h hsep
  refine ACalls.of_body (args := [.string a0, .int .u8 a1]) Tryz.func134 rfl (by rw [Tryz.ntmps134]; simp) ?_
  rw [Tryz.ntmps134]
  unfold f_bytealg_LastIndexByteString at h
  refine AW.seq ?_
  refine AW.reg ?_
  refine Lp (V_asg rfl rfl) rfl rfl ?_
  refine Lnil ?_
  refine thenN ?_
  refine AW.seqJ (fun fr σ => FrLe [] fr ∧ j1_bytealg_LastIndexByteString B ro Q σ) ?_ ?_
  · rintro fr σ ⟨hl, h⟩
    refine AW.weaken ?_ hl (HLe.refl _)
    unfold j1_bytealg_LastIndexByteString at h
    refine AW.seq ?_
    refine AW.reg ?_
    refine Lp (V_asg rfl rfl) rfl rfl ?_
    refine Lnil ?_
    refine thenN ?_
    refine AW.ret ?_
    exact bR1 Tryz.results134 rfl ⟨_, rfl, h⟩
  refine AW.seq ?_
  refine AW.reg ?_
  refine Lp (V_move rfl rfl) rfl rfl ?_
  refine Lp (V_lenS rfl rfl Tryz.underlying9 rfl rfl) rfl rfl ?_
  refine Lp (V_sub rfl rfl rfl) rfl rfl ?_
  refine Lp (V_asg rfl rfl) rfl rfl ?_
  refine Lnil ?_
  refine thenN ?_
  refine AW.block ?_
  refine ARound.loop (fr' := [(0, .string a0), (1, .int .u8 a1), (5, .int .i64 (IntKind.i64.wrap ((a0.size : Int) - 1)))]) ?_ (FrLe.cons rfl (FrLe.cons rfl (FrLe.cons rfl (FrLe.nil _))))
  refine h (fun x5_3 σ => ARound _ _ _ _ _ _ [(0, .string a0), (1, .int .u8 a1), (5, .int .i64 x5_3)] σ) ?_
  rintro x5_3 σ Y2 hY2 h
  show AW _ _ _ _ _ _ _ _
  unfold l2_bytealg_LastIndexByteString at h
  refine AW.seq ?_
  refine AW.seq ?_
  refine AW.reg ?_
  refine Lp (V_move rfl rfl) rfl rfl ?_
  refine Lp (V_geq rfl rfl rfl) rfl rfl ?_
  refine Lnil ?_
  refine thenN ?_
  refine AW.iff rfl decide_eq_true_iff h (fun h => ?_) (fun h => ?_)
  rotate_left
  · refine AW.exit ?_
    refine thenE ?_
    refine thenE ?_
    refine blockE ?_
    refine thenN ?_
    exact ⟨(FrLe.nil _), h⟩
  refine AW.skip ?_
  refine thenN ?_
  refine AW.seq ?_
  refine AW.block ?_
  refine AW.seq ?_
  refine AW.reg ?_
  refine Lp (V_move rfl rfl) rfl rfl ?_
  refine Lp (V_move rfl rfl) rfl rfl ?_
  obtain ⟨x15_4, h0, hc, h⟩ := h
  refine Lp (V_idxS rfl Tryz.underlying9 rfl rfl h0 hc) rfl rfl ?_
  refine Lp (V_move rfl rfl) rfl rfl ?_
  refine Lp (V_eql rfl rfl rfl) rfl rfl ?_
  refine Lnil ?_
  refine thenN ?_
  refine AW.iff rfl decide_eq_true_iff h (fun h => ?_) (fun h => ?_)
  · refine AW.seq ?_
    refine AW.reg ?_
    refine Lp (V_move rfl rfl) rfl rfl ?_
    refine Lp (V_asg rfl rfl) rfl rfl ?_
    refine Lnil ?_
    refine thenN ?_
    refine AW.ret ?_
    refine blockR ?_
    refine thenR ?_
    refine thenR ?_
    refine blockR ?_
    refine thenR ?_
    exact bR1 Tryz.results134 rfl ⟨_, rfl, h⟩
  refine AW.skip ?_
  refine blockN ?_
  refine thenN ?_
  refine AW.reg ?_
  refine Lp (V_move rfl rfl) rfl rfl ?_
  refine Lp (V_sub rfl rfl rfl) rfl rfl ?_
  refine Lp (V_asg rfl rfl) rfl rfl ?_
  refine Lnil ?_
  refine thenN ?_
  refine ARound.head (fr' := [(0, .string a0), (1, .int .u8 a1), (5, .int .i64 (IntKind.i64.wrap (x5_3 - 1)))]) ?_ (FrLe.cons rfl (FrLe.cons rfl (FrLe.cons rfl (FrLe.nil _))))
  exact hY2 _ _ h

end Go.Proofs.YthfpmipeejjogaaGreatDoor.G
