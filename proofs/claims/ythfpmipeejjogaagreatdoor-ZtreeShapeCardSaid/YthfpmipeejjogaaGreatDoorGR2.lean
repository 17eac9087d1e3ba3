/- Functions as predicate transformers, and the proofs that the code does what they tell: printed by wip/tools/gen.py. -/
import Derived.Test.YthfpmipeejjogaaGreatDoorGC
namespace Go.Proofs.YthfpmipeejjogaaGreatDoor.G
open Go Go.Proofs.YthfpmipeejjogaaGreatDoor.SL
set_option linter.unusedVariables false
set_option linter.unusedSimpArgs false

def f_ref02_Parent (B : World) (ro : AH) (a0 : ByteArray) (σ : AH) (Q : ByteArray → Bool → AH → Prop) : Prop :=
 c_ref02_Parts B ro a0 σ fun x8_1 x8_2 σ =>
 if (¬ (x8_2 = true)) ∨ ((x8_1.len : Int) = 0) then
  Q (⟨#[]⟩ : ByteArray) false σ
 else
 cutOk none (some (IntKind.i64.wrap ((x8_1.len : Int) - 1))) x8_1.len x8_1.cap ∧
 c_ref02_Make B ro (⟨cutA x8_1.a (0) x8_1.cap 1, Int.toNat (IntKind.i64.wrap ((x8_1.len : Int) - 1)) - 0, x8_1.cap - 0⟩ : Sl) σ fun x23_3 σ =>
 Q x23_3 true σ

set_option maxRecDepth 100000 in
set_option maxHeartbeats 4000000 in
theorem ref02_Parent_ok {B : World} {ro : AH} {a0 : ByteArray} {σ : AH} {Q : ByteArray → Bool → AH → Prop} (h : Sep ro σ → f_ref02_Parent B ro a0 σ Q) : c_ref02_Parent B ro a0 σ Q := by
  refine ACalls.of_sep fun hsep => ?_
  replace h := h hsep
  refine ACalls.of_body (args := [.string a0]) Tryz.func19 rfl (by rw [Tryz.ntmps19]; simp) ?_
  rw [Tryz.ntmps19]
  unfold f_ref02_Parent at h
  refine AW.seq ?_
  refine AW.reg ?_
  refine Lp (V_asg rfl rfl) rfl rfl ?_
  refine Lp (V_asg rfl rfl) rfl rfl ?_
  refine Lnil ?_
  refine thenN ?_
  refine AW.seq ?_
  refine AW.reg ?_
  refine Lp (V_move rfl rfl) rfl rfl ?_
  refine Ls rfl rfl (X_call rfl Tryz.func64 rfl rfl rfl (ACalls.mono h ?_))
  rintro v σ ⟨x8_1, x8_2, rfl, h⟩
  refine Lp (V_move rfl rfl) rfl rfl ?_
  refine Lp (V_ext rfl rfl rfl) rfl rfl ?_
  refine Lp (V_ext rfl rfl rfl) rfl rfl ?_
  refine Lp (V_asg rfl rfl) rfl rfl ?_
  refine Lp (V_asg rfl rfl) rfl rfl ?_
  refine Lnil ?_
  refine thenN ?_
  refine AW.seq ?_
  refine AW.seq ?_
  refine AW.reg ?_
  refine Lp (V_move rfl rfl) rfl rfl ?_
  refine Lp (V_not rfl rfl) rfl rfl ?_
  refine Lp (V_move rfl rfl) rfl rfl ?_
  refine Lsplit 4 (!x8_2) [(4, Sl.v x8_1), (17, .bool ((!x8_2) || (decide ((x8_1.len : Int) = 0))))] ?_ ?_ ?_
  · intro e2 hk2
    refine Ln rfl rfl rfl rfl (.inl (by rw [e2]; rfl)) ?_
    refine Ln rfl rfl rfl rfl (.inl (by rw [e2]; rfl)) ?_
    refine Ln rfl rfl rfl rfl (.inl (by rw [e2]; rfl)) ?_
    refine Lp (V_pickT rfl (evb e2) rfl) rfl rfl ?_
    exact hk2 _ (FrLe.cons rfl (FrLe.cons (by rw [e2]; rfl) (FrLe.nil _)))
  · intro e2 hk2
    refine Lypb (V_move rfl rfl) rfl rfl rfl rfl e2 ?_
    refine Lypb (V_lenL rfl rfl Tryz.underlying25 rfl rfl) rfl rfl rfl rfl e2 ?_
    refine Lypb (V_eql rfl rfl rfl) rfl rfl rfl rfl e2 ?_
    refine Lp (V_pickF rfl (evb e2) rfl) rfl rfl ?_
    exact hk2 _ (FrLe.cons rfl (FrLe.cons (by rw [e2]; rfl) (FrLe.nil _)))
  intro fr hl
  refine Lfr hl ?_
  refine Lnil ?_
  refine thenN ?_
  refine AW.iff rfl (bor_iff (bnot_iff Iff.rfl) decide_eq_true_iff) h (fun h => ?_) (fun h => ?_)
  · refine AW.seq ?_
    refine AW.reg ?_
    refine Lp (V_asg rfl rfl) rfl rfl ?_
    refine Lp (V_asg rfl rfl) rfl rfl ?_
    refine Lnil ?_
    refine thenN ?_
    refine AW.ret ?_
    refine thenR ?_
    exact bR2 Tryz.results19 rfl rfl ⟨_, _, rfl, h⟩
  refine AW.skip ?_
  refine thenN ?_
  refine AW.seq ?_
  refine AW.reg ?_
  refine Lp (V_move rfl rfl) rfl rfl ?_
  refine Lp (V_move rfl rfl) rfl rfl ?_
  refine Lp (V_lenL rfl rfl Tryz.underlying25 rfl rfl) rfl rfl ?_
  refine Lp (V_sub rfl rfl rfl) rfl rfl ?_
  obtain ⟨hc, h⟩ := h
  refine Lp (V_slL (lo := none) (hi := (some (IntKind.i64.wrap ((x8_1.len : Int) - 1)))) rfl Tryz.underlying25 ty9 rfl optI_none (optI_some rfl) hc) rfl rfl ?_
  refine Ls rfl rfl (X_call rfl Tryz.func65 rfl rfl rfl (ACalls.mono h ?_))
  rintro v σ ⟨x23_3, rfl, h⟩
  refine Lp (V_asg rfl rfl) rfl rfl ?_
  refine Lp (V_asg rfl rfl) rfl rfl ?_
  refine Lnil ?_
  refine thenN ?_
  refine AW.ret ?_
  exact bR2 Tryz.results19 rfl rfl ⟨_, _, rfl, h⟩

def j3_ref02_Parts (B : World) (ro : AH) (Q : Sl → Bool → AH → Prop) (x4_4 : Sl) (σ : AH) : Prop :=
 if 8 < (x4_4.len : Int) then
  Q (⟨none, 0, 0⟩ : Sl) false σ
 else
 Q x4_4 true σ

def j9_ref02_Parts (B : World) (ro : AH) (a0 : ByteArray) (x6_8 : Int) (Q : Sl → Bool → AH → Prop) (Y5 : (Sl × Int × Int) → AH → Prop) (x4_10 : Sl) (x5_11 : Int) (σ : AH) : Prop :=
 Y5 (x4_10, x5_11, IntKind.i64.wrap (x6_8 + 1)) σ

def j12_ref02_Parts (B : World) (ro : AH) (a0 : ByteArray) (x4_6 : Sl) (x5_7 : Int) (x6_8 : Int) (Q : Sl → Bool → AH → Prop) (Y5 : (Sl × Int × Int) → AH → Prop) (x38_13 : Bool) (σ : AH) : Prop :=
 if x38_13 = true then
  cutOk (some x5_7) (some x6_8) a0.size a0.size ∧
  c_ref02_Name B ro (a0.extract (Int.toNat x5_7) (Int.toNat x6_8)) σ fun x43_14 σ =>
  if ¬ (x43_14 = true) then
   Q (⟨none, 0, 0⟩ : Sl) false σ
  else
  cutOk (some x5_7) (some x6_8) a0.size a0.size ∧
  nw ro σ (.cells #[.string (a0.extract (Int.toNat x5_7) (Int.toNat x6_8))] 9) fun x50_15 σ =>
  awp Tryz.prog ro (Builtin.append_ #[25, 25] 25 #[Sl.v x4_6, Sl.v (⟨some ⟨x50_15, 0, none⟩, 1, 1⟩ : Sl)]) (fun v σ => ∃ (x51_16 : Sl), v = Sl.v x51_16 ∧
   j9_ref02_Parts B ro a0 x6_8 Q Y5 x51_16 (IntKind.i64.wrap (x6_8 + 1)) σ) σ
 else
 j9_ref02_Parts B ro a0 x6_8 Q Y5 x4_6 x5_7 σ

def l5_ref02_Parts (B : World) (ro : AH) (a0 : ByteArray) (Q : Sl → Bool → AH → Prop) : (Sl × Int × Int) → AH → ((Sl × Int × Int) → AH → Prop) → Prop := fun ⟨x4_6, x5_7, x6_8⟩ σ Y5 =>
 if x6_8 ≤ (a0.size : Int) then
  if x6_8 = (a0.size : Int) then
   j12_ref02_Parts B ro a0 x4_6 x5_7 x6_8 Q Y5 true σ
  else
  ∃ x36_17 : UInt8, (0 : Int) ≤ x6_8 ∧ a0[Int.toNat x6_8]? = some x36_17 ∧
  j12_ref02_Parts B ro a0 x4_6 x5_7 x6_8 Q Y5 (decide ((x36_17.toNat : Int) = 47)) σ
 else
 j3_ref02_Parts B ro Q x4_6 σ

def j1_ref02_Parts (B : World) (ro : AH) (a0 : ByteArray) (Q : Sl → Bool → AH → Prop) (x22_2 : Bool) (σ : AH) : Prop :=
 if x22_2 = true then
  Q (⟨none, 0, 0⟩ : Sl) false σ
 else
 lfpD (l5_ref02_Parts B ro a0 Q ) ((⟨none, 0, 0⟩ : Sl), 1, 1) σ

def f_ref02_Parts (B : World) (ro : AH) (a0 : ByteArray) (σ : AH) (Q : Sl → Bool → AH → Prop) : Prop :=
 if a0 = (⟨#[47]⟩ : ByteArray) then
  Q (⟨none, 0, 0⟩ : Sl) true σ
 else
 if ((a0.size : Int) < 1) ∨ (128 < (a0.size : Int)) then
  j1_ref02_Parts B ro a0 Q true σ
 else
 ∃ x20_18 : UInt8, (0 : Int) ≤ 0 ∧ a0[Int.toNat 0]? = some x20_18 ∧
 j1_ref02_Parts B ro a0 Q (!(decide ((x20_18.toNat : Int) = 47))) σ

set_option maxRecDepth 100000 in
set_option maxHeartbeats 4000000 in
theorem ref02_Parts_ok {B : World} {ro : AH} {a0 : ByteArray} {σ : AH} {Q : Sl → Bool → AH → Prop} (h : Sep ro σ → f_ref02_Parts B ro a0 σ Q) : c_ref02_Parts B ro a0 σ Q := by
  refine ACalls.of_sep fun hsep => ?_
  replace h := h hsep
  refine ACalls.of_body (args := [.string a0]) Tryz.func64 rfl (by rw [Tryz.ntmps64]; simp) ?_
  rw [Tryz.ntmps64]
  unfold f_ref02_Parts at h
  refine AW.seq ?_
  refine AW.reg ?_
  refine Lp (V_asg rfl rfl) rfl rfl ?_
  refine Lp (V_asg rfl rfl) rfl rfl ?_
  refine Lnil ?_
  refine thenN ?_
  refine AW.seq ?_
  refine AW.reg ?_
  refine Lp (V_asg rfl rfl) rfl rfl ?_
  refine Lnil ?_
  refine thenN ?_
  refine AW.seq ?_
  refine AW.seq ?_
  refine AW.reg ?_
  refine Lp (V_move rfl rfl) rfl rfl ?_
  refine Lp (V_eqlS rfl rfl rfl) rfl rfl ?_
  refine Lnil ?_
  refine thenN ?_
  refine AW.iff rfl decide_eq_true_iff h (fun h => ?_) (fun h => ?_)
  · refine AW.seq ?_
    refine AW.reg ?_
    refine Lp (V_move rfl rfl) rfl rfl ?_
    refine Lp (V_asg rfl rfl) rfl rfl ?_
    refine Lp (V_asg rfl rfl) rfl rfl ?_
    refine Lnil ?_
    refine thenN ?_
    refine AW.ret ?_
    refine thenR ?_
    exact bR2 Tryz.results64 rfl rfl ⟨_, _, rfl, h⟩
  refine AW.skip ?_
  refine thenN ?_
  refine AW.seq ?_
  refine AW.seq ?_
  refine AW.reg ?_
  refine Lp (V_move rfl rfl) rfl rfl ?_
  refine Lp (V_lenS rfl rfl Tryz.underlying9 rfl rfl) rfl rfl ?_
  refine Lp (V_lss rfl rfl rfl) rfl rfl ?_
  refine Lp (V_move rfl rfl) rfl rfl ?_
  refine Lsplit 4 (decide ((a0.size : Int) < 1)) [(0, .string a0), (4, Sl.v (⟨none, 0, 0⟩ : Sl)), (17, .bool ((decide ((a0.size : Int) < 1)) || (decide (128 < (a0.size : Int)))))] ?_ ?_ ?_
  · intro e3 hk3
    refine Ln rfl rfl rfl rfl (.inl (by rw [e3]; rfl)) ?_
    refine Ln rfl rfl rfl rfl (.inl (by rw [e3]; rfl)) ?_
    refine Ln rfl rfl rfl rfl (.inl (by rw [e3]; rfl)) ?_
    refine Lp (V_pickT rfl (evb e3) rfl) rfl rfl ?_
    exact hk3 _ (FrLe.cons rfl (FrLe.cons rfl (FrLe.cons (by rw [e3]; rfl) (FrLe.nil _))))
  · intro e3 hk3
    refine Lypb (V_move rfl rfl) rfl rfl rfl rfl e3 ?_
    refine Lypb (V_lenS rfl rfl Tryz.underlying9 rfl rfl) rfl rfl rfl rfl e3 ?_
    refine Lypb (V_gtr rfl rfl rfl) rfl rfl rfl rfl e3 ?_
    refine Lp (V_pickF rfl (evb e3) rfl) rfl rfl ?_
    exact hk3 _ (FrLe.cons rfl (FrLe.cons rfl (FrLe.cons (by rw [e3]; rfl) (FrLe.nil _))))
  intro fr hl
  refine Lfr hl ?_
  refine Lp (V_move rfl rfl) rfl rfl ?_
  refine LsplitJ 4 ((decide ((a0.size : Int) < 1)) || (decide (128 < (a0.size : Int)))) (bor_iff decide_eq_true_iff decide_eq_true_iff) h (fun fr σ => ∃ (x22_2 : Bool), FrLe [(0, .string a0), (4, Sl.v (⟨none, 0, 0⟩ : Sl)), (22, .bool x22_2)] fr ∧ j1_ref02_Parts B ro a0 Q x22_2 σ) ?_ ?_ ?_
  · intro h e8 hk8
    refine Ln rfl rfl rfl rfl (.inl (by rw [e8]; rfl)) ?_
    refine Ln rfl rfl rfl rfl (.inl (by rw [e8]; rfl)) ?_
    refine Ln rfl rfl rfl rfl (.inl (by rw [e8]; rfl)) ?_
    refine Lp (V_pickT rfl (evb e8) rfl) rfl rfl ?_
    exact hk8 _ _ ⟨_, (FrLe.cons rfl (FrLe.cons rfl (FrLe.cons rfl (FrLe.nil _)))), h⟩
  · intro h e8 hk8
    refine Lypb (V_move rfl rfl) rfl rfl rfl rfl e8 ?_
    obtain ⟨x20_18, h0, hc, h⟩ := h
    refine Lypb (V_idxS rfl Tryz.underlying9 rfl rfl h0 hc) rfl rfl rfl rfl e8 ?_
    refine Lypb (V_neq rfl rfl rfl) rfl rfl rfl rfl e8 ?_
    refine Lp (V_pickF rfl (evb e8) rfl) rfl rfl ?_
    exact hk8 _ _ ⟨_, (FrLe.cons rfl (FrLe.cons rfl (FrLe.cons rfl (FrLe.nil _)))), h⟩
  rintro fr σ ⟨x22_2, hl, h⟩
  unfold j1_ref02_Parts at h
  refine Lfr hl ?_
  refine Lnil ?_
  refine thenN ?_
  refine AW.iff rfl Iff.rfl h (fun h => ?_) (fun h => ?_)
  · refine AW.seq ?_
    refine AW.reg ?_
    refine Lp (V_asg rfl rfl) rfl rfl ?_
    refine Lp (V_asg rfl rfl) rfl rfl ?_
    refine Lnil ?_
    refine thenN ?_
    refine AW.ret ?_
    refine thenR ?_
    exact bR2 Tryz.results64 rfl rfl ⟨_, _, rfl, h⟩
  refine AW.skip ?_
  refine thenN ?_
  refine AW.seq ?_
  refine AW.reg ?_
  refine Lp (V_asg rfl rfl) rfl rfl ?_
  refine Lnil ?_
  refine thenN ?_
  refine AW.seqJ (fun fr σ => ∃ (x4_4 : Sl), FrLe [(4, Sl.v x4_4)] fr ∧ j3_ref02_Parts B ro Q x4_4 σ) ?_ ?_
  · rintro fr σ ⟨x4_4, hl, h⟩
    refine AW.weaken ?_ hl (HLe.refl _)
    unfold j3_ref02_Parts at h
    refine AW.seq ?_
    refine AW.seq ?_
    refine AW.reg ?_
    refine Lp (V_move rfl rfl) rfl rfl ?_
    refine Lp (V_lenL rfl rfl Tryz.underlying25 rfl rfl) rfl rfl ?_
    refine Lp (V_gtr rfl rfl rfl) rfl rfl ?_
    refine Lnil ?_
    refine thenN ?_
    refine AW.iff rfl decide_eq_true_iff h (fun h => ?_) (fun h => ?_)
    · refine AW.seq ?_
      refine AW.reg ?_
      refine Lp (V_asg rfl rfl) rfl rfl ?_
      refine Lp (V_asg rfl rfl) rfl rfl ?_
      refine Lnil ?_
      refine thenN ?_
      refine AW.ret ?_
      refine thenR ?_
      exact bR2 Tryz.results64 rfl rfl ⟨_, _, rfl, h⟩
    refine AW.skip ?_
    refine thenN ?_
    refine AW.seq ?_
    refine AW.reg ?_
    refine Lp (V_move rfl rfl) rfl rfl ?_
    refine Lp (V_asg rfl rfl) rfl rfl ?_
    refine Lp (V_asg rfl rfl) rfl rfl ?_
    refine Lnil ?_
    refine thenN ?_
    refine AW.ret ?_
    exact bR2 Tryz.results64 rfl rfl ⟨_, _, rfl, h⟩
  refine AW.seq ?_
  refine AW.reg ?_
  refine Lp (V_asg rfl rfl) rfl rfl ?_
  refine Lnil ?_
  refine thenN ?_
  refine AW.block ?_
  refine ARound.loop (fr' := [(0, .string a0), (4, Sl.v (⟨none, 0, 0⟩ : Sl)), (5, .int .i64 1), (6, .int .i64 1)]) ?_ (FrLe.cons rfl (FrLe.cons rfl (FrLe.cons rfl (FrLe.cons rfl (FrLe.nil _)))))
  refine h (fun ⟨x4_6, x5_7, x6_8⟩ σ => ARound _ _ _ _ _ _ [(0, .string a0), (4, Sl.v x4_6), (5, .int .i64 x5_7), (6, .int .i64 x6_8)] σ) ?_
  rintro ⟨x4_6, x5_7, x6_8⟩ σ Y5 hY5 h
  show AW _ _ _ _ _ _ _ _
  unfold l5_ref02_Parts at h
  dsimp only at h
  refine AW.seq ?_
  refine AW.seq ?_
  refine AW.reg ?_
  refine Lp (V_move rfl rfl) rfl rfl ?_
  refine Lp (V_move rfl rfl) rfl rfl ?_
  refine Lp (V_lenS rfl rfl Tryz.underlying9 rfl rfl) rfl rfl ?_
  refine Lp (V_leq rfl rfl rfl) rfl rfl ?_
  refine Lnil ?_
  refine thenN ?_
  refine AW.iff rfl decide_eq_true_iff h (fun h => ?_) (fun h => ?_)
  rotate_left
  · refine AW.exit ?_
    refine thenE ?_
    refine thenE ?_
    refine blockE ?_
    refine thenN ?_
    exact ⟨_, (FrLe.cons rfl (FrLe.nil _)), h⟩
  refine AW.skip ?_
  refine thenN ?_
  refine AW.seqJ (fun fr σ => ∃ (x4_10 : Sl) (x5_11 : Int), FrLe [(0, .string a0), (6, .int .i64 x6_8), (4, Sl.v x4_10), (5, .int .i64 x5_11)] fr ∧ j9_ref02_Parts B ro a0 x6_8 Q Y5 x4_10 x5_11 σ) ?_ ?_
  · rintro fr σ ⟨x4_10, x5_11, hl, h⟩
    refine AW.weaken ?_ hl (HLe.refl _)
    unfold j9_ref02_Parts at h
    refine AW.reg ?_
    refine Lp (V_move rfl rfl) rfl rfl ?_
    refine Lp (V_add rfl rfl rfl) rfl rfl ?_
    refine Lp (V_asg rfl rfl) rfl rfl ?_
    refine Lnil ?_
    refine thenN ?_
    refine ARound.head (fr' := [(0, .string a0), (4, Sl.v x4_10), (5, .int .i64 x5_11), (6, .int .i64 (IntKind.i64.wrap (x6_8 + 1)))]) ?_ (FrLe.cons rfl (FrLe.cons rfl (FrLe.cons rfl (FrLe.cons rfl (FrLe.nil _)))))
    exact hY5 _ _ h
  refine AW.block ?_
  refine AW.seq ?_
  refine AW.reg ?_
  refine Lp (V_move rfl rfl) rfl rfl ?_
  refine Lp (V_move rfl rfl) rfl rfl ?_
  refine Lp (V_lenS rfl rfl Tryz.underlying9 rfl rfl) rfl rfl ?_
  refine Lp (V_eql rfl rfl rfl) rfl rfl ?_
  refine Lp (V_move rfl rfl) rfl rfl ?_
  refine LsplitJ 5 (decide (x6_8 = (a0.size : Int))) decide_eq_true_iff h (fun fr σ => ∃ (x38_13 : Bool), FrLe [(0, .string a0), (4, Sl.v x4_6), (5, .int .i64 x5_7), (6, .int .i64 x6_8), (38, .bool x38_13)] fr ∧ j12_ref02_Parts B ro a0 x4_6 x5_7 x6_8 Q Y5 x38_13 σ) ?_ ?_ ?_
  · intro h e4 hk4
    refine Ln rfl rfl rfl rfl (.inl (by rw [e4]; rfl)) ?_
    refine Ln rfl rfl rfl rfl (.inl (by rw [e4]; rfl)) ?_
    refine Ln rfl rfl rfl rfl (.inl (by rw [e4]; rfl)) ?_
    refine Ln rfl rfl rfl rfl (.inl (by rw [e4]; rfl)) ?_
    refine Lp (V_pickT rfl (evb e4) rfl) rfl rfl ?_
    exact hk4 _ _ ⟨_, (FrLe.cons rfl (FrLe.cons rfl (FrLe.cons rfl (FrLe.cons rfl (FrLe.cons rfl (FrLe.nil _)))))), h⟩
  · intro h e4 hk4
    refine Lypb (V_move rfl rfl) rfl rfl rfl rfl e4 ?_
    refine Lypb (V_move rfl rfl) rfl rfl rfl rfl e4 ?_
    obtain ⟨x36_17, h0, hc, h⟩ := h
    refine Lypb (V_idxS rfl Tryz.underlying9 rfl rfl h0 hc) rfl rfl rfl rfl e4 ?_
    refine Lypb (V_eql rfl rfl rfl) rfl rfl rfl rfl e4 ?_
    refine Lp (V_pickF rfl (evb e4) rfl) rfl rfl ?_
    exact hk4 _ _ ⟨_, (FrLe.cons rfl (FrLe.cons rfl (FrLe.cons rfl (FrLe.cons rfl (FrLe.cons rfl (FrLe.nil _)))))), h⟩
  rintro fr σ ⟨x38_13, hl, h⟩
  unfold j12_ref02_Parts at h
  refine Lfr hl ?_
  refine Lnil ?_
  refine thenN ?_
  refine AW.iff rfl Iff.rfl h (fun h => ?_) (fun h => ?_)
  rotate_left
  · refine AW.skip ?_
    refine blockN ?_
    refine thenN ?_
    exact ⟨_, _, (FrLe.cons rfl (FrLe.cons rfl (FrLe.cons rfl (FrLe.cons rfl (FrLe.nil _))))), h⟩
  refine AW.seq ?_
  refine AW.seq ?_
  refine AW.reg ?_
  refine Lp (V_move rfl rfl) rfl rfl ?_
  refine Lp (V_move rfl rfl) rfl rfl ?_
  refine Lp (V_move rfl rfl) rfl rfl ?_
  obtain ⟨hc, h⟩ := h
  refine Lp (V_slS (lo := (some x5_7)) (hi := (some x6_8)) rfl Tryz.underlying9 rfl (optI_some rfl) (optI_some rfl) hc) rfl rfl ?_
  refine Ls rfl rfl (X_call rfl Tryz.func112 rfl rfl rfl (ACalls.mono h ?_))
  rintro v σ ⟨x43_14, rfl, h⟩
  refine Lp (V_not rfl rfl) rfl rfl ?_
  refine Lnil ?_
  refine thenN ?_
  refine AW.iff rfl (bnot_iff Iff.rfl) h (fun h => ?_) (fun h => ?_)
  · refine AW.seq ?_
    refine AW.reg ?_
    refine Lp (V_asg rfl rfl) rfl rfl ?_
    refine Lp (V_asg rfl rfl) rfl rfl ?_
    refine Lnil ?_
    refine thenN ?_
    refine AW.ret ?_
    refine thenR ?_
    refine blockR ?_
    refine thenR ?_
    refine thenR ?_
    refine blockR ?_
    refine thenR ?_
    exact bR2 Tryz.results64 rfl rfl ⟨_, _, rfl, h⟩
  refine AW.skip ?_
  refine thenN ?_
  refine AW.seq ?_
  refine AW.reg ?_
  refine Lp (V_move rfl rfl) rfl rfl ?_
  refine Lp (V_move rfl rfl) rfl rfl ?_
  refine Lp (V_move rfl rfl) rfl rfl ?_
  refine Lp (V_move rfl rfl) rfl rfl ?_
  obtain ⟨hc, h⟩ := h
  refine Lp (V_slS (lo := (some x5_7)) (hi := (some x6_8)) rfl Tryz.underlying9 rfl (optI_some rfl) (optI_some rfl) hc) rfl rfl ?_
  refine Ls rfl rfl (X_new (A_bsl (vs := [(0, .string (a0.extract (Int.toNat x5_7) (Int.toNat x6_8)))]) (cs := #[.string (a0.extract (Int.toNat x5_7) (Int.toNat x6_8))]) rfl Tryz.underlying25 ty9 (by decide) rfl rfl) fun x50_15 g1 g2 => ?_)
  replace h := h x50_15 g1 g2
  refine Ls rfl rfl (X_bi (s := Builtin.append_ #[25, 25] 25 #[Sl.v x4_6, Sl.v (⟨some ⟨x50_15, 0, none⟩, 1, 1⟩ : Sl)]) rfl rfl (fun _ => rfl) (awp_mono _ h ?_))
  rintro v σ ⟨x51_16, rfl, h⟩
  refine Lp (V_asg rfl rfl) rfl rfl ?_
  refine Lnil ?_
  refine thenN ?_
  refine AW.reg ?_
  refine Lp (V_move rfl rfl) rfl rfl ?_
  refine Lp (V_add rfl rfl rfl) rfl rfl ?_
  refine Lp (V_asg rfl rfl) rfl rfl ?_
  refine Lnil ?_
  refine blockN ?_
  refine thenN ?_
  exact ⟨_, _, (FrLe.cons rfl (FrLe.cons rfl (FrLe.cons rfl (FrLe.cons rfl (FrLe.nil _))))), h⟩

def j1_ref02_Make (B : World) (ro : AH) (Q : ByteArray → AH → Prop) (x3_2 : ByteArray) (σ : AH) : Prop :=
 Q x3_2 σ

def l3_ref02_Make (B : World) (ro : AH) (a0 : Sl) (Q : ByteArray → AH → Prop) : (ByteArray × Int) → AH → ((ByteArray × Int) → AH → Prop) → Prop := fun ⟨x3_4, x4_5⟩ σ Y3 =>
 if x4_5 < (a0.len : Int) then
  ∃ p17_6 : Addr, a0.a = some p17_6 ∧ (0 : Int) ≤ x4_5 ∧ x4_5 < (a0.len : Int) ∧
  ∃ (x18_7 : ByteArray), acell ro σ (p17_6.add (Int.toNat x4_5 * 1)) = some (.string x18_7) ∧
  (⟨#[47]⟩ : ByteArray).size + x18_7.size ≤ 9223372036854775807 ∧
  x3_4.size + ((⟨#[47]⟩ : ByteArray) ++ x18_7).size ≤ 9223372036854775807 ∧
  Y3 (x3_4 ++ ((⟨#[47]⟩ : ByteArray) ++ x18_7), IntKind.i64.wrap (x4_5 + 1)) σ
 else
 j1_ref02_Make B ro Q x3_4 σ

def f_ref02_Make (B : World) (ro : AH) (a0 : Sl) (σ : AH) (Q : ByteArray → AH → Prop) : Prop :=
 if (a0.len : Int) = 0 then
  Q (⟨#[47]⟩ : ByteArray) σ
 else
 lfpD (l3_ref02_Make B ro a0 Q ) ((⟨#[]⟩ : ByteArray), 0) σ

set_option maxRecDepth 100000 in
set_option maxHeartbeats 4000000 in
theorem ref02_Make_ok {B : World} {ro : AH} {a0 : Sl} {σ : AH} {Q : ByteArray → AH → Prop} (h : Sep ro σ → f_ref02_Make B ro a0 σ Q) : c_ref02_Make B ro a0 σ Q := by
  refine ACalls.of_sep fun hsep => ?_
  replace h := h hsep
  refine ACalls.of_body (args := [Sl.v a0]) Tryz.func65 rfl (by rw [Tryz.ntmps65]; simp) ?_
  rw [Tryz.ntmps65]
  unfold f_ref02_Make at h
  refine AW.seq ?_
  refine AW.reg ?_
  refine Lp (V_asg rfl rfl) rfl rfl ?_
  refine Lnil ?_
  refine thenN ?_
  refine AW.seq ?_
  refine AW.seq ?_
  refine AW.reg ?_
  refine Lp (V_move rfl rfl) rfl rfl ?_
  refine Lp (V_lenL rfl rfl Tryz.underlying25 rfl rfl) rfl rfl ?_
  refine Lp (V_eql rfl rfl rfl) rfl rfl ?_
  refine Lnil ?_
  refine thenN ?_
  refine AW.iff rfl decide_eq_true_iff h (fun h => ?_) (fun h => ?_)
  · refine AW.seq ?_
    refine AW.reg ?_
    refine Lp (V_asg rfl rfl) rfl rfl ?_
    refine Lnil ?_
    refine thenN ?_
    refine AW.ret ?_
    refine thenR ?_
    exact bR1 Tryz.results65 rfl ⟨_, rfl, h⟩
  refine AW.skip ?_
  refine thenN ?_
  refine AW.seq ?_
  refine AW.reg ?_
  refine Lp (V_asg rfl rfl) rfl rfl ?_
  refine Lnil ?_
  refine thenN ?_
  refine AW.seqJ (fun fr σ => ∃ (x3_2 : ByteArray), FrLe [(3, .string x3_2)] fr ∧ j1_ref02_Make B ro Q x3_2 σ) ?_ ?_
  · rintro fr σ ⟨x3_2, hl, h⟩
    refine AW.weaken ?_ hl (HLe.refl _)
    unfold j1_ref02_Make at h
    refine AW.seq ?_
    refine AW.reg ?_
    refine Lp (V_move rfl rfl) rfl rfl ?_
    refine Lp (V_asg rfl rfl) rfl rfl ?_
    refine Lnil ?_
    refine thenN ?_
    refine AW.ret ?_
    exact bR1 Tryz.results65 rfl ⟨_, rfl, h⟩
  refine AW.seq ?_
  refine AW.reg ?_
  refine Lp (V_asg rfl rfl) rfl rfl ?_
  refine Lnil ?_
  refine thenN ?_
  refine AW.block ?_
  refine ARound.loop (fr' := [(0, Sl.v a0), (3, .string (⟨#[]⟩ : ByteArray)), (4, .int .i64 0)]) ?_ (FrLe.cons rfl (FrLe.cons rfl (FrLe.cons rfl (FrLe.nil _))))
  refine h (fun ⟨x3_4, x4_5⟩ σ => ARound _ _ _ _ _ _ [(0, Sl.v a0), (3, .string x3_4), (4, .int .i64 x4_5)] σ) ?_
  rintro ⟨x3_4, x4_5⟩ σ Y3 hY3 h
  show AW _ _ _ _ _ _ _ _
  unfold l3_ref02_Make at h
  dsimp only at h
  refine AW.seq ?_
  refine AW.seq ?_
  refine AW.reg ?_
  refine Lp (V_move rfl rfl) rfl rfl ?_
  refine Lp (V_move rfl rfl) rfl rfl ?_
  refine Lp (V_lenL rfl rfl Tryz.underlying25 rfl rfl) rfl rfl ?_
  refine Lp (V_lss rfl rfl rfl) rfl rfl ?_
  refine Lnil ?_
  refine thenN ?_
  refine AW.iff rfl decide_eq_true_iff h (fun h => ?_) (fun h => ?_)
  rotate_left
  · refine AW.exit ?_
    refine thenE ?_
    refine thenE ?_
    refine blockE ?_
    refine thenN ?_
    exact ⟨_, (FrLe.cons rfl (FrLe.nil _)), h⟩
  refine AW.skip ?_
  refine thenN ?_
  refine AW.seq ?_
  refine AW.block ?_
  refine AW.reg ?_
  refine Lp (V_move rfl rfl) rfl rfl ?_
  refine Lp (V_move rfl rfl) rfl rfl ?_
  refine Lp (V_move rfl rfl) rfl rfl ?_
  obtain ⟨p17_6, ha, h0, h1, h⟩ := h
  refine Lp (V_ixA rfl Tryz.underlying25 ty9 (ixL rfl ha) rfl h0 h1) rfl rfl ?_
  obtain ⟨x18_7, hc, h⟩ := h
  refine Ls rfl rfl (X_ld rfl Tryz.underlying9 rfl rfl hc ?_)
  obtain ⟨hc, h⟩ := h
  refine Lp (V_cat rfl rfl rfl hc) rfl rfl ?_
  obtain ⟨hc, h⟩ := h
  refine Lp (V_cat rfl rfl rfl hc) rfl rfl ?_
  refine Lp (V_asg rfl rfl) rfl rfl ?_
  refine Lnil ?_
  refine blockN ?_
  refine thenN ?_
  refine AW.reg ?_
  refine Lp (V_move rfl rfl) rfl rfl ?_
  refine Lp (V_add rfl rfl rfl) rfl rfl ?_
  refine Lp (V_asg rfl rfl) rfl rfl ?_
  refine Lnil ?_
  refine thenN ?_
  refine ARound.head (fr' := [(0, Sl.v a0), (3, .string (x3_4 ++ ((⟨#[47]⟩ : ByteArray) ++ x18_7))), (4, .int .i64 (IntKind.i64.wrap (x4_5 + 1)))]) ?_ (FrLe.cons rfl (FrLe.cons rfl (FrLe.cons rfl (FrLe.nil _))))
  exact hY3 _ _ h

def j1_ref02_Name (B : World) (ro : AH) (Q : Bool → AH → Prop) (σ : AH) : Prop :=
 Q true σ

def j5_ref02_Name (B : World) (ro : AH) (a0 : ByteArray) (x3_3 : Int) (x29_4 : UInt8) (Q : Bool → AH → Prop) (Y2 : (Int) → AH → Prop) (x43_6 : Bool) (σ : AH) : Prop :=
 if ¬ ((((x43_6 = true) ∨ ((x29_4.toNat : Int) = 46)) ∨ ((x29_4.toNat : Int) = 95)) ∨ ((x29_4.toNat : Int) = 45)) then
  Q false σ
 else
 Y2 (IntKind.i64.wrap (x3_3 + 1)) σ

def l2_ref02_Name (B : World) (ro : AH) (a0 : ByteArray) (Q : Bool → AH → Prop) : (Int) → AH → ((Int) → AH → Prop) → Prop := fun x3_3 σ Y2 =>
 if x3_3 < (a0.size : Int) then
  ∃ x29_4 : UInt8, (0 : Int) ≤ x3_3 ∧ a0[Int.toNat x3_3]? = some x29_4 ∧
  if (97 ≤ (x29_4.toNat : Int)) ∧ ((x29_4.toNat : Int) ≤ 122) then
   j5_ref02_Name B ro a0 x3_3 x29_4 Q Y2 true σ
  else
  j5_ref02_Name B ro a0 x3_3 x29_4 Q Y2 ((decide (48 ≤ (x29_4.toNat : Int))) && (decide ((x29_4.toNat : Int) ≤ 57))) σ
 else
 j1_ref02_Name B ro Q σ

def f_ref02_Name (B : World) (ro : AH) (a0 : ByteArray) (σ : AH) (Q : Bool → AH → Prop) : Prop :=
 if ((((a0.size : Int) < 1) ∨ (32 < (a0.size : Int))) ∨ (a0 = (⟨#[46]⟩ : ByteArray))) ∨ (a0 = (⟨#[46, 46]⟩ : ByteArray)) then
  Q false σ
 else
 lfpD (l2_ref02_Name B ro a0 Q ) (0) σ

set_option maxRecDepth 100000 in
set_option maxHeartbeats 4000000 in
theorem ref02_Name_ok {B : World} {ro : AH} {a0 : ByteArray} {σ : AH} {Q : Bool → AH → Prop} (h : Sep ro σ → f_ref02_Name B ro a0 σ Q) : c_ref02_Name B ro a0 σ Q := by
  refine ACalls.of_sep fun hsep => ?_
  replace h := h hsep
  refine ACalls.of_body (args := [.string a0]) Tryz.func112 rfl (by rw [Tryz.ntmps112]; simp) ?_
  rw [Tryz.ntmps112]
  unfold f_ref02_Name at h
  refine AW.seq ?_
  refine AW.reg ?_
  refine Lp (V_asg rfl rfl) rfl rfl ?_
  refine Lnil ?_
  refine thenN ?_
  refine AW.seq ?_
  refine AW.seq ?_
  refine AW.reg ?_
  refine Lp (V_move rfl rfl) rfl rfl ?_
  refine Lp (V_lenS rfl rfl Tryz.underlying9 rfl rfl) rfl rfl ?_
  refine Lp (V_lss rfl rfl rfl) rfl rfl ?_
  refine Lp (V_move rfl rfl) rfl rfl ?_
  refine Lsplit 4 (decide ((a0.size : Int) < 1)) [(0, .string a0), (12, .bool ((decide ((a0.size : Int) < 1)) || (decide (32 < (a0.size : Int)))))] ?_ ?_ ?_
  · intro e3 hk3
    refine Ln rfl rfl rfl rfl (.inl (by rw [e3]; rfl)) ?_
    refine Ln rfl rfl rfl rfl (.inl (by rw [e3]; rfl)) ?_
    refine Ln rfl rfl rfl rfl (.inl (by rw [e3]; rfl)) ?_
    refine Lp (V_pickT rfl (evb e3) rfl) rfl rfl ?_
    exact hk3 _ (FrLe.cons rfl (FrLe.cons (by rw [e3]; rfl) (FrLe.nil _)))
  · intro e3 hk3
    refine Lypb (V_move rfl rfl) rfl rfl rfl rfl e3 ?_
    refine Lypb (V_lenS rfl rfl Tryz.underlying9 rfl rfl) rfl rfl rfl rfl e3 ?_
    refine Lypb (V_gtr rfl rfl rfl) rfl rfl rfl rfl e3 ?_
    refine Lp (V_pickF rfl (evb e3) rfl) rfl rfl ?_
    exact hk3 _ (FrLe.cons rfl (FrLe.cons (by rw [e3]; rfl) (FrLe.nil _)))
  intro fr hl
  refine Lfr hl ?_
  refine Lp (V_move rfl rfl) rfl rfl ?_
  refine Lsplit 3 ((decide ((a0.size : Int) < 1)) || (decide (32 < (a0.size : Int)))) [(0, .string a0), (16, .bool (((decide ((a0.size : Int) < 1)) || (decide (32 < (a0.size : Int)))) || (decide (a0 = (⟨#[46]⟩ : ByteArray)))))] ?_ ?_ ?_
  · intro e8 hk8
    refine Ln rfl rfl rfl rfl (.inl (by rw [e8]; rfl)) ?_
    refine Ln rfl rfl rfl rfl (.inl (by rw [e8]; rfl)) ?_
    refine Lp (V_pickT rfl (evb e8) rfl) rfl rfl ?_
    exact hk8 _ (FrLe.cons rfl (FrLe.cons (by rw [e8]; rfl) (FrLe.nil _)))
  · intro e8 hk8
    refine Lypb (V_move rfl rfl) rfl rfl rfl rfl e8 ?_
    refine Lypb (V_eqlS rfl rfl rfl) rfl rfl rfl rfl e8 ?_
    refine Lp (V_pickF rfl (evb e8) rfl) rfl rfl ?_
    exact hk8 _ (FrLe.cons rfl (FrLe.cons (by rw [e8]; rfl) (FrLe.nil _)))
  intro fr hl
  refine Lfr hl ?_
  refine Lp (V_move rfl rfl) rfl rfl ?_
  refine Lsplit 3 (((decide ((a0.size : Int) < 1)) || (decide (32 < (a0.size : Int)))) || (decide (a0 = (⟨#[46]⟩ : ByteArray)))) [(0, .string a0), (20, .bool ((((decide ((a0.size : Int) < 1)) || (decide (32 < (a0.size : Int)))) || (decide (a0 = (⟨#[46]⟩ : ByteArray)))) || (decide (a0 = (⟨#[46, 46]⟩ : ByteArray)))))] ?_ ?_ ?_
  · intro e12 hk12
    refine Ln rfl rfl rfl rfl (.inl (by rw [e12]; rfl)) ?_
    refine Ln rfl rfl rfl rfl (.inl (by rw [e12]; rfl)) ?_
    refine Lp (V_pickT rfl (evb e12) rfl) rfl rfl ?_
    exact hk12 _ (FrLe.cons rfl (FrLe.cons (by rw [e12]; rfl) (FrLe.nil _)))
  · intro e12 hk12
    refine Lypb (V_move rfl rfl) rfl rfl rfl rfl e12 ?_
    refine Lypb (V_eqlS rfl rfl rfl) rfl rfl rfl rfl e12 ?_
    refine Lp (V_pickF rfl (evb e12) rfl) rfl rfl ?_
    exact hk12 _ (FrLe.cons rfl (FrLe.cons (by rw [e12]; rfl) (FrLe.nil _)))
  intro fr hl
  refine Lfr hl ?_
  refine Lnil ?_
  refine thenN ?_
  refine AW.iff rfl (bor_iff (bor_iff (bor_iff decide_eq_true_iff decide_eq_true_iff) decide_eq_true_iff) decide_eq_true_iff) h (fun h => ?_) (fun h => ?_)
  · refine AW.seq ?_
    refine AW.reg ?_
    refine Lp (V_asg rfl rfl) rfl rfl ?_
    refine Lnil ?_
    refine thenN ?_
    refine AW.ret ?_
    refine thenR ?_
    exact bR1 Tryz.results112 rfl ⟨_, rfl, h⟩
  refine AW.skip ?_
  refine thenN ?_
  refine AW.seqJ (fun fr σ => FrLe [] fr ∧ j1_ref02_Name B ro Q σ) ?_ ?_
  · rintro fr σ ⟨hl, h⟩
    refine AW.weaken ?_ hl (HLe.refl _)
    unfold j1_ref02_Name at h
    refine AW.seq ?_
    refine AW.reg ?_
    refine Lp (V_asg rfl rfl) rfl rfl ?_
    refine Lnil ?_
    refine thenN ?_
    refine AW.ret ?_
    exact bR1 Tryz.results112 rfl ⟨_, rfl, h⟩
  refine AW.seq ?_
  refine AW.reg ?_
  refine Lp (V_asg rfl rfl) rfl rfl ?_
  refine Lnil ?_
  refine thenN ?_
  refine AW.block ?_
  refine ARound.loop (fr' := [(0, .string a0), (3, .int .i64 0)]) ?_ (FrLe.cons rfl (FrLe.cons rfl (FrLe.nil _)))
  refine h (fun x3_3 σ => ARound _ _ _ _ _ _ [(0, .string a0), (3, .int .i64 x3_3)] σ) ?_
  rintro x3_3 σ Y2 hY2 h
  show AW _ _ _ _ _ _ _ _
  unfold l2_ref02_Name at h
  refine AW.seq ?_
  refine AW.seq ?_
  refine AW.reg ?_
  refine Lp (V_move rfl rfl) rfl rfl ?_
  refine Lp (V_move rfl rfl) rfl rfl ?_
  refine Lp (V_lenS rfl rfl Tryz.underlying9 rfl rfl) rfl rfl ?_
  refine Lp (V_lss rfl rfl rfl) rfl rfl ?_
  refine Lnil ?_
  refine thenN ?_
  refine AW.iff rfl decide_eq_true_iff h (fun h => ?_) (fun h => ?_)
  rotate_left
  · refine AW.exit ?_
    refine thenE ?_
    refine thenE ?_
    refine blockE ?_
    refine thenN ?_
    exact ⟨(FrLe.nil _), h⟩
  refine AW.skip ?_
  refine thenN ?_
  refine AW.seq ?_
  refine AW.block ?_
  refine AW.seq ?_
  refine AW.reg ?_
  refine Lp (V_move rfl rfl) rfl rfl ?_
  refine Lp (V_move rfl rfl) rfl rfl ?_
  obtain ⟨x29_4, h0, hc, h⟩ := h
  refine Lp (V_idxS rfl Tryz.underlying9 rfl rfl h0 hc) rfl rfl ?_
  refine Lp (V_asg rfl rfl) rfl rfl ?_
  refine Lnil ?_
  refine thenN ?_
  refine AW.seq ?_
  refine AW.reg ?_
  refine Lp (V_move rfl rfl) rfl rfl ?_
  refine Lp (V_geq rfl rfl rfl) rfl rfl ?_
  refine Lp (V_move rfl rfl) rfl rfl ?_
  refine Lsplit 3 (decide (97 ≤ (x29_4.toNat : Int))) [(0, .string a0), (3, .int .i64 x3_3), (4, .int .u8 (x29_4.toNat : Int)), (35, .bool ((decide (97 ≤ (x29_4.toNat : Int))) && (decide ((x29_4.toNat : Int) ≤ 122))))] ?_ ?_ ?_
  · intro e2 hk2
    refine Lypb (V_move rfl rfl) rfl rfl rfl rfl e2 ?_
    refine Lypb (V_leq rfl rfl rfl) rfl rfl rfl rfl e2 ?_
    refine Lp (V_pickT rfl (evb e2) rfl) rfl rfl ?_
    exact hk2 _ (FrLe.cons rfl (FrLe.cons rfl (FrLe.cons rfl (FrLe.cons (by rw [e2]; rfl) (FrLe.nil _)))))
  · intro e2 hk2
    refine Ln rfl rfl rfl rfl (.inl (by rw [e2]; rfl)) ?_
    refine Ln rfl rfl rfl rfl (.inl (by rw [e2]; rfl)) ?_
    refine Lp (V_pickF rfl (evb e2) rfl) rfl rfl ?_
    exact hk2 _ (FrLe.cons rfl (FrLe.cons rfl (FrLe.cons rfl (FrLe.cons (by rw [e2]; rfl) (FrLe.nil _)))))
  intro fr hl
  refine Lfr hl ?_
  refine Lp (V_move rfl rfl) rfl rfl ?_
  refine LsplitJ 7 ((decide (97 ≤ (x29_4.toNat : Int))) && (decide ((x29_4.toNat : Int) ≤ 122))) (band_iff decide_eq_true_iff decide_eq_true_iff) h (fun fr σ => ∃ (x43_6 : Bool), FrLe [(0, .string a0), (3, .int .i64 x3_3), (4, .int .u8 (x29_4.toNat : Int)), (43, .bool x43_6)] fr ∧ j5_ref02_Name B ro a0 x3_3 x29_4 Q Y2 x43_6 σ) ?_ ?_ ?_
  · intro h e6 hk6
    refine Ln rfl rfl rfl rfl (.inl (by rw [e6]; rfl)) ?_
    refine Ln rfl rfl rfl rfl (.inl (by rw [e6]; rfl)) ?_
    refine Ln rfl rfl rfl rfl (.inl (by rw [e6]; rfl)) ?_
    refine Ln rfl rfl rfl rfl (.inr rfl) ?_
    refine Ln rfl rfl rfl rfl (.inr rfl) ?_
    refine Ln rfl rfl rfl rfl (.inl (by rw [e6]; rfl)) ?_
    refine Lp (V_pickT rfl (evb e6) rfl) rfl rfl ?_
    exact hk6 _ _ ⟨_, (FrLe.cons rfl (FrLe.cons rfl (FrLe.cons rfl (FrLe.cons rfl (FrLe.nil _))))), h⟩
  · intro h e6 hk6
    refine Lypb (V_move rfl rfl) rfl rfl rfl rfl e6 ?_
    refine Lypb (V_geq rfl rfl rfl) rfl rfl rfl rfl e6 ?_
    refine Lypb (V_move rfl rfl) rfl rfl rfl rfl e6 ?_
    refine Lsplit 3 (decide (48 ≤ (x29_4.toNat : Int))) [(0, .string a0), (3, .int .i64 x3_3), (4, .int .u8 (x29_4.toNat : Int)), (36, .bool ((decide (97 ≤ (x29_4.toNat : Int))) && (decide ((x29_4.toNat : Int) ≤ 122)))), (42, .bool ((decide (48 ≤ (x29_4.toNat : Int))) && (decide ((x29_4.toNat : Int) ≤ 57))))] ?_ ?_ ?_
    · intro e9 hk9
      refine Lypb (V_move rfl rfl) rfl rfl rfl rfl e9 ?_
      refine Lypb (V_leq rfl rfl rfl) rfl rfl rfl rfl e9 ?_
      refine Lypb (V_pickT rfl (evb e9) rfl) rfl rfl rfl rfl e6 ?_
      exact hk9 _ (FrLe.cons rfl (FrLe.cons rfl (FrLe.cons rfl (FrLe.cons rfl (FrLe.cons (by rw [e9]; rfl) (FrLe.nil _))))))
    · intro e9 hk9
      refine Ln rfl rfl rfl rfl (.inl (by rw [e9]; rfl)) ?_
      refine Ln rfl rfl rfl rfl (.inl (by rw [e9]; rfl)) ?_
      refine Lypb (V_pickF rfl (evb e9) rfl) rfl rfl rfl rfl e6 ?_
      exact hk9 _ (FrLe.cons rfl (FrLe.cons rfl (FrLe.cons rfl (FrLe.cons rfl (FrLe.cons (by rw [e9]; rfl) (FrLe.nil _))))))
    intro fr hl
    refine Lfr hl ?_
    refine Lp (V_pickF rfl (evb e6) rfl) rfl rfl ?_
    exact hk6 _ _ ⟨_, (FrLe.cons rfl (FrLe.cons rfl (FrLe.cons rfl (FrLe.cons rfl (FrLe.nil _))))), h⟩
  rintro fr σ ⟨x43_6, hl, h⟩
  unfold j5_ref02_Name at h
  refine Lfr hl ?_
  refine Lp (V_move rfl rfl) rfl rfl ?_
  refine Lsplit 3 x43_6 [(0, .string a0), (3, .int .i64 x3_3), (4, .int .u8 (x29_4.toNat : Int)), (47, .bool (x43_6 || (decide ((x29_4.toNat : Int) = 46))))] ?_ ?_ ?_
  · intro e14 hk14
    refine Ln rfl rfl rfl rfl (.inl (by rw [e14]; rfl)) ?_
    refine Ln rfl rfl rfl rfl (.inl (by rw [e14]; rfl)) ?_
    refine Lp (V_pickT rfl (evb e14) rfl) rfl rfl ?_
    exact hk14 _ (FrLe.cons rfl (FrLe.cons rfl (FrLe.cons rfl (FrLe.cons (by rw [e14]; rfl) (FrLe.nil _)))))
  · intro e14 hk14
    refine Lypb (V_move rfl rfl) rfl rfl rfl rfl e14 ?_
    refine Lypb (V_eql rfl rfl rfl) rfl rfl rfl rfl e14 ?_
    refine Lp (V_pickF rfl (evb e14) rfl) rfl rfl ?_
    exact hk14 _ (FrLe.cons rfl (FrLe.cons rfl (FrLe.cons rfl (FrLe.cons (by rw [e14]; rfl) (FrLe.nil _)))))
  intro fr hl
  refine Lfr hl ?_
  refine Lp (V_move rfl rfl) rfl rfl ?_
  refine Lsplit 3 (x43_6 || (decide ((x29_4.toNat : Int) = 46))) [(0, .string a0), (3, .int .i64 x3_3), (4, .int .u8 (x29_4.toNat : Int)), (51, .bool ((x43_6 || (decide ((x29_4.toNat : Int) = 46))) || (decide ((x29_4.toNat : Int) = 95))))] ?_ ?_ ?_
  · intro e18 hk18
    refine Ln rfl rfl rfl rfl (.inl (by rw [e18]; rfl)) ?_
    refine Ln rfl rfl rfl rfl (.inl (by rw [e18]; rfl)) ?_
    refine Lp (V_pickT rfl (evb e18) rfl) rfl rfl ?_
    exact hk18 _ (FrLe.cons rfl (FrLe.cons rfl (FrLe.cons rfl (FrLe.cons (by rw [e18]; rfl) (FrLe.nil _)))))
  · intro e18 hk18
    refine Lypb (V_move rfl rfl) rfl rfl rfl rfl e18 ?_
    refine Lypb (V_eql rfl rfl rfl) rfl rfl rfl rfl e18 ?_
    refine Lp (V_pickF rfl (evb e18) rfl) rfl rfl ?_
    exact hk18 _ (FrLe.cons rfl (FrLe.cons rfl (FrLe.cons rfl (FrLe.cons (by rw [e18]; rfl) (FrLe.nil _)))))
  intro fr hl
  refine Lfr hl ?_
  refine Lp (V_move rfl rfl) rfl rfl ?_
  refine Lsplit 3 ((x43_6 || (decide ((x29_4.toNat : Int) = 46))) || (decide ((x29_4.toNat : Int) = 95))) [(0, .string a0), (3, .int .i64 x3_3), (55, .bool (((x43_6 || (decide ((x29_4.toNat : Int) = 46))) || (decide ((x29_4.toNat : Int) = 95))) || (decide ((x29_4.toNat : Int) = 45))))] ?_ ?_ ?_
  · intro e22 hk22
    refine Ln rfl rfl rfl rfl (.inl (by rw [e22]; rfl)) ?_
    refine Ln rfl rfl rfl rfl (.inl (by rw [e22]; rfl)) ?_
    refine Lp (V_pickT rfl (evb e22) rfl) rfl rfl ?_
    exact hk22 _ (FrLe.cons rfl (FrLe.cons rfl (FrLe.cons (by rw [e22]; rfl) (FrLe.nil _))))
  · intro e22 hk22
    refine Lypb (V_move rfl rfl) rfl rfl rfl rfl e22 ?_
    refine Lypb (V_eql rfl rfl rfl) rfl rfl rfl rfl e22 ?_
    refine Lp (V_pickF rfl (evb e22) rfl) rfl rfl ?_
    exact hk22 _ (FrLe.cons rfl (FrLe.cons rfl (FrLe.cons (by rw [e22]; rfl) (FrLe.nil _))))
  intro fr hl
  refine Lfr hl ?_
  refine Lp (V_not rfl rfl) rfl rfl ?_
  refine Lnil ?_
  refine thenN ?_
  refine AW.iff rfl (bnot_iff (bor_iff (bor_iff (bor_iff Iff.rfl decide_eq_true_iff) decide_eq_true_iff) decide_eq_true_iff)) h (fun h => ?_) (fun h => ?_)
  · refine AW.seq ?_
    refine AW.reg ?_
    refine Lp (V_asg rfl rfl) rfl rfl ?_
    refine Lnil ?_
    refine thenN ?_
    refine AW.ret ?_
    refine blockR ?_
    refine thenR ?_
    refine thenR ?_
    refine blockR ?_
    refine thenR ?_
    exact bR1 Tryz.results112 rfl ⟨_, rfl, h⟩
  refine AW.skip ?_
  refine blockN ?_
  refine thenN ?_
  refine AW.reg ?_
  refine Lp (V_move rfl rfl) rfl rfl ?_
  refine Lp (V_add rfl rfl rfl) rfl rfl ?_
  refine Lp (V_asg rfl rfl) rfl rfl ?_
  refine Lnil ?_
  refine thenN ?_
  refine ARound.head (fr' := [(0, .string a0), (3, .int .i64 (IntKind.i64.wrap (x3_3 + 1)))]) ?_ (FrLe.cons rfl (FrLe.cons rfl (FrLe.nil _)))
  exact hY2 _ _ h

end Go.Proofs.YthfpmipeejjogaaGreatDoor.G
