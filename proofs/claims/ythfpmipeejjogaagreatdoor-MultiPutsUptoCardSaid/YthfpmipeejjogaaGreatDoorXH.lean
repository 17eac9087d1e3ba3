/- GR1, ZtL, ZtV, ZtS, Mem3, Mem4 -/
import Derived.Test.YthfpmipeejjogaaGreatDoorXG
/- Functions as predicate transformers, and the proofs that the code does what they tell: printed by wip/tools/gen.py. -/
namespace Go.Proofs.YthfpmipeejjogaaGreatDoor.G
open Go Go.Proofs.YthfpmipeejjogaaGreatDoor.SL
set_option linter.unusedVariables false
set_option linter.unusedSimpArgs false

def f_ref01_Copy (B : World) (ro : AH) (a0 : Sl) (σ : AH) (Q : Sl → AH → Prop) : Prop :=
 nw ro σ (.cells #[Sl.v a0] 30) fun x4_1 σ =>
 c_ref01_Join B ro (⟨some ⟨x4_1, 0, none⟩, 1, 1⟩ : Sl) σ fun x5_2 σ =>
 Q x5_2 σ

set_option maxRecDepth 100000 in
set_option maxHeartbeats 4000000 in
theorem ref01_Copy_ok {B : World} {ro : AH} {a0 : Sl} {σ : AH} {Q : Sl → AH → Prop} (h : Sep ro σ → f_ref01_Copy B ro a0 σ Q) : c_ref01_Copy B ro a0 σ Q := by
  refine ACalls.of_sep fun hsep => ?_
  replace h := h hsep
  refine ACalls.of_body (args := [Sl.v a0]) Tryz.func23 rfl (by rw [Tryz.ntmps23]; simp) ?_
  rw [Tryz.ntmps23]
  unfold f_ref01_Copy at h
  refine AW.seq ?_
  refine AW.reg ?_
  refine Lp (V_asg rfl rfl) rfl rfl ?_
  refine Lnil ?_
  refine thenN ?_
  refine AW.seq ?_
  refine AW.reg ?_
  refine Lp (V_move rfl rfl) rfl rfl ?_
  refine Ls rfl rfl (X_new (A_bsl (vs := [(0, Sl.v a0)]) (cs := #[Sl.v a0]) rfl Tryz.underlying208 ty30 (by decide) rfl rfl) fun x4_1 g1 g2 => ?_)
  replace h := h x4_1 g1 g2
  refine Ls rfl rfl (X_call rfl Tryz.func72 rfl rfl rfl (ACalls.mono h ?_))
  rintro v σ ⟨x5_2, rfl, h⟩
  refine Lp (V_asg rfl rfl) rfl rfl ?_
  refine Lnil ?_
  refine thenN ?_
  refine AW.ret ?_
  exact bR1 Tryz.results23 rfl ⟨_, rfl, h⟩

def f_ref01_Same (B : World) (ro : AH) (a0 : Sl) (a1 : Sl) (σ : AH) (Q : Bool → AH → Prop) : Prop :=
 awp Tryz.prog ro (convert 30 9 (Sl.v a0)) (fun v σ =>
  (∃ (x6_1 : ByteArray), v = .string x6_1 ∧
   awp Tryz.prog ro (convert 30 9 (Sl.v a1)) (fun v σ =>
    (∃ (x8_2 : ByteArray), v = .string x8_2 ∧
     Q (decide (x6_1 = x8_2)) σ)) σ)) σ

set_option maxRecDepth 100000 in
set_option maxHeartbeats 4000000 in
theorem ref01_Same_ok {B : World} {ro : AH} {a0 : Sl} {a1 : Sl} {σ : AH} {Q : Bool → AH → Prop} (h : Sep ro σ → f_ref01_Same B ro a0 a1 σ Q) : c_ref01_Same B ro a0 a1 σ Q := by
  refine ACalls.of_sep fun hsep => ?_
  replace h := h hsep
  refine ACalls.of_body (args := [Sl.v a0, Sl.v a1]) Tryz.func26 rfl (by rw [Tryz.ntmps26]; simp) ?_
  rw [Tryz.ntmps26]
  unfold f_ref01_Same at h
  refine AW.seq ?_
  refine AW.reg ?_
  refine Lp (V_asg rfl rfl) rfl rfl ?_
  refine Lnil ?_
  refine thenN ?_
  refine AW.seq ?_
  refine AW.reg ?_
  refine Lp (V_move rfl rfl) rfl rfl ?_
  refine Ls rfl rfl (X_cvt rfl rfl (awp_mono _ h ?_))
  rintro v σ ⟨x6_1, rfl, h⟩
  refine Lp (V_move rfl rfl) rfl rfl ?_
  refine Ls rfl rfl (X_cvt rfl rfl (awp_mono _ h ?_))
  rintro v σ ⟨x8_2, rfl, h⟩
  refine Lp (V_eqlS rfl rfl rfl) rfl rfl ?_
  refine Lp (V_asg rfl rfl) rfl rfl ?_
  refine Lnil ?_
  refine thenN ?_
  refine AW.ret ?_
  exact bR1 Tryz.results26 rfl ⟨_, rfl, h⟩

def j2_ref01_Join (B : World) (ro : AH) (Q : Sl → AH → Prop) (x3_3 : Sl) (σ : AH) : Prop :=
 Q x3_3 σ

def l4_ref01_Join (B : World) (ro : AH) (a0 : Sl) (Q : Sl → AH → Prop) : (Sl × Int) → AH → ((Sl × Int) → AH → Prop) → Prop := fun ⟨x3_5, x4_6⟩ σ Y4 =>
 if x4_6 < (a0.len : Int) then
  ∃ p15_7 : Addr, a0.a = some p15_7 ∧ (0 : Int) ≤ x4_6 ∧ x4_6 < (a0.len : Int) ∧
  ∃ (x16_8 : Sl), acell ro σ (p15_7.add (Int.toNat x4_6 * 1)) = some (Sl.v x16_8) ∧
  awp Tryz.prog ro (Builtin.append_ #[30, 30] 30 #[Sl.v x3_5, Sl.v x16_8]) (fun v σ => ∃ (x17_9 : Sl), v = Sl.v x17_9 ∧
   Y4 (x17_9, IntKind.i64.wrap (x4_6 + 1)) σ) σ
 else
 j2_ref01_Join B ro Q x3_5 σ

def f_ref01_Join (B : World) (ro : AH) (a0 : Sl) (σ : AH) (Q : Sl → AH → Prop) : Prop :=
 nw ro σ (.cells #[] 5) fun x5_1 σ =>
 lfpD (l4_ref01_Join B ro a0 Q ) ((⟨some ⟨x5_1, 0, none⟩, 0, 0⟩ : Sl), 0) σ

set_option maxRecDepth 100000 in
set_option maxHeartbeats 4000000 in
theorem ref01_Join_ok {B : World} {ro : AH} {a0 : Sl} {σ : AH} {Q : Sl → AH → Prop} (h : Sep ro σ → f_ref01_Join B ro a0 σ Q) : c_ref01_Join B ro a0 σ Q := by
  refine ACalls.of_sep fun hsep => ?_
  replace h := h hsep
  refine ACalls.of_body (args := [Sl.v a0]) Tryz.func72 rfl (by rw [Tryz.ntmps72]; simp) ?_
  rw [Tryz.ntmps72]
  unfold f_ref01_Join at h
  refine AW.seq ?_
  refine AW.reg ?_
  refine Lp (V_asg rfl rfl) rfl rfl ?_
  refine Lnil ?_
  refine thenN ?_
  refine AW.seq ?_
  refine AW.reg ?_
  refine Ls rfl rfl (X_new (A_bsl (vs := []) (cs := #[]) rfl Tryz.underlying30 ty5 (by decide) rfl rfl) fun x5_1 g1 g2 => ?_)
  replace h := h x5_1 g1 g2
  refine Lp (V_asg rfl rfl) rfl rfl ?_
  refine Lnil ?_
  refine thenN ?_
  refine AW.seqJ (fun fr σ => ∃ (x3_3 : Sl), FrLe [(3, Sl.v x3_3)] fr ∧ j2_ref01_Join B ro Q x3_3 σ) ?_ ?_
  · rintro fr σ ⟨x3_3, hl, h⟩
    refine AW.weaken ?_ hl (HLe.refl _)
    unfold j2_ref01_Join at h
    refine AW.seq ?_
    refine AW.reg ?_
    refine Lp (V_move rfl rfl) rfl rfl ?_
    refine Lp (V_asg rfl rfl) rfl rfl ?_
    refine Lnil ?_
    refine thenN ?_
    refine AW.ret ?_
    exact bR1 Tryz.results72 rfl ⟨_, rfl, h⟩
  refine AW.seq ?_
  refine AW.reg ?_
  refine Lp (V_asg rfl rfl) rfl rfl ?_
  refine Lnil ?_
  refine thenN ?_
  refine AW.block ?_
  refine ARound.loop (fr' := [(0, Sl.v a0), (3, Sl.v (⟨some ⟨x5_1, 0, none⟩, 0, 0⟩ : Sl)), (4, .int .i64 0)]) ?_ (FrLe.cons rfl (FrLe.cons rfl (FrLe.cons rfl (FrLe.nil _))))
  refine h (fun ⟨x3_5, x4_6⟩ σ => ARound _ _ _ _ _ _ [(0, Sl.v a0), (3, Sl.v x3_5), (4, .int .i64 x4_6)] σ) ?_
  rintro ⟨x3_5, x4_6⟩ σ Y4 hY4 h
  show AW _ _ _ _ _ _ _ _
  unfold l4_ref01_Join at h
  dsimp only at h
  refine AW.seq ?_
  refine AW.seq ?_
  refine AW.reg ?_
  refine Lp (V_move rfl rfl) rfl rfl ?_
  refine Lp (V_move rfl rfl) rfl rfl ?_
  refine Lp (V_lenL rfl rfl Tryz.underlying208 rfl rfl) rfl rfl ?_
  refine Lp (V_lss rfl rfl rfl) rfl rfl ?_
  refine Lnil ?_
  refine thenN ?_
  refine AW.iff rfl decide_eq_true_iff h (fun h => ?_) (fun h => ?_)
  rotate_left
  · refine AW.exit ?_
    refine thenE ?_
    refine thenE ?_
    refine blockE ?_
    refine thenN ?_
    exact ⟨_, (FrLe.cons rfl (FrLe.nil _)), h⟩
  refine AW.skip ?_
  refine thenN ?_
  refine AW.seq ?_
  refine AW.block ?_
  refine AW.reg ?_
  refine Lp (V_move rfl rfl) rfl rfl ?_
  refine Lp (V_move rfl rfl) rfl rfl ?_
  refine Lp (V_move rfl rfl) rfl rfl ?_
  obtain ⟨p15_7, ha, h0, h1, h⟩ := h
  refine Lp (V_ixA rfl Tryz.underlying208 ty30 (ixL rfl ha) rfl h0 h1) rfl rfl ?_
  obtain ⟨x16_8, hc, h⟩ := h
  refine Ls rfl rfl (X_ld rfl Tryz.underlying30 rfl rfl hc ?_)
  refine Ls rfl rfl (X_bi (s := Builtin.append_ #[30, 30] 30 #[Sl.v x3_5, Sl.v x16_8]) rfl rfl (fun _ => rfl) (awp_mono _ h ?_))
  rintro v σ ⟨x17_9, rfl, h⟩
  refine Lp (V_asg rfl rfl) rfl rfl ?_
  refine Lnil ?_
  refine blockN ?_
  refine thenN ?_
  refine AW.reg ?_
  refine Lp (V_move rfl rfl) rfl rfl ?_
  refine Lp (V_add rfl rfl rfl) rfl rfl ?_
  refine Lp (V_asg rfl rfl) rfl rfl ?_
  refine Lnil ?_
  refine thenN ?_
  refine ARound.head (fr' := [(0, Sl.v a0), (3, Sl.v x17_9), (4, .int .i64 (IntKind.i64.wrap (x4_6 + 1)))]) ?_ (FrLe.cons rfl (FrLe.cons rfl (FrLe.cons rfl (FrLe.nil _))))
  exact hY4 _ _ h

def f_ref01_Reader_Left (B : World) (ro : AH) (a0 : Option Addr) (σ : AH) (Q : Int → AH → Prop) : Prop :=
 ∃ p4_1 : Addr, a0 = some p4_1 ∧
 ∃ p9_2 : Addr, a0 = some p9_2 ∧
 ∃ (x6_3 : Sl), acell ro σ p4_1 = some (Sl.v x6_3) ∧
 ∃ (x11_4 : Int), acell ro σ (p9_2.add 1) = some (.int .i64 x11_4) ∧
 Q (IntKind.i64.wrap ((x6_3.len : Int) - x11_4)) σ

set_option maxRecDepth 100000 in
set_option maxHeartbeats 4000000 in
theorem ref01_Reader_Left_ok {B : World} {ro : AH} {a0 : Option Addr} {σ : AH} {Q : Int → AH → Prop} (h : Sep ro σ → f_ref01_Reader_Left B ro a0 σ Q) : c_ref01_Reader_Left B ro a0 σ Q := by
  refine ACalls.of_sep fun hsep => ?_
  replace h := h hsep
  refine ACalls.of_body (args := [.pointer a0]) Tryz.func81 rfl (by rw [Tryz.ntmps81]; simp) ?_
  rw [Tryz.ntmps81]
  unfold f_ref01_Reader_Left at h
  refine AW.seq ?_
  refine AW.reg ?_
  refine Lp (V_asg rfl rfl) rfl rfl ?_
  refine Lnil ?_
  refine thenN ?_
  refine AW.seq ?_
  refine AW.drawn0 (fun i => ([0, 0, 0, 3, 0, 0, 0, 0, 3, 0, 0] : List Nat).getD i 2) [] [0, 1, 2, 5, 6, 7, 3, 4, 8, 9, 10] Tryz.mixed (by decide +kernel) ?_
  refine Dp rfl rfl rfl rfl (V_move rfl rfl) ?_
  obtain ⟨p4_1, hc, h⟩ := h
  refine Dp rfl rfl rfl rfl (V_nil rfl (by rw [← hc]; rfl)) ?_
  refine Dp rfl rfl rfl rfl (V_fld rfl Tryz.underlying154 rfl ty30 (by decide) rfl) ?_
  refine Dp rfl rfl rfl rfl (V_move rfl rfl) ?_
  obtain ⟨p9_2, hc, h⟩ := h
  refine Dp rfl rfl rfl rfl (V_nil rfl (by rw [← hc]; rfl)) ?_
  refine Dp rfl rfl rfl rfl (V_fld rfl Tryz.underlying154 rfl ty3 (by decide) rfl) ?_
  obtain ⟨x6_3, hc, h⟩ := h
  refine Dr rfl rfl rfl rfl (R_ld rfl Tryz.underlying30 rfl rfl hc) ?_
  refine Dp rfl rfl rfl rfl (V_lenL rfl rfl Tryz.underlying30 rfl rfl) ?_
  obtain ⟨x11_4, hc, h⟩ := h
  refine Dr rfl rfl rfl rfl (R_ld rfl Tryz.underlying3 rfl rfl hc) ?_
  refine Dp rfl rfl rfl rfl (V_sub rfl rfl rfl) ?_
  refine Dp rfl rfl rfl rfl (V_asg rfl rfl) ?_
  refine Dend ?_
  refine thenN ?_
  refine AW.ret ?_
  exact bR1 Tryz.results81 rfl ⟨_, rfl, h⟩

def f_ref01_Reader_Blob (B : World) (ro : AH) (a0 : Option Addr) (σ : AH) (Q : Sl → AH → Prop) : Prop :=
 ∃ p7_1 : Addr, a0 = some p7_1 ∧
 ∃ (x9_2 : Int), acell ro σ (p7_1.add 1) = some (.int .i64 x9_2) ∧
 c_ref01_Reader_Num B ro a0 σ fun x11_3 σ =>
 ∃ p13_4 : Addr, a0 = some p13_4 ∧
 ∃ (x15_5 : Int), acell ro σ (p13_4.add 2) = some (.int .i64 x15_5) ∧
 if ¬ (x15_5 = 0) then
  Q (⟨none, 0, 0⟩ : Sl) σ
 else
 c_ref01_Reader_Left B ro a0 σ fun x19_6 σ =>
 if x19_6 < x11_3 then
  ∃ p22_7 : Addr, a0 = some p22_7 ∧
  stN (p22_7.add 2) (fun σ =>
   ∃ p26_8 : Addr, a0 = some p26_8 ∧
   stN (p26_8.add 1) (fun σ =>
    Q (⟨none, 0, 0⟩ : Sl) σ) [.int .i64 x9_2] 0 σ) [.int .i64 12] 0 σ
 else
 ∃ p29_9 : Addr, a0 = some p29_9 ∧
 ∃ p33_10 : Addr, a0 = some p33_10 ∧
 ∃ p37_11 : Addr, a0 = some p37_11 ∧
 ∃ (x31_12 : Sl), acell ro σ p29_9 = some (Sl.v x31_12) ∧
 ∃ (x35_13 : Int), acell ro σ (p33_10.add 1) = some (.int .i64 x35_13) ∧
 ∃ (x39_14 : Int), acell ro σ (p37_11.add 1) = some (.int .i64 x39_14) ∧
 cutOk (some x35_13) (some (IntKind.i64.wrap (x39_14 + x11_3))) x31_12.len x31_12.cap ∧
 c_ref01_Copy B ro (⟨cutA x31_12.a (Int.toNat x35_13) x31_12.cap 1, Int.toNat (IntKind.i64.wrap (x39_14 + x11_3)) - Int.toNat x35_13, x31_12.cap - Int.toNat x35_13⟩ : Sl) σ fun x43_15 σ =>
 ∃ p45_16 : Addr, a0 = some p45_16 ∧
 ∃ (x47_17 : Int), acell ro σ (p45_16.add 1) = some (.int .i64 x47_17) ∧
 ∃ p50_18 : Addr, a0 = some p50_18 ∧
 stN (p50_18.add 1) (fun σ =>
  Q x43_15 σ) [.int .i64 (IntKind.i64.wrap (x47_17 + x11_3))] 0 σ

set_option maxRecDepth 100000 in
set_option maxHeartbeats 4000000 in
theorem ref01_Reader_Blob_ok {B : World} {ro : AH} {a0 : Option Addr} {σ : AH} {Q : Sl → AH → Prop} (h : Sep ro σ → f_ref01_Reader_Blob B ro a0 σ Q) : c_ref01_Reader_Blob B ro a0 σ Q := by
  refine ACalls.of_sep fun hsep => ?_
  replace h := h hsep
  refine ACalls.of_body (args := [.pointer a0]) Tryz.func82 rfl (by rw [Tryz.ntmps82]; simp) ?_
  rw [Tryz.ntmps82]
  unfold f_ref01_Reader_Blob at h
  refine AW.seq ?_
  refine AW.reg ?_
  refine Lp (V_asg rfl rfl) rfl rfl ?_
  refine Lnil ?_
  refine thenN ?_
  refine AW.seq ?_
  refine AW.reg ?_
  refine Lp (V_move rfl rfl) rfl rfl ?_
  obtain ⟨p7_1, hc, h⟩ := h
  refine Lp (V_nil rfl (by rw [← hc]; rfl)) rfl rfl ?_
  refine Lp (V_fld rfl Tryz.underlying154 rfl ty3 (by decide) rfl) rfl rfl ?_
  obtain ⟨x9_2, hc, h⟩ := h
  refine Ls rfl rfl (X_ld rfl Tryz.underlying3 rfl rfl hc ?_)
  refine Lp (V_asg rfl rfl) rfl rfl ?_
  refine Lnil ?_
  refine thenN ?_
  refine AW.seq ?_
  refine AW.reg ?_
  refine Lp (V_move rfl rfl) rfl rfl ?_
  refine Ls rfl rfl (X_call rfl Tryz.func83 rfl rfl rfl (ACalls.mono h ?_))
  rintro v σ ⟨x11_3, rfl, h⟩
  refine Lp (V_asg rfl rfl) rfl rfl ?_
  refine Lnil ?_
  refine thenN ?_
  refine AW.seq ?_
  refine AW.seq ?_
  refine AW.reg ?_
  refine Lp (V_move rfl rfl) rfl rfl ?_
  obtain ⟨p13_4, hc, h⟩ := h
  refine Lp (V_nil rfl (by rw [← hc]; rfl)) rfl rfl ?_
  refine Lp (V_fld rfl Tryz.underlying154 rfl ty3 (by decide) rfl) rfl rfl ?_
  obtain ⟨x15_5, hc, h⟩ := h
  refine Ls rfl rfl (X_ld rfl Tryz.underlying3 rfl rfl hc ?_)
  refine Lp (V_neq rfl rfl rfl) rfl rfl ?_
  refine Lnil ?_
  refine thenN ?_
  refine AW.iff rfl (bnot_iff decide_eq_true_iff) h (fun h => ?_) (fun h => ?_)
  · refine AW.seq ?_
    refine AW.reg ?_
    refine Lp (V_asg rfl rfl) rfl rfl ?_
    refine Lnil ?_
    refine thenN ?_
    refine AW.ret ?_
    refine thenR ?_
    exact bR1 Tryz.results82 rfl ⟨_, rfl, h⟩
  refine AW.skip ?_
  refine thenN ?_
  refine AW.seq ?_
  refine AW.seq ?_
  refine AW.reg ?_
  refine Lp (V_move rfl rfl) rfl rfl ?_
  refine Lp (V_move rfl rfl) rfl rfl ?_
  refine Ls rfl rfl (X_call rfl Tryz.func81 rfl rfl rfl (ACalls.mono h ?_))
  rintro v σ ⟨x19_6, rfl, h⟩
  refine Lp (V_gtr rfl rfl rfl) rfl rfl ?_
  refine Lnil ?_
  refine thenN ?_
  refine AW.iff rfl decide_eq_true_iff h (fun h => ?_) (fun h => ?_)
  · refine AW.seq ?_
    refine AW.reg ?_
    refine Lp (V_move rfl rfl) rfl rfl ?_
    obtain ⟨p22_7, hc, h⟩ := h
    refine Lp (V_nil rfl (by rw [← hc]; rfl)) rfl rfl ?_
    refine Lp (V_fld rfl Tryz.underlying154 rfl ty3 (by decide) rfl) rfl rfl ?_
    refine Ls rfl rfl (X_st rfl ty3 rfl rfl rfl rfl (stN_mono h fun σ h => ?_))
    refine Lnil ?_
    refine thenN ?_
    refine AW.seq ?_
    refine AW.reg ?_
    refine Lp (V_move rfl rfl) rfl rfl ?_
    refine Lp (V_move rfl rfl) rfl rfl ?_
    obtain ⟨p26_8, hc, h⟩ := h
    refine Lp (V_nil rfl (by rw [← hc]; rfl)) rfl rfl ?_
    refine Lp (V_fld rfl Tryz.underlying154 rfl ty3 (by decide) rfl) rfl rfl ?_
    refine Ls rfl rfl (X_st rfl ty3 rfl rfl rfl rfl (stN_mono h fun σ h => ?_))
    refine Lnil ?_
    refine thenN ?_
    refine AW.seq ?_
    refine AW.reg ?_
    refine Lp (V_asg rfl rfl) rfl rfl ?_
    refine Lnil ?_
    refine thenN ?_
    refine AW.ret ?_
    refine thenR ?_
    exact bR1 Tryz.results82 rfl ⟨_, rfl, h⟩
  refine AW.skip ?_
  refine thenN ?_
  refine AW.seq ?_
  refine AW.drawn0 (fun i => ([0, 0, 0, 3, 0, 0, 0, 3, 0, 0, 0, 3, 0, 0, 0, 2, 0] : List Nat).getD i 2) [(3, 14), (3, 15), (7, 14), (7, 15), (11, 13), (11, 14), (11, 15)] [0, 1, 2, 4, 5, 6, 8, 9, 10, 12, 3, 7, 11, 13, 14, 15, 16] Tryz.mixed (by decide +kernel) ?_
  refine Dp rfl rfl rfl rfl (V_move rfl rfl) ?_
  obtain ⟨p29_9, hc, h⟩ := h
  refine Dp rfl rfl rfl rfl (V_nil rfl (by rw [← hc]; rfl)) ?_
  refine Dp rfl rfl rfl rfl (V_fld rfl Tryz.underlying154 rfl ty30 (by decide) rfl) ?_
  refine Dp rfl rfl rfl rfl (V_move rfl rfl) ?_
  obtain ⟨p33_10, hc, h⟩ := h
  refine Dp rfl rfl rfl rfl (V_nil rfl (by rw [← hc]; rfl)) ?_
  refine Dp rfl rfl rfl rfl (V_fld rfl Tryz.underlying154 rfl ty3 (by decide) rfl) ?_
  refine Dp rfl rfl rfl rfl (V_move rfl rfl) ?_
  obtain ⟨p37_11, hc, h⟩ := h
  refine Dp rfl rfl rfl rfl (V_nil rfl (by rw [← hc]; rfl)) ?_
  refine Dp rfl rfl rfl rfl (V_fld rfl Tryz.underlying154 rfl ty3 (by decide) rfl) ?_
  refine Dp rfl rfl rfl rfl (V_move rfl rfl) ?_
  obtain ⟨x31_12, hc, h⟩ := h
  refine Dr rfl rfl rfl rfl (R_ld rfl Tryz.underlying30 rfl rfl hc) ?_
  obtain ⟨x35_13, hc, h⟩ := h
  refine Dr rfl rfl rfl rfl (R_ld rfl Tryz.underlying3 rfl rfl hc) ?_
  obtain ⟨x39_14, hc, h⟩ := h
  refine Dr rfl rfl rfl rfl (R_ld rfl Tryz.underlying3 rfl rfl hc) ?_
  refine Dp rfl rfl rfl rfl (V_add rfl rfl rfl) ?_
  obtain ⟨hc, h⟩ := h
  refine Dp rfl rfl rfl rfl (V_slL (lo := (some x35_13)) (hi := (some (IntKind.i64.wrap (x39_14 + x11_3)))) rfl Tryz.underlying30 ty5 rfl (optI_some rfl) (optI_some rfl) hc) ?_
  refine Dg rfl rfl rfl rfl (X_call rfl Tryz.func23 rfl rfl rfl (ACalls.mono h ?_))
  rintro v σ ⟨x43_15, rfl, h⟩
  refine Dp rfl rfl rfl rfl (V_asg rfl rfl) ?_
  refine Dend ?_
  refine thenN ?_
  refine AW.seq ?_
  refine AW.reg ?_
  refine Lp (V_move rfl rfl) rfl rfl ?_
  obtain ⟨p45_16, hc, h⟩ := h
  refine Lp (V_nil rfl (by rw [← hc]; rfl)) rfl rfl ?_
  refine Lp (V_fld rfl Tryz.underlying154 rfl ty3 (by decide) rfl) rfl rfl ?_
  obtain ⟨x47_17, hc, h⟩ := h
  refine Ls rfl rfl (X_ld rfl Tryz.underlying3 rfl rfl hc ?_)
  refine Lp (V_move rfl rfl) rfl rfl ?_
  refine Lp (V_add rfl rfl rfl) rfl rfl ?_
  obtain ⟨p50_18, hc, h⟩ := h
  refine Lp (V_nil rfl (by rw [← hc]; rfl)) rfl rfl ?_
  refine Lp (V_fld rfl Tryz.underlying154 rfl ty3 (by decide) rfl) rfl rfl ?_
  refine Ls rfl rfl (X_st rfl ty3 rfl rfl rfl rfl (stN_mono h fun σ h => ?_))
  refine Lnil ?_
  refine thenN ?_
  refine AW.seq ?_
  refine AW.reg ?_
  refine Lp (V_move rfl rfl) rfl rfl ?_
  refine Lp (V_asg rfl rfl) rfl rfl ?_
  refine Lnil ?_
  refine thenN ?_
  refine AW.ret ?_
  exact bR1 Tryz.results82 rfl ⟨_, rfl, h⟩

def f_ref01_Reader_Num (B : World) (ro : AH) (a0 : Option Addr) (σ : AH) (Q : Int → AH → Prop) : Prop :=
 ∃ p7_1 : Addr, a0 = some p7_1 ∧
 ∃ (x9_2 : Int), acell ro σ (p7_1.add 2) = some (.int .i64 x9_2) ∧
 if ¬ (x9_2 = 0) then
  Q 0 σ
 else
 ∃ p13_3 : Addr, a0 = some p13_3 ∧
 ∃ p17_4 : Addr, a0 = some p17_4 ∧
 ∃ (x15_5 : Sl), acell ro σ p13_3 = some (Sl.v x15_5) ∧
 ∃ (x19_6 : Int), acell ro σ (p17_4.add 1) = some (.int .i64 x19_6) ∧
 c_ref01_Number B ro x15_5 x19_6 σ fun x20_7 x20_8 x20_9 σ =>
 if ¬ (x20_9 = 0) then
  ∃ p28_10 : Addr, a0 = some p28_10 ∧
  stN (p28_10.add 2) (fun σ =>
   Q 0 σ) [.int .i64 x20_9] 0 σ
 else
 ∃ p32_11 : Addr, a0 = some p32_11 ∧
 stN (p32_11.add 1) (fun σ =>
  Q x20_7 σ) [.int .i64 x20_8] 0 σ

set_option maxRecDepth 100000 in
set_option maxHeartbeats 4000000 in
theorem ref01_Reader_Num_ok {B : World} {ro : AH} {a0 : Option Addr} {σ : AH} {Q : Int → AH → Prop} (h : Sep ro σ → f_ref01_Reader_Num B ro a0 σ Q) : c_ref01_Reader_Num B ro a0 σ Q := by
  refine ACalls.of_sep fun hsep => ?_
  replace h := h hsep
  refine ACalls.of_body (args := [.pointer a0]) Tryz.func83 rfl (by rw [Tryz.ntmps83]; simp) ?_
  rw [Tryz.ntmps83]
  unfold f_ref01_Reader_Num at h
  refine AW.seq ?_
  refine AW.reg ?_
  refine Lp (V_asg rfl rfl) rfl rfl ?_
  refine Lnil ?_
  refine thenN ?_
  refine AW.seq ?_
  refine AW.seq ?_
  refine AW.reg ?_
  refine Lp (V_move rfl rfl) rfl rfl ?_
  obtain ⟨p7_1, hc, h⟩ := h
  refine Lp (V_nil rfl (by rw [← hc]; rfl)) rfl rfl ?_
  refine Lp (V_fld rfl Tryz.underlying154 rfl ty3 (by decide) rfl) rfl rfl ?_
  obtain ⟨x9_2, hc, h⟩ := h
  refine Ls rfl rfl (X_ld rfl Tryz.underlying3 rfl rfl hc ?_)
  refine Lp (V_neq rfl rfl rfl) rfl rfl ?_
  refine Lnil ?_
  refine thenN ?_
  refine AW.iff rfl (bnot_iff decide_eq_true_iff) h (fun h => ?_) (fun h => ?_)
  · refine AW.seq ?_
    refine AW.reg ?_
    refine Lp (V_asg rfl rfl) rfl rfl ?_
    refine Lnil ?_
    refine thenN ?_
    refine AW.ret ?_
    refine thenR ?_
    exact bR1 Tryz.results83 rfl ⟨_, rfl, h⟩
  refine AW.skip ?_
  refine thenN ?_
  refine AW.seq ?_
  refine AW.drawn0 (fun i => ([0, 0, 0, 3, 0, 0, 0, 3, 2, 0, 0, 0, 0, 0, 0, 0] : List Nat).getD i 2) [] [0, 1, 2, 4, 5, 6, 3, 7, 8, 9, 10, 11, 12, 13, 14, 15] Tryz.mixed (by decide +kernel) ?_
  refine Dp rfl rfl rfl rfl (V_move rfl rfl) ?_
  obtain ⟨p13_3, hc, h⟩ := h
  refine Dp rfl rfl rfl rfl (V_nil rfl (by rw [← hc]; rfl)) ?_
  refine Dp rfl rfl rfl rfl (V_fld rfl Tryz.underlying154 rfl ty30 (by decide) rfl) ?_
  refine Dp rfl rfl rfl rfl (V_move rfl rfl) ?_
  obtain ⟨p17_4, hc, h⟩ := h
  refine Dp rfl rfl rfl rfl (V_nil rfl (by rw [← hc]; rfl)) ?_
  refine Dp rfl rfl rfl rfl (V_fld rfl Tryz.underlying154 rfl ty3 (by decide) rfl) ?_
  obtain ⟨x15_5, hc, h⟩ := h
  refine Dr rfl rfl rfl rfl (R_ld rfl Tryz.underlying30 rfl rfl hc) ?_
  obtain ⟨x19_6, hc, h⟩ := h
  refine Dr rfl rfl rfl rfl (R_ld rfl Tryz.underlying3 rfl rfl hc) ?_
  refine Dg rfl rfl rfl rfl (X_call rfl Tryz.func120 rfl rfl rfl (ACalls.mono h ?_))
  rintro v σ ⟨x20_7, x20_8, x20_9, rfl, h⟩
  refine Dp rfl rfl rfl rfl (V_move rfl rfl) ?_
  refine Dp rfl rfl rfl rfl (V_ext rfl rfl rfl) ?_
  refine Dp rfl rfl rfl rfl (V_ext rfl rfl rfl) ?_
  refine Dp rfl rfl rfl rfl (V_ext rfl rfl rfl) ?_
  refine Dp rfl rfl rfl rfl (V_asg rfl rfl) ?_
  refine Dp rfl rfl rfl rfl (V_asg rfl rfl) ?_
  refine Dp rfl rfl rfl rfl (V_asg rfl rfl) ?_
  refine Dend ?_
  refine thenN ?_
  refine AW.seq ?_
  refine AW.seq ?_
  refine AW.reg ?_
  refine Lp (V_move rfl rfl) rfl rfl ?_
  refine Lp (V_neq rfl rfl rfl) rfl rfl ?_
  refine Lnil ?_
  refine thenN ?_
  refine AW.iff rfl (bnot_iff decide_eq_true_iff) h (fun h => ?_) (fun h => ?_)
  · refine AW.seq ?_
    refine AW.reg ?_
    refine Lp (V_move rfl rfl) rfl rfl ?_
    refine Lp (V_move rfl rfl) rfl rfl ?_
    obtain ⟨p28_10, hc, h⟩ := h
    refine Lp (V_nil rfl (by rw [← hc]; rfl)) rfl rfl ?_
    refine Lp (V_fld rfl Tryz.underlying154 rfl ty3 (by decide) rfl) rfl rfl ?_
    refine Ls rfl rfl (X_st rfl ty3 rfl rfl rfl rfl (stN_mono h fun σ h => ?_))
    refine Lnil ?_
    refine thenN ?_
    refine AW.seq ?_
    refine AW.reg ?_
    refine Lp (V_asg rfl rfl) rfl rfl ?_
    refine Lnil ?_
    refine thenN ?_
    refine AW.ret ?_
    refine thenR ?_
    exact bR1 Tryz.results83 rfl ⟨_, rfl, h⟩
  refine AW.skip ?_
  refine thenN ?_
  refine AW.seq ?_
  refine AW.reg ?_
  refine Lp (V_move rfl rfl) rfl rfl ?_
  refine Lp (V_move rfl rfl) rfl rfl ?_
  obtain ⟨p32_11, hc, h⟩ := h
  refine Lp (V_nil rfl (by rw [← hc]; rfl)) rfl rfl ?_
  refine Lp (V_fld rfl Tryz.underlying154 rfl ty3 (by decide) rfl) rfl rfl ?_
  refine Ls rfl rfl (X_st rfl ty3 rfl rfl rfl rfl (stN_mono h fun σ h => ?_))
  refine Lnil ?_
  refine thenN ?_
  refine AW.seq ?_
  refine AW.reg ?_
  refine Lp (V_move rfl rfl) rfl rfl ?_
  refine Lp (V_asg rfl rfl) rfl rfl ?_
  refine Lnil ?_
  refine thenN ?_
  refine AW.ret ?_
  exact bR1 Tryz.results83 rfl ⟨_, rfl, h⟩

def f_ref01_Blob (B : World) (ro : AH) (a0 : Sl) (σ : AH) (Q : Sl → AH → Prop) : Prop :=
 c_ref01_Put B ro (a0.len : Int) σ fun x5_1 σ =>
 nw ro σ (.cells #[Sl.v x5_1, Sl.v a0] 30) fun x7_2 σ =>
 c_ref01_Join B ro (⟨some ⟨x7_2, 0, none⟩, 2, 2⟩ : Sl) σ fun x8_3 σ =>
 Q x8_3 σ

set_option maxRecDepth 100000 in
set_option maxHeartbeats 4000000 in
theorem ref01_Blob_ok {B : World} {ro : AH} {a0 : Sl} {σ : AH} {Q : Sl → AH → Prop} (h : Sep ro σ → f_ref01_Blob B ro a0 σ Q) : c_ref01_Blob B ro a0 σ Q := by
  refine ACalls.of_sep fun hsep => ?_
  replace h := h hsep
  refine ACalls.of_body (args := [Sl.v a0]) Tryz.func103 rfl (by rw [Tryz.ntmps103]; simp) ?_
  rw [Tryz.ntmps103]
  unfold f_ref01_Blob at h
  refine AW.seq ?_
  refine AW.reg ?_
  refine Lp (V_asg rfl rfl) rfl rfl ?_
  refine Lnil ?_
  refine thenN ?_
  refine AW.seq ?_
  refine AW.reg ?_
  refine Lp (V_move rfl rfl) rfl rfl ?_
  refine Lp (V_lenL rfl rfl Tryz.underlying30 rfl rfl) rfl rfl ?_
  refine Ls rfl rfl (X_call rfl Tryz.func104 rfl rfl rfl (ACalls.mono h ?_))
  rintro v σ ⟨x5_1, rfl, h⟩
  refine Lp (V_move rfl rfl) rfl rfl ?_
  refine Ls rfl rfl (X_new (A_bsl (vs := [(0, Sl.v x5_1), (1, Sl.v a0)]) (cs := #[Sl.v x5_1, Sl.v a0]) rfl Tryz.underlying208 ty30 (by decide) rfl rfl) fun x7_2 g1 g2 => ?_)
  replace h := h x7_2 g1 g2
  refine Ls rfl rfl (X_call rfl Tryz.func72 rfl rfl rfl (ACalls.mono h ?_))
  rintro v σ ⟨x8_3, rfl, h⟩
  refine Lp (V_asg rfl rfl) rfl rfl ?_
  refine Lnil ?_
  refine thenN ?_
  refine AW.ret ?_
  exact bR1 Tryz.results103 rfl ⟨_, rfl, h⟩

def j2_ref01_Put (B : World) (ro : AH) (Q : Sl → AH → Prop) (x0_3 : Int) (x3_4 : Sl) (σ : AH) : Prop :=
 nw ro σ (.cells #[.int .u8 (IntKind.u8.wrap x0_3)] 5) fun x19_5 σ =>
 awp Tryz.prog ro (Builtin.append_ #[30, 30] 30 #[Sl.v x3_4, Sl.v (⟨some ⟨x19_5, 0, none⟩, 1, 1⟩ : Sl)]) (fun v σ => ∃ (x20_6 : Sl), v = Sl.v x20_6 ∧
  Q x20_6 σ) σ

def l7_ref01_Put (B : World) (ro : AH) (Q : Sl → AH → Prop) : (Int × Sl) → AH → ((Int × Sl) → AH → Prop) → Prop := fun ⟨x0_8, x3_9⟩ σ Y7 =>
 if 128 ≤ x0_8 then
  nw ro σ (.cells #[.int .u8 (IntKind.u8.wrap (IntKind.i64.wrap (128 + (Int.tmod x0_8 128))))] 5) fun x12_10 σ =>
  awp Tryz.prog ro (Builtin.append_ #[30, 30] 30 #[Sl.v x3_9, Sl.v (⟨some ⟨x12_10, 0, none⟩, 1, 1⟩ : Sl)]) (fun v σ => ∃ (x13_11 : Sl), v = Sl.v x13_11 ∧
   Y7 (IntKind.i64.wrap (Int.tdiv x0_8 128), x13_11) σ) σ
 else
 j2_ref01_Put B ro Q x0_8 x3_9 σ

def f_ref01_Put (B : World) (ro : AH) (a0 : Int) (σ : AH) (Q : Sl → AH → Prop) : Prop :=
 nw ro σ (.cells #[] 5) fun x4_1 σ =>
 lfpD (l7_ref01_Put B ro Q ) (a0, (⟨some ⟨x4_1, 0, none⟩, 0, 0⟩ : Sl)) σ

set_option maxRecDepth 100000 in
set_option maxHeartbeats 4000000 in
theorem ref01_Put_ok {B : World} {ro : AH} {a0 : Int} {σ : AH} {Q : Sl → AH → Prop} (h : Sep ro σ → f_ref01_Put B ro a0 σ Q) : c_ref01_Put B ro a0 σ Q := by
  refine ACalls.of_sep fun hsep => ?_
  replace h := h hsep
  refine ACalls.of_body (args := [.int .i64 a0]) Tryz.func104 rfl (by rw [Tryz.ntmps104]; simp) ?_
  rw [Tryz.ntmps104]
  unfold f_ref01_Put at h
  refine AW.seq ?_
  refine AW.reg ?_
  refine Lp (V_asg rfl rfl) rfl rfl ?_
  refine Lnil ?_
  refine thenN ?_
  refine AW.seq ?_
  refine AW.reg ?_
  refine Ls rfl rfl (X_new (A_bsl (vs := []) (cs := #[]) rfl Tryz.underlying30 ty5 (by decide) rfl rfl) fun x4_1 g1 g2 => ?_)
  replace h := h x4_1 g1 g2
  refine Lp (V_asg rfl rfl) rfl rfl ?_
  refine Lnil ?_
  refine thenN ?_
  refine AW.seqJ (fun fr σ => ∃ (x0_3 : Int) (x3_4 : Sl), FrLe [(0, .int .i64 x0_3), (3, Sl.v x3_4)] fr ∧ j2_ref01_Put B ro Q x0_3 x3_4 σ) ?_ ?_
  · rintro fr σ ⟨x0_3, x3_4, hl, h⟩
    refine AW.weaken ?_ hl (HLe.refl _)
    unfold j2_ref01_Put at h
    refine AW.seq ?_
    refine AW.reg ?_
    refine Lp (V_move rfl rfl) rfl rfl ?_
    refine Lp (V_move rfl rfl) rfl rfl ?_
    refine Lp (V_cvt rfl rfl Tryz.underlying3 Tryz.underlying5) rfl rfl ?_
    refine Ls rfl rfl (X_new (A_bsl (vs := [(0, .int .u8 (IntKind.u8.wrap x0_3))]) (cs := #[.int .u8 (IntKind.u8.wrap x0_3)]) rfl Tryz.underlying30 ty5 (by decide) rfl rfl) fun x19_5 g1 g2 => ?_)
    replace h := h x19_5 g1 g2
    refine Ls rfl rfl (X_bi (s := Builtin.append_ #[30, 30] 30 #[Sl.v x3_4, Sl.v (⟨some ⟨x19_5, 0, none⟩, 1, 1⟩ : Sl)]) rfl rfl (fun _ => rfl) (awp_mono _ h ?_))
    rintro v σ ⟨x20_6, rfl, h⟩
    refine Lp (V_asg rfl rfl) rfl rfl ?_
    refine Lnil ?_
    refine thenN ?_
    refine AW.ret ?_
    exact bR1 Tryz.results104 rfl ⟨_, rfl, h⟩
  refine AW.block ?_
  refine ARound.loop (fr' := [(0, .int .i64 a0), (3, Sl.v (⟨some ⟨x4_1, 0, none⟩, 0, 0⟩ : Sl))]) ?_ (FrLe.cons rfl (FrLe.cons rfl (FrLe.nil _)))
  refine h (fun ⟨x0_8, x3_9⟩ σ => ARound _ _ _ _ _ _ [(0, .int .i64 x0_8), (3, Sl.v x3_9)] σ) ?_
  rintro ⟨x0_8, x3_9⟩ σ Y7 hY7 h
  show AW _ _ _ _ _ _ _ _
  unfold l7_ref01_Put at h
  dsimp only at h
  refine AW.seq ?_
  refine AW.seq ?_
  refine AW.reg ?_
  refine Lp (V_move rfl rfl) rfl rfl ?_
  refine Lp (V_geq rfl rfl rfl) rfl rfl ?_
  refine Lnil ?_
  refine thenN ?_
  refine AW.iff rfl decide_eq_true_iff h (fun h => ?_) (fun h => ?_)
  rotate_left
  · refine AW.exit ?_
    refine thenE ?_
    refine thenE ?_
    refine blockE ?_
    refine thenN ?_
    exact ⟨_, _, (FrLe.cons rfl (FrLe.cons rfl (FrLe.nil _))), h⟩
  refine AW.skip ?_
  refine thenN ?_
  refine AW.block ?_
  refine AW.seq ?_
  refine AW.reg ?_
  refine Lp (V_move rfl rfl) rfl rfl ?_
  refine Lp (V_move rfl rfl) rfl rfl ?_
  refine Lp (V_rem rfl rfl rfl (by decide)) rfl rfl ?_
  refine Lp (V_add rfl rfl rfl) rfl rfl ?_
  refine Lp (V_cvt rfl rfl Tryz.underlying3 Tryz.underlying5) rfl rfl ?_
  refine Ls rfl rfl (X_new (A_bsl (vs := [(0, .int .u8 (IntKind.u8.wrap (IntKind.i64.wrap (128 + (Int.tmod x0_8 128)))))]) (cs := #[.int .u8 (IntKind.u8.wrap (IntKind.i64.wrap (128 + (Int.tmod x0_8 128))))]) rfl Tryz.underlying30 ty5 (by decide) rfl rfl) fun x12_10 g1 g2 => ?_)
  replace h := h x12_10 g1 g2
  refine Ls rfl rfl (X_bi (s := Builtin.append_ #[30, 30] 30 #[Sl.v x3_9, Sl.v (⟨some ⟨x12_10, 0, none⟩, 1, 1⟩ : Sl)]) rfl rfl (fun _ => rfl) (awp_mono _ h ?_))
  rintro v σ ⟨x13_11, rfl, h⟩
  refine Lp (V_asg rfl rfl) rfl rfl ?_
  refine Lnil ?_
  refine thenN ?_
  refine AW.reg ?_
  refine Lp (V_move rfl rfl) rfl rfl ?_
  refine Lp (V_quo rfl rfl rfl (by decide)) rfl rfl ?_
  refine Lp (V_asg rfl rfl) rfl rfl ?_
  refine Lnil ?_
  refine blockN ?_
  refine thenN ?_
  refine ARound.head (fr' := [(0, .int .i64 (IntKind.i64.wrap (Int.tdiv x0_8 128))), (3, Sl.v x13_11)]) ?_ (FrLe.cons rfl (FrLe.cons rfl (FrLe.nil _)))
  exact hY7 _ _ h

def j7_ref01_Number (B : World) (ro : AH) (a1 : Int) (x7_2 : Int) (Q : Int → Int → Int → AH → Prop) (x9_8 : Int) (σ : AH) : Prop :=
 Q x9_8 (IntKind.i64.wrap ((IntKind.i64.wrap (a1 + x7_2)) + 1)) 0 σ

def l9_ref01_Number (B : World) (ro : AH) (a0 : Sl) (a1 : Int) (x7_2 : Int) (Q : Int → Int → Int → AH → Prop) : (Int × Int) → AH → ((Int × Int) → AH → Prop) → Prop := fun ⟨x9_10, x10_11⟩ σ Y9 =>
 if 0 ≤ x10_11 then
  ∃ p90_12 : Addr, a0.a = some p90_12 ∧ (0 : Int) ≤ (IntKind.i64.wrap (a1 + x10_11)) ∧ (IntKind.i64.wrap (a1 + x10_11)) < (a0.len : Int) ∧
  ∃ (x91_13 : Int), acell ro σ (p90_12.add (Int.toNat (IntKind.i64.wrap (a1 + x10_11)) * 1)) = some (.int .u8 x91_13) ∧
  Y9 (IntKind.i64.wrap ((IntKind.i64.wrap (x9_10 * 128)) + (Int.tmod (IntKind.i64.wrap x91_13) 128)), IntKind.i64.wrap (x10_11 - 1)) σ
 else
 j7_ref01_Number B ro a1 x7_2 Q x9_10 σ

def j5_ref01_Number (B : World) (ro : AH) (a0 : Sl) (a1 : Int) (x7_2 : Int) (Q : Int → Int → Int → AH → Prop) (x78_6 : Bool) (σ : AH) : Prop :=
 if x78_6 = true then
  Q 0 0 13 σ
 else
 lfpD (l9_ref01_Number B ro a0 a1 x7_2 Q ) (0, x7_2) σ

def j14_ref01_Number (B : World) (ro : AH) (a0 : Sl) (a1 : Int) (x7_2 : Int) (x66_4 : Bool) (Q : Int → Int → Int → AH → Prop) (x77_15 : Bool) (σ : AH) : Prop :=
 j5_ref01_Number B ro a0 a1 x7_2 Q x77_15 σ

def j3_ref01_Number (B : World) (ro : AH) (a0 : Sl) (a1 : Int) (x7_2 : Int) (Q : Int → Int → Int → AH → Prop) (x66_4 : Bool) (σ : AH) : Prop :=
 if x66_4 = true then
  j5_ref01_Number B ro a0 a1 x7_2 Q true σ
 else
 if x7_2 = 8 then
  ∃ p74_16 : Addr, a0.a = some p74_16 ∧ (0 : Int) ≤ (IntKind.i64.wrap (a1 + 8)) ∧ (IntKind.i64.wrap (a1 + 8)) < (a0.len : Int) ∧
  ∃ (x75_17 : Int), acell ro σ (p74_16.add (Int.toNat (IntKind.i64.wrap (a1 + 8)) * 1)) = some (.int .u8 x75_17) ∧
  j14_ref01_Number B ro a0 a1 x7_2 x66_4 Q (decide (63 < x75_17)) σ
 else
 j14_ref01_Number B ro a0 a1 x7_2 x66_4 Q false σ

def j18_ref01_Number (B : World) (ro : AH) (a0 : Sl) (a1 : Int) (x7_2 : Int) (Q : Int → Int → Int → AH → Prop) (x65_19 : Bool) (σ : AH) : Prop :=
 j3_ref01_Number B ro a0 a1 x7_2 Q x65_19 σ

def j1_ref01_Number (B : World) (ro : AH) (a0 : Sl) (a1 : Int) (Q : Int → Int → Int → AH → Prop) (x7_2 : Int) (σ : AH) : Prop :=
 if (x7_2 < 0) ∧ ((IntKind.i64.wrap ((a0.len : Int) - a1)) < 9) then
  Q 0 0 12 σ
 else
 if x7_2 < 0 then
  j3_ref01_Number B ro a0 a1 x7_2 Q true σ
 else
 if 0 < x7_2 then
  ∃ p62_20 : Addr, a0.a = some p62_20 ∧ (0 : Int) ≤ (IntKind.i64.wrap (a1 + x7_2)) ∧ (IntKind.i64.wrap (a1 + x7_2)) < (a0.len : Int) ∧
  ∃ (x63_21 : Int), acell ro σ (p62_20.add (Int.toNat (IntKind.i64.wrap (a1 + x7_2)) * 1)) = some (.int .u8 x63_21) ∧
  j18_ref01_Number B ro a0 a1 x7_2 Q (decide (x63_21 = 0)) σ
 else
 j18_ref01_Number B ro a0 a1 x7_2 Q false σ

def j25_ref01_Number (B : World) (ro : AH) (a0 : Sl) (a1 : Int) (x8_24 : Int) (Q : Int → Int → Int → AH → Prop) (Y22 : (Int × Int) → AH → Prop) (x7_26 : Int) (σ : AH) : Prop :=
 Y22 (x7_26, IntKind.i64.wrap (x8_24 + 1)) σ

def l22_ref01_Number (B : World) (ro : AH) (a0 : Sl) (a1 : Int) (Q : Int → Int → Int → AH → Prop) : (Int × Int) → AH → ((Int × Int) → AH → Prop) → Prop := fun ⟨x7_23, x8_24⟩ σ Y22 =>
 if ((x8_24 < 9) ∧ ((IntKind.i64.wrap (a1 + x8_24)) < (a0.len : Int))) ∧ (x7_23 < 0) then
  ∃ p39_27 : Addr, a0.a = some p39_27 ∧ (0 : Int) ≤ (IntKind.i64.wrap (a1 + x8_24)) ∧ (IntKind.i64.wrap (a1 + x8_24)) < (a0.len : Int) ∧
  ∃ (x40_28 : Int), acell ro σ (p39_27.add (Int.toNat (IntKind.i64.wrap (a1 + x8_24)) * 1)) = some (.int .u8 x40_28) ∧
  if x40_28 < 128 then
   j25_ref01_Number B ro a0 a1 x8_24 Q Y22 x8_24 σ
  else
  j25_ref01_Number B ro a0 a1 x8_24 Q Y22 x7_23 σ
 else
 j1_ref01_Number B ro a0 a1 Q x7_23 σ

def f_ref01_Number (B : World) (ro : AH) (a0 : Sl) (a1 : Int) (σ : AH) (Q : Int → Int → Int → AH → Prop) : Prop :=
 if (a1 < 0) ∨ ((a0.len : Int) < a1) then
  Q 0 0 11 σ
 else
 lfpD (l22_ref01_Number B ro a0 a1 Q ) ((-1), 0) σ

set_option maxRecDepth 100000 in
set_option maxHeartbeats 4000000 in
theorem ref01_Number_ok {B : World} {ro : AH} {a0 : Sl} {a1 : Int} {σ : AH} {Q : Int → Int → Int → AH → Prop} (h : Sep ro σ → f_ref01_Number B ro a0 a1 σ Q) : c_ref01_Number B ro a0 a1 σ Q := by
  refine ACalls.of_sep fun hsep => ?_
  replace h := h hsep
  refine ACalls.of_body (args := [Sl.v a0, .int .i64 a1]) Tryz.func120 rfl (by rw [Tryz.ntmps120]; simp) ?_
  rw [Tryz.ntmps120]
  unfold f_ref01_Number at h
  refine AW.seq ?_
  refine AW.reg ?_
  refine Lp (V_asg rfl rfl) rfl rfl ?_
  refine Lp (V_asg rfl rfl) rfl rfl ?_
  refine Lp (V_asg rfl rfl) rfl rfl ?_
  refine Lnil ?_
  refine thenN ?_
  refine AW.seq ?_
  refine AW.seq ?_
  refine AW.reg ?_
  refine Lp (V_move rfl rfl) rfl rfl ?_
  refine Lp (V_lss rfl rfl rfl) rfl rfl ?_
  refine Lp (V_move rfl rfl) rfl rfl ?_
  refine Lsplit 5 (decide (a1 < 0)) [(0, Sl.v a0), (1, .int .i64 a1), (18, .bool ((decide (a1 < 0)) || (decide ((a0.len : Int) < a1))))] ?_ ?_ ?_
  · intro e2 hk2
    refine Ln rfl rfl rfl rfl (.inl (by rw [e2]; rfl)) ?_
    refine Ln rfl rfl rfl rfl (.inl (by rw [e2]; rfl)) ?_
    refine Ln rfl rfl rfl rfl (.inl (by rw [e2]; rfl)) ?_
    refine Ln rfl rfl rfl rfl (.inl (by rw [e2]; rfl)) ?_
    refine Lp (V_pickT rfl (evb e2) rfl) rfl rfl ?_
    exact hk2 _ (FrLe.cons rfl (FrLe.cons rfl (FrLe.cons (by rw [e2]; rfl) (FrLe.nil _))))
  · intro e2 hk2
    refine Lypb (V_move rfl rfl) rfl rfl rfl rfl e2 ?_
    refine Lypb (V_move rfl rfl) rfl rfl rfl rfl e2 ?_
    refine Lypb (V_lenL rfl rfl Tryz.underlying30 rfl rfl) rfl rfl rfl rfl e2 ?_
    refine Lypb (V_gtr rfl rfl rfl) rfl rfl rfl rfl e2 ?_
    refine Lp (V_pickF rfl (evb e2) rfl) rfl rfl ?_
    exact hk2 _ (FrLe.cons rfl (FrLe.cons rfl (FrLe.cons (by rw [e2]; rfl) (FrLe.nil _))))
  intro fr hl
  refine Lfr hl ?_
  refine Lnil ?_
  refine thenN ?_
  refine AW.iff rfl (bor_iff decide_eq_true_iff decide_eq_true_iff) h (fun h => ?_) (fun h => ?_)
  · refine AW.seq ?_
    refine AW.reg ?_
    refine Lp (V_asg rfl rfl) rfl rfl ?_
    refine Lp (V_asg rfl rfl) rfl rfl ?_
    refine Lp (V_asg rfl rfl) rfl rfl ?_
    refine Lnil ?_
    refine thenN ?_
    refine AW.ret ?_
    refine thenR ?_
    exact bR3 Tryz.results120 rfl rfl rfl ⟨_, _, _, rfl, h⟩
  refine AW.skip ?_
  refine thenN ?_
  refine AW.seq ?_
  refine AW.reg ?_
  refine Lp (V_asg rfl rfl) rfl rfl ?_
  refine Lnil ?_
  refine thenN ?_
  refine AW.seqJ (fun fr σ => ∃ (x7_2 : Int), FrLe [(0, Sl.v a0), (1, .int .i64 a1), (7, .int .i64 x7_2)] fr ∧ j1_ref01_Number B ro a0 a1 Q x7_2 σ) ?_ ?_
  rotate_left
  · refine AW.seq ?_
    refine AW.reg ?_
    refine Lp (V_asg rfl rfl) rfl rfl ?_
    refine Lnil ?_
    refine thenN ?_
    refine AW.block ?_
    refine ARound.loop (fr' := [(0, Sl.v a0), (1, .int .i64 a1), (7, .int .i64 (-1)), (8, .int .i64 0)]) ?_ (FrLe.cons rfl (FrLe.cons rfl (FrLe.cons rfl (FrLe.cons rfl (FrLe.nil _)))))
    refine h (fun ⟨x7_23, x8_24⟩ σ => ARound _ _ _ _ _ _ [(0, Sl.v a0), (1, .int .i64 a1), (7, .int .i64 x7_23), (8, .int .i64 x8_24)] σ) ?_
    rintro ⟨x7_23, x8_24⟩ σ Y22 hY22 h
    show AW _ _ _ _ _ _ _ _
    unfold l22_ref01_Number at h
    dsimp only at h
    refine AW.seq ?_
    refine AW.seq ?_
    refine AW.reg ?_
    refine Lp (V_move rfl rfl) rfl rfl ?_
    refine Lp (V_lss rfl rfl rfl) rfl rfl ?_
    refine Lp (V_move rfl rfl) rfl rfl ?_
    refine Lsplit 7 (decide (x8_24 < 9)) [(0, Sl.v a0), (1, .int .i64 a1), (7, .int .i64 x7_23), (8, .int .i64 x8_24), (28, .bool ((decide (x8_24 < 9)) && (decide ((IntKind.i64.wrap (a1 + x8_24)) < (a0.len : Int)))))] ?_ ?_ ?_
    · intro e2 hk2
      refine Lypb (V_move rfl rfl) rfl rfl rfl rfl e2 ?_
      refine Lypb (V_move rfl rfl) rfl rfl rfl rfl e2 ?_
      refine Lypb (V_add rfl rfl rfl) rfl rfl rfl rfl e2 ?_
      refine Lypb (V_move rfl rfl) rfl rfl rfl rfl e2 ?_
      refine Lypb (V_lenL rfl rfl Tryz.underlying30 rfl rfl) rfl rfl rfl rfl e2 ?_
      refine Lypb (V_lss rfl rfl rfl) rfl rfl rfl rfl e2 ?_
      refine Lp (V_pickT rfl (evb e2) rfl) rfl rfl ?_
      exact hk2 _ (FrLe.cons rfl (FrLe.cons rfl (FrLe.cons rfl (FrLe.cons rfl (FrLe.cons (by rw [e2]; rfl) (FrLe.nil _))))))
    · intro e2 hk2
      refine Ln rfl rfl rfl rfl (.inl (by rw [e2]; rfl)) ?_
      refine Ln rfl rfl rfl rfl (.inl (by rw [e2]; rfl)) ?_
      refine Ln rfl rfl rfl rfl (.inl (by rw [e2]; rfl)) ?_
      refine Ln rfl rfl rfl rfl (.inl (by rw [e2]; rfl)) ?_
      refine Ln rfl rfl rfl rfl (.inl (by rw [e2]; rfl)) ?_
      refine Ln rfl rfl rfl rfl (.inl (by rw [e2]; rfl)) ?_
      refine Lp (V_pickF rfl (evb e2) rfl) rfl rfl ?_
      exact hk2 _ (FrLe.cons rfl (FrLe.cons rfl (FrLe.cons rfl (FrLe.cons rfl (FrLe.cons (by rw [e2]; rfl) (FrLe.nil _))))))
    intro fr hl
    refine Lfr hl ?_
    refine Lp (V_move rfl rfl) rfl rfl ?_
    refine Lsplit 3 ((decide (x8_24 < 9)) && (decide ((IntKind.i64.wrap (a1 + x8_24)) < (a0.len : Int)))) [(0, Sl.v a0), (1, .int .i64 a1), (7, .int .i64 x7_23), (8, .int .i64 x8_24), (32, .bool (((decide (x8_24 < 9)) && (decide ((IntKind.i64.wrap (a1 + x8_24)) < (a0.len : Int)))) && (decide (x7_23 < 0))))] ?_ ?_ ?_
    · intro e10 hk10
      refine Lypb (V_move rfl rfl) rfl rfl rfl rfl e10 ?_
      refine Lypb (V_lss rfl rfl rfl) rfl rfl rfl rfl e10 ?_
      refine Lp (V_pickT rfl (evb e10) rfl) rfl rfl ?_
      exact hk10 _ (FrLe.cons rfl (FrLe.cons rfl (FrLe.cons rfl (FrLe.cons rfl (FrLe.cons (by rw [e10]; rfl) (FrLe.nil _))))))
    · intro e10 hk10
      refine Ln rfl rfl rfl rfl (.inl (by rw [e10]; rfl)) ?_
      refine Ln rfl rfl rfl rfl (.inl (by rw [e10]; rfl)) ?_
      refine Lp (V_pickF rfl (evb e10) rfl) rfl rfl ?_
      exact hk10 _ (FrLe.cons rfl (FrLe.cons rfl (FrLe.cons rfl (FrLe.cons rfl (FrLe.cons (by rw [e10]; rfl) (FrLe.nil _))))))
    intro fr hl
    refine Lfr hl ?_
    refine Lnil ?_
    refine thenN ?_
    refine AW.iff rfl (band_iff (band_iff decide_eq_true_iff decide_eq_true_iff) decide_eq_true_iff) h (fun h => ?_) (fun h => ?_)
    rotate_left
    · refine AW.exit ?_
      refine thenE ?_
      refine thenE ?_
      refine blockE ?_
      refine thenN ?_
      exact ⟨_, (FrLe.cons rfl (FrLe.cons rfl (FrLe.cons rfl (FrLe.nil _)))), h⟩
    refine AW.skip ?_
    refine thenN ?_
    refine AW.seqJ (fun fr σ => ∃ (x7_26 : Int), FrLe [(0, Sl.v a0), (1, .int .i64 a1), (8, .int .i64 x8_24), (7, .int .i64 x7_26)] fr ∧ j25_ref01_Number B ro a0 a1 x8_24 Q Y22 x7_26 σ) ?_ ?_
    · rintro fr σ ⟨x7_26, hl, h⟩
      refine AW.weaken ?_ hl (HLe.refl _)
      unfold j25_ref01_Number at h
      refine AW.reg ?_
      refine Lp (V_move rfl rfl) rfl rfl ?_
      refine Lp (V_add rfl rfl rfl) rfl rfl ?_
      refine Lp (V_asg rfl rfl) rfl rfl ?_
      refine Lnil ?_
      refine thenN ?_
      refine ARound.head (fr' := [(0, Sl.v a0), (1, .int .i64 a1), (7, .int .i64 x7_26), (8, .int .i64 (IntKind.i64.wrap (x8_24 + 1)))]) ?_ (FrLe.cons rfl (FrLe.cons rfl (FrLe.cons rfl (FrLe.cons rfl (FrLe.nil _)))))
      exact hY22 _ _ h
    refine AW.block ?_
    refine AW.seq ?_
    refine AW.reg ?_
    refine Lp (V_move rfl rfl) rfl rfl ?_
    refine Lp (V_move rfl rfl) rfl rfl ?_
    refine Lp (V_move rfl rfl) rfl rfl ?_
    refine Lp (V_add rfl rfl rfl) rfl rfl ?_
    obtain ⟨p39_27, ha, h0, h1, h⟩ := h
    refine Lp (V_ixA rfl Tryz.underlying30 ty5 (ixL rfl ha) rfl h0 h1) rfl rfl ?_
    obtain ⟨x40_28, hc, h⟩ := h
    refine Ls rfl rfl (X_ld rfl Tryz.underlying5 rfl rfl hc ?_)
    refine Lp (V_lss rfl rfl rfl) rfl rfl ?_
    refine Lnil ?_
    refine thenN ?_
    refine AW.iff rfl decide_eq_true_iff h (fun h => ?_) (fun h => ?_)
    rotate_left
    · refine AW.skip ?_
      refine blockN ?_
      refine thenN ?_
      exact ⟨_, (FrLe.cons rfl (FrLe.cons rfl (FrLe.cons rfl (FrLe.cons rfl (FrLe.nil _))))), h⟩
    refine AW.reg ?_
    refine Lp (V_move rfl rfl) rfl rfl ?_
    refine Lp (V_asg rfl rfl) rfl rfl ?_
    refine Lnil ?_
    refine blockN ?_
    refine thenN ?_
    exact ⟨_, (FrLe.cons rfl (FrLe.cons rfl (FrLe.cons rfl (FrLe.cons rfl (FrLe.nil _))))), h⟩
  rintro fr σ ⟨x7_2, hl, h⟩
  refine AW.weaken ?_ hl (HLe.refl _)
  unfold j1_ref01_Number at h
  refine AW.seq ?_
  refine AW.seq ?_
  refine AW.reg ?_
  refine Lp (V_move rfl rfl) rfl rfl ?_
  refine Lp (V_lss rfl rfl rfl) rfl rfl ?_
  refine Lp (V_move rfl rfl) rfl rfl ?_
  refine Lsplit 6 (decide (x7_2 < 0)) [(0, Sl.v a0), (1, .int .i64 a1), (7, .int .i64 x7_2), (51, .bool ((decide (x7_2 < 0)) && (decide ((IntKind.i64.wrap ((a0.len : Int) - a1)) < 9))))] ?_ ?_ ?_
  · intro e2 hk2
    refine Lypb (V_move rfl rfl) rfl rfl rfl rfl e2 ?_
    refine Lypb (V_lenL rfl rfl Tryz.underlying30 rfl rfl) rfl rfl rfl rfl e2 ?_
    refine Lypb (V_move rfl rfl) rfl rfl rfl rfl e2 ?_
    refine Lypb (V_sub rfl rfl rfl) rfl rfl rfl rfl e2 ?_
    refine Lypb (V_lss rfl rfl rfl) rfl rfl rfl rfl e2 ?_
    refine Lp (V_pickT rfl (evb e2) rfl) rfl rfl ?_
    exact hk2 _ (FrLe.cons rfl (FrLe.cons rfl (FrLe.cons rfl (FrLe.cons (by rw [e2]; rfl) (FrLe.nil _)))))
  · intro e2 hk2
    refine Ln rfl rfl rfl rfl (.inl (by rw [e2]; rfl)) ?_
    refine Ln rfl rfl rfl rfl (.inl (by rw [e2]; rfl)) ?_
    refine Ln rfl rfl rfl rfl (.inl (by rw [e2]; rfl)) ?_
    refine Ln rfl rfl rfl rfl (.inl (by rw [e2]; rfl)) ?_
    refine Ln rfl rfl rfl rfl (.inl (by rw [e2]; rfl)) ?_
    refine Lp (V_pickF rfl (evb e2) rfl) rfl rfl ?_
    exact hk2 _ (FrLe.cons rfl (FrLe.cons rfl (FrLe.cons rfl (FrLe.cons (by rw [e2]; rfl) (FrLe.nil _)))))
  intro fr hl
  refine Lfr hl ?_
  refine Lnil ?_
  refine thenN ?_
  refine AW.iff rfl (band_iff decide_eq_true_iff decide_eq_true_iff) h (fun h => ?_) (fun h => ?_)
  · refine AW.seq ?_
    refine AW.reg ?_
    refine Lp (V_asg rfl rfl) rfl rfl ?_
    refine Lp (V_asg rfl rfl) rfl rfl ?_
    refine Lp (V_asg rfl rfl) rfl rfl ?_
    refine Lnil ?_
    refine thenN ?_
    refine AW.ret ?_
    refine thenR ?_
    exact bR3 Tryz.results120 rfl rfl rfl ⟨_, _, _, rfl, h⟩
  refine AW.skip ?_
  refine thenN ?_
  refine AW.seq ?_
  refine AW.seq ?_
  refine AW.reg ?_
  refine Lp (V_move rfl rfl) rfl rfl ?_
  refine Lp (V_lss rfl rfl rfl) rfl rfl ?_
  refine Lp (V_move rfl rfl) rfl rfl ?_
  refine LsplitJ 12 (decide (x7_2 < 0)) decide_eq_true_iff h (fun fr σ => ∃ (x66_4 : Bool), FrLe [(0, Sl.v a0), (1, .int .i64 a1), (7, .int .i64 x7_2), (66, .bool x66_4)] fr ∧ j3_ref01_Number B ro a0 a1 x7_2 Q x66_4 σ) ?_ ?_ ?_
  · intro h e2 hk2
    refine Ln rfl rfl rfl rfl (.inl (by rw [e2]; rfl)) ?_
    refine Ln rfl rfl rfl rfl (.inl (by rw [e2]; rfl)) ?_
    refine Ln rfl rfl rfl rfl (.inl (by rw [e2]; rfl)) ?_
    refine Ln rfl rfl rfl rfl (.inr rfl) ?_
    refine Ln rfl rfl rfl rfl (.inr rfl) ?_
    refine Ln rfl rfl rfl rfl (.inr rfl) ?_
    refine Ln rfl rfl rfl rfl (.inr rfl) ?_
    refine Ln rfl rfl rfl rfl (.inr rfl) ?_
    refine Ln rfl rfl rfl rfl (.inr rfl) ?_
    refine Ln rfl rfl rfl rfl (.inr rfl) ?_
    refine Ln rfl rfl rfl rfl (.inl (by rw [e2]; rfl)) ?_
    refine Lp (V_pickT rfl (evb e2) rfl) rfl rfl ?_
    exact hk2 _ _ ⟨_, (FrLe.cons rfl (FrLe.cons rfl (FrLe.cons rfl (FrLe.cons rfl (FrLe.nil _))))), h⟩
  · intro h e2 hk2
    refine Lypb (V_move rfl rfl) rfl rfl rfl rfl e2 ?_
    refine Lypb (V_gtr rfl rfl rfl) rfl rfl rfl rfl e2 ?_
    refine Lypb (V_move rfl rfl) rfl rfl rfl rfl e2 ?_
    refine LsplitJ 8 (decide (0 < x7_2)) decide_eq_true_iff h (fun fr σ => ∃ (x65_19 : Bool), FrLe [(0, Sl.v a0), (1, .int .i64 a1), (7, .int .i64 x7_2), (54, .bool (decide (x7_2 < 0))), (65, .bool x65_19)] fr ∧ j18_ref01_Number B ro a0 a1 x7_2 Q x65_19 σ) ?_ ?_ ?_
    · intro h e5 hk5
      refine Lypb (V_move rfl rfl) rfl rfl rfl rfl e5 ?_
      refine Lypb (V_move rfl rfl) rfl rfl rfl rfl e5 ?_
      refine Lypb (V_move rfl rfl) rfl rfl rfl rfl e5 ?_
      refine Lypb (V_add rfl rfl rfl) rfl rfl rfl rfl e5 ?_
      obtain ⟨p62_20, ha, h0, h1, h⟩ := h
      refine Lypb (V_ixA rfl Tryz.underlying30 ty5 (ixL rfl ha) rfl h0 h1) rfl rfl rfl rfl e5 ?_
      obtain ⟨x63_21, hc, h⟩ := h
      refine Lyb rfl rfl rfl rfl e5 (X_ld rfl Tryz.underlying5 rfl rfl hc ?_)
      refine Lypb (V_eql rfl rfl rfl) rfl rfl rfl rfl e5 ?_
      refine Lypb (V_pickT rfl (evb e5) rfl) rfl rfl rfl rfl e2 ?_
      exact hk5 _ _ ⟨_, (FrLe.cons rfl (FrLe.cons rfl (FrLe.cons rfl (FrLe.cons rfl (FrLe.cons rfl (FrLe.nil _)))))), h⟩
    · intro h e5 hk5
      refine Ln rfl rfl rfl rfl (.inl (by rw [e5]; rfl)) ?_
      refine Ln rfl rfl rfl rfl (.inl (by rw [e5]; rfl)) ?_
      refine Ln rfl rfl rfl rfl (.inl (by rw [e5]; rfl)) ?_
      refine Ln rfl rfl rfl rfl (.inl (by rw [e5]; rfl)) ?_
      refine Ln rfl rfl rfl rfl (.inl (by rw [e5]; rfl)) ?_
      refine Ln rfl rfl rfl rfl (.inl (by rw [e5]; rfl)) ?_
      refine Ln rfl rfl rfl rfl (.inl (by rw [e5]; rfl)) ?_
      refine Lypb (V_pickF rfl (evb e5) rfl) rfl rfl rfl rfl e2 ?_
      exact hk5 _ _ ⟨_, (FrLe.cons rfl (FrLe.cons rfl (FrLe.cons rfl (FrLe.cons rfl (FrLe.cons rfl (FrLe.nil _)))))), h⟩
    rintro fr σ ⟨x65_19, hl, h⟩
    unfold j18_ref01_Number at h
    refine Lfr hl ?_
    refine Lp (V_pickF rfl (evb e2) rfl) rfl rfl ?_
    exact hk2 _ _ ⟨_, (FrLe.cons rfl (FrLe.cons rfl (FrLe.cons rfl (FrLe.cons rfl (FrLe.nil _))))), h⟩
  rintro fr σ ⟨x66_4, hl, h⟩
  unfold j3_ref01_Number at h
  refine Lfr hl ?_
  refine Lp (V_move rfl rfl) rfl rfl ?_
  refine LsplitJ 11 x66_4 Iff.rfl h (fun fr σ => ∃ (x78_6 : Bool), FrLe [(0, Sl.v a0), (1, .int .i64 a1), (7, .int .i64 x7_2), (78, .bool x78_6)] fr ∧ j5_ref01_Number B ro a0 a1 x7_2 Q x78_6 σ) ?_ ?_ ?_
  · intro h e15 hk15
    refine Ln rfl rfl rfl rfl (.inl (by rw [e15]; rfl)) ?_
    refine Ln rfl rfl rfl rfl (.inl (by rw [e15]; rfl)) ?_
    refine Ln rfl rfl rfl rfl (.inl (by rw [e15]; rfl)) ?_
    refine Ln rfl rfl rfl rfl (.inr rfl) ?_
    refine Ln rfl rfl rfl rfl (.inr rfl) ?_
    refine Ln rfl rfl rfl rfl (.inr rfl) ?_
    refine Ln rfl rfl rfl rfl (.inr rfl) ?_
    refine Ln rfl rfl rfl rfl (.inr rfl) ?_
    refine Ln rfl rfl rfl rfl (.inr rfl) ?_
    refine Ln rfl rfl rfl rfl (.inl (by rw [e15]; rfl)) ?_
    refine Lp (V_pickT rfl (evb e15) rfl) rfl rfl ?_
    exact hk15 _ _ ⟨_, (FrLe.cons rfl (FrLe.cons rfl (FrLe.cons rfl (FrLe.cons rfl (FrLe.nil _))))), h⟩
  · intro h e15 hk15
    refine Lypb (V_move rfl rfl) rfl rfl rfl rfl e15 ?_
    refine Lypb (V_eql rfl rfl rfl) rfl rfl rfl rfl e15 ?_
    refine Lypb (V_move rfl rfl) rfl rfl rfl rfl e15 ?_
    refine LsplitJ 7 (decide (x7_2 = 8)) decide_eq_true_iff h (fun fr σ => ∃ (x77_15 : Bool), FrLe [(0, Sl.v a0), (1, .int .i64 a1), (7, .int .i64 x7_2), (67, .bool x66_4), (77, .bool x77_15)] fr ∧ j14_ref01_Number B ro a0 a1 x7_2 x66_4 Q x77_15 σ) ?_ ?_ ?_
    · intro h e18 hk18
      refine Lypb (V_move rfl rfl) rfl rfl rfl rfl e18 ?_
      refine Lypb (V_move rfl rfl) rfl rfl rfl rfl e18 ?_
      refine Lypb (V_add rfl rfl rfl) rfl rfl rfl rfl e18 ?_
      obtain ⟨p74_16, ha, h0, h1, h⟩ := h
      refine Lypb (V_ixA rfl Tryz.underlying30 ty5 (ixL rfl ha) rfl h0 h1) rfl rfl rfl rfl e18 ?_
      obtain ⟨x75_17, hc, h⟩ := h
      refine Lyb rfl rfl rfl rfl e18 (X_ld rfl Tryz.underlying5 rfl rfl hc ?_)
      refine Lypb (V_gtr rfl rfl rfl) rfl rfl rfl rfl e18 ?_
      refine Lypb (V_pickT rfl (evb e18) rfl) rfl rfl rfl rfl e15 ?_
      exact hk18 _ _ ⟨_, (FrLe.cons rfl (FrLe.cons rfl (FrLe.cons rfl (FrLe.cons rfl (FrLe.cons rfl (FrLe.nil _)))))), h⟩
    · intro h e18 hk18
      refine Ln rfl rfl rfl rfl (.inl (by rw [e18]; rfl)) ?_
      refine Ln rfl rfl rfl rfl (.inl (by rw [e18]; rfl)) ?_
      refine Ln rfl rfl rfl rfl (.inl (by rw [e18]; rfl)) ?_
      refine Ln rfl rfl rfl rfl (.inl (by rw [e18]; rfl)) ?_
      refine Ln rfl rfl rfl rfl (.inl (by rw [e18]; rfl)) ?_
      refine Ln rfl rfl rfl rfl (.inl (by rw [e18]; rfl)) ?_
      refine Lypb (V_pickF rfl (evb e18) rfl) rfl rfl rfl rfl e15 ?_
      exact hk18 _ _ ⟨_, (FrLe.cons rfl (FrLe.cons rfl (FrLe.cons rfl (FrLe.cons rfl (FrLe.cons rfl (FrLe.nil _)))))), h⟩
    rintro fr σ ⟨x77_15, hl, h⟩
    unfold j14_ref01_Number at h
    refine Lfr hl ?_
    refine Lp (V_pickF rfl (evb e15) rfl) rfl rfl ?_
    exact hk15 _ _ ⟨_, (FrLe.cons rfl (FrLe.cons rfl (FrLe.cons rfl (FrLe.cons rfl (FrLe.nil _))))), h⟩
  rintro fr σ ⟨x78_6, hl, h⟩
  unfold j5_ref01_Number at h
  refine Lfr hl ?_
  refine Lnil ?_
  refine thenN ?_
  refine AW.iff rfl Iff.rfl h (fun h => ?_) (fun h => ?_)
  · refine AW.seq ?_
    refine AW.reg ?_
    refine Lp (V_asg rfl rfl) rfl rfl ?_
    refine Lp (V_asg rfl rfl) rfl rfl ?_
    refine Lp (V_asg rfl rfl) rfl rfl ?_
    refine Lnil ?_
    refine thenN ?_
    refine AW.ret ?_
    refine thenR ?_
    exact bR3 Tryz.results120 rfl rfl rfl ⟨_, _, _, rfl, h⟩
  refine AW.skip ?_
  refine thenN ?_
  refine AW.seq ?_
  refine AW.reg ?_
  refine Lp (V_asg rfl rfl) rfl rfl ?_
  refine Lnil ?_
  refine thenN ?_
  refine AW.seqJ (fun fr σ => ∃ (x9_8 : Int), FrLe [(1, .int .i64 a1), (7, .int .i64 x7_2), (9, .int .i64 x9_8)] fr ∧ j7_ref01_Number B ro a1 x7_2 Q x9_8 σ) ?_ ?_
  · rintro fr σ ⟨x9_8, hl, h⟩
    refine AW.weaken ?_ hl (HLe.refl _)
    unfold j7_ref01_Number at h
    refine AW.seq ?_
    refine AW.reg ?_
    refine Lp (V_move rfl rfl) rfl rfl ?_
    refine Lp (V_move rfl rfl) rfl rfl ?_
    refine Lp (V_move rfl rfl) rfl rfl ?_
    refine Lp (V_add rfl rfl rfl) rfl rfl ?_
    refine Lp (V_add rfl rfl rfl) rfl rfl ?_
    refine Lp (V_asg rfl rfl) rfl rfl ?_
    refine Lp (V_asg rfl rfl) rfl rfl ?_
    refine Lp (V_asg rfl rfl) rfl rfl ?_
    refine Lnil ?_
    refine thenN ?_
    refine AW.ret ?_
    exact bR3 Tryz.results120 rfl rfl rfl ⟨_, _, _, rfl, h⟩
  refine AW.seq ?_
  refine AW.reg ?_
  refine Lp (V_move rfl rfl) rfl rfl ?_
  refine Lp (V_asg rfl rfl) rfl rfl ?_
  refine Lnil ?_
  refine thenN ?_
  refine AW.block ?_
  refine ARound.loop (fr' := [(0, Sl.v a0), (1, .int .i64 a1), (7, .int .i64 x7_2), (9, .int .i64 0), (10, .int .i64 x7_2)]) ?_ (FrLe.cons rfl (FrLe.cons rfl (FrLe.cons rfl (FrLe.cons rfl (FrLe.cons rfl (FrLe.nil _))))))
  refine h (fun ⟨x9_10, x10_11⟩ σ => ARound _ _ _ _ _ _ [(0, Sl.v a0), (1, .int .i64 a1), (7, .int .i64 x7_2), (9, .int .i64 x9_10), (10, .int .i64 x10_11)] σ) ?_
  rintro ⟨x9_10, x10_11⟩ σ Y9 hY9 h
  show AW _ _ _ _ _ _ _ _
  unfold l9_ref01_Number at h
  dsimp only at h
  refine AW.seq ?_
  refine AW.seq ?_
  refine AW.reg ?_
  refine Lp (V_move rfl rfl) rfl rfl ?_
  refine Lp (V_geq rfl rfl rfl) rfl rfl ?_
  refine Lnil ?_
  refine thenN ?_
  refine AW.iff rfl decide_eq_true_iff h (fun h => ?_) (fun h => ?_)
  rotate_left
  · refine AW.exit ?_
    refine thenE ?_
    refine thenE ?_
    refine blockE ?_
    refine thenN ?_
    exact ⟨_, (FrLe.cons rfl (FrLe.cons rfl (FrLe.cons rfl (FrLe.nil _)))), h⟩
  refine AW.skip ?_
  refine thenN ?_
  refine AW.seq ?_
  refine AW.block ?_
  refine AW.reg ?_
  refine Lp (V_move rfl rfl) rfl rfl ?_
  refine Lp (V_mul rfl rfl rfl) rfl rfl ?_
  refine Lp (V_move rfl rfl) rfl rfl ?_
  refine Lp (V_move rfl rfl) rfl rfl ?_
  refine Lp (V_move rfl rfl) rfl rfl ?_
  refine Lp (V_add rfl rfl rfl) rfl rfl ?_
  obtain ⟨p90_12, ha, h0, h1, h⟩ := h
  refine Lp (V_ixA rfl Tryz.underlying30 ty5 (ixL rfl ha) rfl h0 h1) rfl rfl ?_
  obtain ⟨x91_13, hc, h⟩ := h
  refine Ls rfl rfl (X_ld rfl Tryz.underlying5 rfl rfl hc ?_)
  refine Lp (V_cvt rfl rfl Tryz.underlying5 Tryz.underlying3) rfl rfl ?_
  refine Lp (V_rem rfl rfl rfl (by decide)) rfl rfl ?_
  refine Lp (V_add rfl rfl rfl) rfl rfl ?_
  refine Lp (V_asg rfl rfl) rfl rfl ?_
  refine Lnil ?_
  refine blockN ?_
  refine thenN ?_
  refine AW.reg ?_
  refine Lp (V_move rfl rfl) rfl rfl ?_
  refine Lp (V_sub rfl rfl rfl) rfl rfl ?_
  refine Lp (V_asg rfl rfl) rfl rfl ?_
  refine Lnil ?_
  refine thenN ?_
  refine ARound.head (fr' := [(0, Sl.v a0), (1, .int .i64 a1), (7, .int .i64 x7_2), (9, .int .i64 (IntKind.i64.wrap ((IntKind.i64.wrap (x9_10 * 128)) + (Int.tmod (IntKind.i64.wrap x91_13) 128)))), (10, .int .i64 (IntKind.i64.wrap (x10_11 - 1)))]) ?_ (FrLe.cons rfl (FrLe.cons rfl (FrLe.cons rfl (FrLe.cons rfl (FrLe.cons rfl (FrLe.nil _))))))
  exact hY9 _ _ h

end Go.Proofs.YthfpmipeejjogaaGreatDoor.G

/- The laws of the tree, the walk: a tree behind a script. -/
namespace Go.Proofs.YthfpmipeejjogaaGreatDoor.Zt
open Go Go.Proofs.YthfpmipeejjogaaGreatDoor.SL Go.Proofs.YthfpmipeejjogaaGreatDoor.G Go.Proofs.YthfpmipeejjogaaGreatDoor.Pa
set_option linter.unusedSimpArgs false
set_option linter.unusedVariables false
variable {B : World} {ro σ σ' : AH} {tag tag' : Nat → Nat}

theorem TreeIs.del {r T b : Nat} {st : St} (h : TreeIs tag σ r T st) (hr : r < 64) (hr0 : r ≠ 0) (hb : tag b = 0) : TreeIs tag (SL.del σ b) r T st := by
  obtain ⟨M, bs, h⟩ := h
  refine ⟨M, bs, h.keys, h.len, h.nd, h.cell.del hb hr0, h.map.del (by rw [hb]; omega), fun i c p hc hp => ?_⟩
  obtain ⟨s, h1, h2⟩ := h.nodes i c p hc hp
  exact ⟨s, h1.del hb (by omega), h2.del hb (by omega)⟩
theorem TreeIs.back {r T b r' : Nat} {st : St} {τ : AH} (h : TreeIs tag' τ r T st) (hd : Disj (SL.one σ b) τ) (hb : ∃ o, σ b = some o) : TreeIs (setTag tag' b r') (join (SL.one σ b) τ) r T st := by
  obtain ⟨M, bs, h⟩ := h
  refine ⟨M, bs, h.keys, h.len, h.nd, h.cell.back hd hb, h.map.back hd hb, fun i c p hc hp => ?_⟩
  obtain ⟨s, h1, h2⟩ := h.nodes i c p hc hp
  exact ⟨s, h1.back hd hb, h2.back hd hb⟩

set_option maxRecDepth 100000 in
theorem copy_ok {s : Sl} {l : List Value} {Q : Sl → AH → Prop} (h : SL.Read ro σ s l) (hs : SL.Sep ro σ) (hl : l.length ≤ 140737488355328) (hv : ∀ v ∈ l, storable v = true) (hQ : ∀ s' tag' σ', (∀ R, Step R ro tag σ tag' σ') → Row tag' σ' 6 5 s' l → Q s' σ') : c_ref01_Copy B ro s σ Q := by
  refine ref01_Copy_ok fun _ => ?_
  unfold f_ref01_Copy
  refine nw_cells (tag := tag) 0 hs fun b tag1 σ1 st1 r1 => ?_
  refine ref01_Join_ok fun _ => ?_
  unfold f_ref01_Join
  refine nw_cells (tag := tag1) 6 (st1 []).sep fun c tag2 σ2 st2 r2 => ?_
  have r1' := r1.keep (st2 []) (by simp)
  have h2 : SL.Read ro σ2 s l := (h.step (st1 [])).step (st2 [])
  refine lfpD.intro ?_
  unfold l4_ref01_Join
  simp only
  rw [if_pos (by decide)]
  obtain ⟨p, hp, hg⟩ := r1'.ptr (st2 []).sep (by simp)
  cases hp
  refine ⟨_, rfl, by decide, by decide, s, hg 0 _ rfl, ?_⟩
  refine awp_appendN r2 (st2 []).sep h2 u30 ty5 rfl hv (by simp; omega) (by decide) fun s' tag3 σ3 st3 r3 => ?_
  refine ⟨s', rfl, ?_⟩
  rw [show IntKind.i64.wrap (0 + 1) = 1 from by decide]
  refine lfpD.intro ?_
  show (if (1 : Int) < ((1 : Nat) : Int) then _ else _)
  rw [if_neg (by decide)]
  unfold j2_ref01_Join
  exact hQ s' tag3 σ3 (fun R => (st1 R).trans ((st2 R).trans (st3 R (.inl rfl)))) r3

end Go.Proofs.YthfpmipeejjogaaGreatDoor.Zt

/- What a call does to a tree, in one of two ways; what holds of all trees behind scripts. -/
namespace Go.Proofs.YthfpmipeejjogaaGreatDoor.Zt
open Go Go.Proofs.YthfpmipeejjogaaGreatDoor.SL Go.Proofs.YthfpmipeejjogaaGreatDoor.Pa Go.Proofs.YthfpmipeejjogaaGreatDoor.Wi
set_option linter.unusedSimpArgs false
set_option linter.unusedVariables false

theorem create_spec (st : St) (p d : Str) (o : Int) (seq : Bool) : (∃ e, e ≠ 0 ∧ create st p d o seq = (st, [], e)) ∨
    ∃ q u n, create st p d o seq = (modN (st ++ [(q, ⟨0, 0, o, 0, d⟩)]) u bump, q, 0) ∧ st.lookup u = some n ∧ n.own = 0 ∧ ¬ 9999999999 < n.ctr ∧ st.lookup q = none ∧ parent q = some u ∧ d.length ≤ 256 ∧ 0 ≤ o ∧ o ≤ 4611686018427387903 := by
  unfold create
  cases hp : parent p with
  | none => exact .inl ⟨20, by decide, rfl⟩
  | some u =>
    simp only
    by_cases h1 : 256 < d.length
    · rw [if_pos h1]; exact .inl ⟨75, by decide, rfl⟩
    rw [if_neg h1]
    by_cases h2 : o < 0 ∨ 4611686018427387903 < o
    · rw [if_pos h2]; exact .inl ⟨10, by decide, rfl⟩
    rw [if_neg h2]
    cases hn : st.lookup u with
    | none => exact .inl ⟨70, by decide, rfl⟩
    | some n =>
      simp only
      by_cases h3 : n.own ≠ 0
      · rw [if_pos h3]; exact .inl ⟨74, by decide, rfl⟩
      rw [if_neg h3]
      by_cases h4 : 9999999999 < n.ctr
      · rw [if_pos h4]; exact .inl ⟨76, by decide, rfl⟩
      rw [if_neg h4]
      have fin : ∀ q, parent q = some u → (∃ e, e ≠ 0 ∧ (if (st.lookup q).isSome = true then (st, ([] : Str), (71 : Int)) else (modN (st ++ [(q, ⟨0, 0, o, 0, d⟩)]) u bump, q, 0)) = (st, [], e)) ∨
          ∃ q' u' n', (if (st.lookup q).isSome = true then (st, ([] : Str), (71 : Int)) else (modN (st ++ [(q, ⟨0, 0, o, 0, d⟩)]) u bump, q, 0)) = (modN (st ++ [(q', ⟨0, 0, o, 0, d⟩)]) u' bump, q', 0) ∧ st.lookup u' = some n' ∧ n'.own = 0 ∧ ¬ 9999999999 < n'.ctr ∧ st.lookup q' = none ∧ parent q' = some u' ∧ d.length ≤ 256 ∧ 0 ≤ o ∧ o ≤ 4611686018427387903 := fun q hq => by
        by_cases h5 : (st.lookup q).isSome = true
        · rw [if_pos h5]; exact .inl ⟨71, by decide, rfl⟩
        · rw [if_neg h5]
          exact .inr ⟨q, u, n, rfl, hn, by simpa using h3, h4, (by
            cases e : st.lookup q with
            | none => rfl
            | some y => rw [e] at h5; exact absurd rfl h5), hq, by omega, by omega, by omega⟩
      by_cases hs : seq = true
      · rw [if_pos hs]
        cases hsf : suffix p n.ctr with
        | none => exact .inl ⟨20, by decide, rfl⟩
        | some q =>
          obtain ⟨ps, _, hpq⟩ := suffix_parent hsf
          exact fin q (by rw [hpq, hp])
      · rw [if_neg hs]
        exact fin p hp
theorem remove_spec (st : St) (p : Str) (v : Int) : (∃ e, e ≠ 0 ∧ remove st p v = (st, e)) ∨
    ∃ n u, remove st p v = (delK (modN st u less) p, 0) ∧ st.lookup p = some n ∧ p ≠ [47] ∧ parent p = some u ∧ ¬ 0 < n.kids := by
  unfold remove
  by_cases h0 : p = [47] ∨ parts p = none
  · rw [if_pos h0]; exact .inl ⟨20, by decide, rfl⟩
  rw [if_neg h0]
  cases hn : st.lookup p with
  | none => exact .inl ⟨70, by decide, rfl⟩
  | some n =>
    simp only
    by_cases h1 : v ≠ -1 ∧ v ≠ n.ver
    · rw [if_pos h1]; exact .inl ⟨72, by decide, rfl⟩
    rw [if_neg h1]
    by_cases h2 : 0 < n.kids
    · rw [if_pos h2]; exact .inl ⟨73, by decide, rfl⟩
    rw [if_neg h2]
    simp only [not_or] at h0
    obtain ⟨ps, hps⟩ : ∃ ps, parts p = some ps := by
      cases e : parts p with
      | none => exact absurd e h0.2
      | some ps => exact ⟨ps, rfl⟩
    obtain ⟨u, hu⟩ := parent_some hps h0.1
    rw [hu]
    exact .inr ⟨n, u, rfl, rfl, h0.1, rfl, h2⟩
theorem setD_spec (st : St) (p d : Str) (v : Int) : (∃ e, e ≠ 0 ∧ setD st p d v = (st, 0, e)) ∨
    ∃ n, setD st p d v = (modN st p (setNd d), IntKind.i64.wrap (n.ver + 1), 0) ∧ st.lookup p = some n ∧ p ≠ [47] ∧ d.length ≤ 256 := by
  unfold setD
  by_cases h0 : p = [47] ∨ parts p = none
  · rw [if_pos h0]; exact .inl ⟨20, by decide, rfl⟩
  rw [if_neg h0]
  by_cases h1 : 256 < d.length
  · rw [if_pos h1]; exact .inl ⟨75, by decide, rfl⟩
  rw [if_neg h1]
  cases hn : st.lookup p with
  | none => exact .inl ⟨70, by decide, rfl⟩
  | some n =>
    simp only
    by_cases h2 : v ≠ -1 ∧ v ≠ n.ver
    · rw [if_pos h2]; exact .inl ⟨72, by decide, rfl⟩
    rw [if_neg h2]
    simp only [not_or] at h0
    exact .inr ⟨n, rfl, rfl, h0.1, by omega⟩

/-- what holds of a tree behind at most b calls -/
structure InvB (b : Nat) (st : St) : Prop where
  inv : Inv st
  ver : ∀ k n, st.lookup k = some n → 0 ≤ n.ver ∧ n.ver ≤ b
  own : ∀ k n, st.lookup k = some n → 0 ≤ n.own ∧ n.own ≤ 4611686018427387903 ∧ (n.own ≠ 0 → n.ctr = 0)
  rt : ∀ n, st.lookup [47] = some n → n.data = [] ∧ n.ver = 0 ∧ n.own = 0
  len : st.length ≤ b + 1
theorem InvB.mono {b c : Nat} {st : St} (h : InvB b st) (hc : b ≤ c) : InvB c st :=
  ⟨h.inv, fun k n hk => by have := h.ver k n hk; omega, h.own, h.rt, by have := h.len; omega⟩
theorem Inv.ctr0 {st : St} (h : Inv st) {k : Str} {n : Nd} (hk : st.lookup k = some n) : 0 ≤ n.ctr := by
  have h1 := h.kids k n hk
  have h2 := (h.ctr k n hk).1
  omega
theorem InvB.inv3 {b : Nat} {st : St} (h : InvB b st) (hb : b ≤ 4611686018427387903) : Inv3 st := by
  refine ⟨h.inv, fun k n hk => ⟨?_, (h.own k n hk).2.2⟩, h.rt⟩
  have h1 := h.ver k n hk
  have h2 := h.own k n hk
  have h3 := h.inv.ctr k n hk
  have h4 := h.inv.ctr0 hk
  unfold numsOk rightN
  simp only [Bool.and_eq_true, decide_eq_true_eq]
  omega
theorem invB_new : InvB 0 St.new := by
  have hl : ∀ k n, St.new.lookup k = some n → n = ⟨0, 0, 0, 0, []⟩ := fun k n h => by
    unfold St.new at h
    rw [List.lookup_cons] at h
    split at h
    · exact (Option.some.inj h).symm
    · cases h
  refine ⟨inv_new, fun k n h => ?_, fun k n h => ?_, fun n h => ?_, by decide⟩
  · rw [hl k n h]; decide
  · rw [hl k n h]; decide
  · rw [hl _ n h]; exact ⟨rfl, rfl, rfl⟩
theorem invB_create {b : Nat} {st : St} {p d : Str} {o : Int} {seq : Bool} (h : InvB b st) (hb : b ≤ 4398046511103) : InvB (b + 1) (create st p d o seq).1 := by
  have hi := inv_create (p := p) (d := d) (o := o) (seq := seq) h.inv (by have := h.len; omega)
  have hlen := create_len st p d o seq
  rcases create_spec st p d o seq with ⟨e, _, he⟩ | ⟨q, u, n, he, hu, hown, hctr, hq, hpq, hd, ho1, ho2⟩
  · rw [he]; exact h.mono (by omega)
  · rw [he] at hi hlen ⊢
    simp only at hi hlen ⊢
    have hl : ∀ k m, (modN (st ++ [(q, ⟨0, 0, o, 0, d⟩)]) u bump).lookup k = some m → (∃ m', (st.lookup k = some m' ∨ (k = q ∧ m' = ⟨0, 0, o, 0, d⟩)) ∧ (m = m' ∨ (k = u ∧ m = bump m'))) := fun k m hk => by
      rw [lookup_mod, lookup_app] at hk
      have base : ∀ x, (match st.lookup k with | some m => some m | none => if k = q then some (⟨0, 0, o, 0, d⟩ : Nd) else none) = some x → st.lookup k = some x ∨ (k = q ∧ x = ⟨0, 0, o, 0, d⟩) := fun x hx => by
        cases e : st.lookup k with
        | some y => rw [e] at hx; exact .inl hx
        | none =>
          rw [e] at hx
          simp only at hx
          split at hx
          · rename_i hkq; exact .inr ⟨hkq, (Option.some.inj hx).symm⟩
          · cases hx
      split at hk
      · rename_i hku
        obtain ⟨m', h1, h2⟩ := Option.map_eq_some_iff.1 hk
        exact ⟨m', base m' h1, .inr ⟨hku, h2.symm⟩⟩
      · exact ⟨m, base m hk, .inl rfl⟩
    refine ⟨hi, fun k m hk => ?_, fun k m hk => ?_, fun m hk => ?_, by have := h.len; omega⟩
    · obtain ⟨m', h1, h2⟩ := hl k m hk
      have h3 : 0 ≤ m'.ver ∧ m'.ver ≤ (b + 1 : Nat) := by
        rcases h1 with h1 | ⟨_, rfl⟩
        · have := h.ver k m' h1; omega
        · simp only; omega
      rcases h2 with rfl | ⟨_, rfl⟩
      · exact h3
      · exact h3
    · obtain ⟨m', h1, h2⟩ := hl k m hk
      rcases h2 with rfl | ⟨hku, rfl⟩
      · rcases h1 with h1 | ⟨_, rfl⟩
        · exact h.own k m h1
        · exact ⟨ho1, ho2, fun _ => rfl⟩
      · rcases h1 with h1 | ⟨hkq, _⟩
        · rw [hku, hu] at h1
          obtain rfl := Option.some.inj h1
          exact ⟨by show 0 ≤ n.own; omega, by show n.own ≤ _; omega, fun hn => absurd hown hn⟩
        · rw [hkq] at hku
          rw [hku] at hq
          rw [hq] at hu; cases hu
    · obtain ⟨m', h1, h2⟩ := hl _ m hk
      have h3 : m'.data = [] ∧ m'.ver = 0 ∧ m'.own = 0 := by
        rcases h1 with h1 | ⟨hkq, _⟩
        · exact h.rt m' h1
        · rw [← hkq, root_parent] at hpq; cases hpq
      rcases h2 with rfl | ⟨_, rfl⟩
      · exact h3
      · exact h3
theorem invB_remove {b : Nat} {st : St} {p : Str} {v : Int} (h : InvB b st) (hb : b ≤ 4398046511103) : InvB (b + 1) (remove st p v).1 := by
  have hi := inv_remove (p := p) (v := v) h.inv (by have := h.len; omega)
  have hlen := remove_len st p v
  rcases remove_spec st p v with ⟨e, _, he⟩ | ⟨n, u, he, hn, hne, hu, hk⟩
  · rw [he]; exact h.mono (by omega)
  · rw [he] at hi hlen ⊢
    simp only at hi hlen ⊢
    have hnd : ((modN st u less).map (·.1)).Nodup := by rw [keys_mod]; exact h.inv.keys
    have hl : ∀ k m, (delK (modN st u less) p).lookup k = some m → ∃ m', st.lookup k = some m' ∧ (m = m' ∨ m = less m') := fun k m hk => by
      rw [lookup_del hnd] at hk
      split at hk
      · cases hk
      · rw [lookup_mod] at hk
        split at hk
        · obtain ⟨m', h1, h2⟩ := Option.map_eq_some_iff.1 hk
          exact ⟨m', h1, .inr h2.symm⟩
        · exact ⟨m, hk, .inl rfl⟩
    refine ⟨hi, fun k m hk => ?_, fun k m hk => ?_, fun m hk => ?_, by have := h.len; omega⟩
    · obtain ⟨m', h1, h2⟩ := hl k m hk
      have := h.ver k m' h1
      rcases h2 with rfl | rfl
      · omega
      · show 0 ≤ m'.ver ∧ m'.ver ≤ _; omega
    · obtain ⟨m', h1, h2⟩ := hl k m hk
      have := h.own k m' h1
      rcases h2 with rfl | rfl
      · exact this
      · exact this
    · obtain ⟨m', h1, h2⟩ := hl _ m hk
      have := h.rt m' h1
      rcases h2 with rfl | rfl
      · exact this
      · exact this
theorem invB_set {b : Nat} {st : St} {p d : Str} {v : Int} (h : InvB b st) (hb : b ≤ 4398046511103) : InvB (b + 1) (setD st p d v).1 := by
  have hi := inv_set (p := p) (d := d) (v := v) h.inv
  have hlen := setD_len st p d v
  rcases setD_spec st p d v with ⟨e, _, he⟩ | ⟨n, he, hn, hne, hd⟩
  · rw [he]; exact h.mono (by omega)
  · rw [he] at hi hlen ⊢
    simp only at hi hlen ⊢
    have hl : ∀ k m, (modN st p (setNd d)).lookup k = some m → ∃ m', st.lookup k = some m' ∧ (m = m' ∨ (k = p ∧ m = setNd d m')) := fun k m hk => by
      rw [lookup_mod] at hk
      split at hk
      · rename_i hkp
        obtain ⟨m', h1, h2⟩ := Option.map_eq_some_iff.1 hk
        exact ⟨m', h1, .inr ⟨hkp, h2.symm⟩⟩
      · exact ⟨m, hk, .inl rfl⟩
    refine ⟨hi, fun k m hk => ?_, fun k m hk => ?_, fun m hk => ?_, by have := h.len; omega⟩
    · obtain ⟨m', h1, h2⟩ := hl k m hk
      have := h.ver k m' h1
      rcases h2 with rfl | ⟨_, rfl⟩
      · omega
      · show 0 ≤ IntKind.i64.wrap (m'.ver + 1) ∧ IntKind.i64.wrap (m'.ver + 1) ≤ _
        rw [w64_eq (by omega) (by omega)]; omega
    · obtain ⟨m', h1, h2⟩ := hl k m hk
      have := h.own k m' h1
      rcases h2 with rfl | ⟨_, rfl⟩
      · exact this
      · exact this
    · obtain ⟨m', h1, h2⟩ := hl _ m hk
      rcases h2 with rfl | ⟨hkp, _⟩
      · exact h.rt m h1
      · exact absurd hkp.symm hne
/-- a path is at most 128 letters, a node's bytes at most 256 -/
theorem Inv.small {st : St} (h : Inv st) : ∀ p ∈ st, p.1.length ≤ 128 ∧ p.2.data.length ≤ 256 := fun p hp => by
  have hl := (lookup_iff h.keys (k := p.1) (n := p.2)).2 hp
  obtain ⟨ps, hps⟩ := h.path _ _ hl
  obtain ⟨e, hg⟩ := parts_iff.1 hps
  exact ⟨by rw [e]; exact hg.len, h.data _ _ hl⟩

/-! what a call that is not refused changes -/
end Go.Proofs.YthfpmipeejjogaaGreatDoor.Zt

/- ZtreeShape, the walk. -/
namespace Go.Proofs.YthfpmipeejjogaaGreatDoor.Zt
open Go Go.Proofs.YthfpmipeejjogaaGreatDoor.SL Go.Proofs.YthfpmipeejjogaaGreatDoor.G Go.Proofs.YthfpmipeejjogaaGreatDoor.Pa
set_option linter.unusedSimpArgs false
set_option linter.unusedVariables false
variable {B : World} {ro σ σ' : AH} {tag tag' : Nat → Nat}

theorem u5 : Tryz.prog.underlying 5 = some (.int .u8) := by kernel_rfl
end Go.Proofs.YthfpmipeejjogaaGreatDoor.Zt

/- Rows whose elements take several cells. Generic over any program. -/
namespace Go.Proofs.YthfpmipeejjogaaGreatDoor.SL
open Go
set_option linter.unusedVariables false
set_option linter.unusedSimpArgs false
variable {P : Program} {B : World} {ro σ σ' : AH} {tag tag' : Nat → Nat}

theorem flat_len {w : Nat} : ∀ {l : List (List Value)}, (∀ x ∈ l, x.length = w) → l.flatten.length = l.length * w := by
  intro l
  induction l with
  | nil => intro _; simp
  | cons x l ih => intro h; rw [List.flatten_cons, List.length_append, h x (by simp), ih fun y hy => h y (by simp [hy]), List.length_cons, Nat.add_mul]; omega
theorem flat_get {w : Nat} : ∀ {l : List (List Value)}, (∀ x ∈ l, x.length = w) → ∀ {j : Nat} {x : List Value} {i : Nat}, l[j]? = some x → i < w → l.flatten[j * w + i]? = x[i]? := by
  intro l
  induction l with
  | nil => intro _ j x i h; cases h
  | cons y l ih =>
    intro h j x i hj hi
    rw [List.flatten_cons]
    have hy := h y (by simp)
    rcases j with _ | j
    · cases hj
      rw [Nat.zero_mul, Nat.zero_add, List.getElem?_append_left (by omega)]
    · rw [List.getElem?_append_right (by rw [hy, Nat.add_mul]; omega), hy, show (j + 1) * w + i - w = j * w + i by rw [Nat.add_mul]; omega]
      exact ih (fun z hz => h z (by simp [hz])) (by simpa using hj) hi
theorem flat_set {w : Nat} : ∀ {l : List (List Value)}, (∀ x ∈ l, x.length = w) → ∀ {j : Nat} {x : List Value} {i : Nat} (v : Value), l[j]? = some x → i < w → l.flatten.set (j * w + i) v = (l.set j (x.set i v)).flatten := by
  intro l
  induction l with
  | nil => intro _ j x i v h; cases h
  | cons y l ih =>
    intro h j x i v hj hi
    have hy := h y (by simp)
    rcases j with _ | j
    · cases hj
      rw [List.flatten_cons, Nat.zero_mul, Nat.zero_add, List.set_append_left _ _ (by omega)]; rfl
    · rw [List.flatten_cons, List.set_append_right _ _ (by rw [hy, Nat.add_mul]; omega), hy, show (j + 1) * w + i - w = j * w + i by rw [Nat.add_mul]; omega, ih (fun z hz => h z (by simp [hz])) v (by simpa using hj) hi]
      rfl

/-- a row of elements of w cells each, of one role -/
def RowW (tag : Nat → Nat) (σ : AH) (r : Nat) (e : TypeId) (w : Nat) (s : Sl) (l : List (List Value)) : Prop :=
  (s = ⟨none, 0, 0⟩ ∧ l = []) ∨ ∃ (b : Nat) (cs : Array Value), s.a = some ⟨b, 0, none⟩ ∧ tag b = r ∧ σ b = some (.cells cs e) ∧ s.len = l.length ∧ cs.size = s.cap * w ∧ s.len ≤ s.cap ∧ (∀ x ∈ l, x.length = w) ∧ ∀ (i : Nat) (v : Value), l.flatten[i]? = some v → cs[i]? = some v
theorem RowW.nil (r : Nat) (e : TypeId) (w : Nat) : RowW tag σ r e w ⟨none, 0, 0⟩ [] := .inl ⟨rfl, rfl⟩
theorem RowW.len {r : Nat} {e : TypeId} {w : Nat} {s : Sl} {l : List (List Value)} (h : RowW tag σ r e w s l) : s.len = l.length := by
  rcases h with ⟨rfl, rfl⟩ | ⟨b, cs, _, _, _, h, _⟩
  · rfl
  · exact h
theorem RowW.cap {r : Nat} {e : TypeId} {w : Nat} {s : Sl} {l : List (List Value)} (h : RowW tag σ r e w s l) : s.len ≤ s.cap := by
  rcases h with ⟨rfl, rfl⟩ | ⟨b, cs, _, _, _, _, _, h, _⟩
  · exact Nat.le_refl _
  · exact h
theorem RowW.wide {r : Nat} {e : TypeId} {w : Nat} {s : Sl} {l : List (List Value)} (h : RowW tag σ r e w s l) : ∀ x ∈ l, x.length = w := by
  rcases h with ⟨rfl, rfl⟩ | ⟨b, cs, _, _, _, _, _, _, h, _⟩
  · intro x hx; cases hx
  · exact h
theorem RowW.keep {R : List Nat} {r : Nat} {e : TypeId} {w : Nat} {s : Sl} {l : List (List Value)} (h : RowW tag σ r e w s l) (k : Step R ro tag σ tag' σ') (hr : r ∉ R) : RowW tag' σ' r e w s l := by
  rcases h with h | ⟨b, cs, ha, ht, hs, hx⟩
  · exact .inl h
  · obtain ⟨t, e⟩ := k.keep b _ hs (by rw [ht]; exact hr)
    exact .inr ⟨b, cs, ha, t.trans ht, e, hx⟩
theorem RowW.keepC {c r : Nat} {e : TypeId} {w : Nat} {s : Sl} {l : List (List Value)} (h : RowW tag σ r e w s l) (k : StepC c ro tag σ tag' σ') (hr : r % 64 ≠ c) : RowW tag' σ' r e w s l := by
  obtain ⟨R, h1, h2⟩ := k
  exact h.keep h2 fun m => hr (h1 _ m)
/-- what stands in an element -/
theorem RowW.get {r : Nat} {e : TypeId} {w : Nat} {s : Sl} {l : List (List Value)} (h : RowW tag σ r e w s l) (hs : Sep ro σ) {j : Nat} {x : List Value} (hj : l[j]? = some x) :
    ∃ b, s.a = some ⟨b, 0, none⟩ ∧ tag b = r ∧ ∀ i v, x[i]? = some v → acell ro σ ⟨b, j * w + i, none⟩ = some v := by
  rcases h with ⟨_, rfl⟩ | ⟨b, cs, ha, ht, hb, hln, hc, hle, hw, hg⟩
  · cases hj
  · refine ⟨b, ha, ht, fun i v hv => ?_⟩
    have hx : x.length = w := hw x (List.mem_of_getElem? hj)
    have hi : i < w := by
      rcases Nat.lt_or_ge i w with h | h
      · exact h
      · rw [List.getElem?_eq_none (by omega)] at hv; cases hv
    have := hg (j * w + i) v (by rw [flat_get hw hj hi]; exact hv)
    unfold acell rd
    simp only [hs b _ hb, hb, cellOf]
    exact this
theorem RowW.block {r : Nat} {e : TypeId} {w : Nat} {b n c : Nat} {l : List (List Value)} (h : RowW tag σ r e w ⟨some ⟨b, 0, none⟩, n, c⟩ l) : tag b = r ∧ ∃ cs, σ b = some (.cells cs e) ∧ cs.size = c * w := by
  rcases h with ⟨h, _⟩ | ⟨b', cs, ha, ht, hb, _, hc, _⟩
  · cases h
  · cases ha; exact ⟨ht, cs, hb, hc⟩
/-- a cell of an element anew -/
theorem RowW.st {r : Nat} {e : TypeId} {w : Nat} {s : Sl} {l : List (List Value)} {b j i : Nat} {x : List Value} {v : Value} {K : AH → Prop} (h : RowW tag σ r e w s l) (hs : Sep ro σ) (ha : s.a = some ⟨b, 0, none⟩) (hj : l[j]? = some x) (hi : i < w) (hv : storable v = true)
    (hK : ∀ σ', Step [r] ro tag σ tag σ' → RowW tag σ' r e w s (l.set j (x.set i v)) → K σ') : stN ⟨b, j * w + i, none⟩ K [v] 0 σ := by
  rcases h with ⟨_, rfl⟩ | ⟨b', cs, ha', ht, hb, hln, hc, hle, hw, hg⟩
  · cases hj
  · rw [ha] at ha'; cases ha'
    have hjl : j < l.length := by
      rcases Nat.lt_or_ge j l.length with h | h
      · exact h
      · rw [List.getElem?_eq_none h] at hj; cases hj
    have hlt : j * w + i < cs.size := by
      rw [hc]
      have : (j + 1) * w ≤ s.cap * w := Nat.mul_le_mul_right _ (by omega)
      rw [Nat.add_mul] at this; omega
    have hfl := flat_len hw
    have hfi : j * w + i < l.flatten.length := by
      rw [hfl]
      have : (j + 1) * w ≤ l.length * w := Nat.mul_le_mul_right _ (by omega)
      rw [Nat.add_mul] at this; omega
    refine ⟨hv, by simp, cs, e, (0, 0), by simpa using hb, by simpa using hlt, by simp, ?_⟩
    simp only [add_zero, stN]
    refine hK _ (step_obj hs ht hb) (.inr ⟨b, _, ha, ht, upd_same _ _ _, by simp [hln], by simp [hc], hle, ?_, ?_⟩)
    · intro y hy
      rcases List.mem_or_eq_of_mem_set hy with h | h
      · exact hw y h
      · rw [h, List.length_set]; exact hw x (List.mem_of_getElem? hj)
    · intro k u hk
      rw [← flat_set hw v hj hi] at hk
      by_cases hkj : j * w + i = k
      · subst hkj
        rw [List.getElem?_set_self hfi] at hk
        rw [Array.getElem?_setIfInBounds_self_of_lt hlt]; exact hk
      · rw [List.getElem?_set_ne hkj] at hk
        rw [Array.getElem?_setIfInBounds_ne hkj]; exact hg k u hk

/-- elements of w cells in memory, wherever -/
def ReadW (ro σ : AH) (w : Nat) (s : Sl) (l : List (List Value)) : Prop := s.len = l.length ∧ (s.a = none → l = []) ∧ (∀ x ∈ l, x.length = w) ∧ ∀ p, s.a = some p → ∀ (i : Nat) (v : Value), l.flatten[i]? = some v → acell ro σ (p.add i) = some v
theorem RowW.read {r : Nat} {e : TypeId} {w : Nat} {s : Sl} {l : List (List Value)} (h : RowW tag σ r e w s l) (hs : Sep ro σ) : ReadW ro σ w s l := by
  refine ⟨h.len, fun hn => ?_, h.wide, fun p hp i v hv => ?_⟩
  · rcases h with ⟨_, rfl⟩ | ⟨b, cs, ha, _⟩
    · rfl
    · rw [hn] at ha; cases ha
  · rcases h with ⟨_, rfl⟩ | ⟨b, cs, ha, ht, hb, _, _, _, _, hg⟩
    · cases hv
    · rw [hp] at ha; cases ha
      unfold acell rd
      simp only [add_add, Nat.zero_add, hs b _ hb, hb, cellOf]
      exact hg i v hv
theorem ReadW.flat {w : Nat} {s : Sl} {l : List (List Value)} (h : ReadW ro σ w s l) : l.flatten.length = s.len * w := by rw [flat_len h.2.2.1, h.1]
theorem ReadW.keep {w : Nat} {s : Sl} {l : List (List Value)} (h : ReadW ro (fun _ => none) w s l) : ReadW ro σ w s l := by
  refine ⟨h.1, h.2.1, h.2.2.1, fun p hp i v hv => ?_⟩
  have := h.2.2.2 p hp i v hv
  unfold acell rd at this ⊢
  cases e : ro (p.add i).block with
  | some o => rw [e] at this; exact this
  | none => rw [e] at this; simp [cellOf] at this
theorem ReadW.step {w : Nat} {s : Sl} {l : List (List Value)} (h : ReadW ro σ w s l) (k : Step [] ro tag σ tag' σ') : ReadW ro σ' w s l := by
  refine ⟨h.1, h.2.1, h.2.2.1, fun p hp i v hv => ?_⟩
  have := h.2.2.2 p hp i v hv
  unfold acell rd at this ⊢
  cases e : ro (p.add i).block with
  | some o => rw [e] at this; exact this
  | none =>
    rw [e] at this
    simp only at this ⊢
    cases e2 : σ (p.add i).block with
    | none => rw [e2] at this; simp [cellOf] at this
    | some o => rw [(k.keep _ o e2 (by simp)).2]; rw [e2] at this; exact this

theorem awp_appendW {r : Nat} {e t : TypeId} {w : Nat} {s s2 : Sl} {l l2 : List (List Value)} {zv : Value} {bytes : Nat} {ty : TypeId} {Q : Value → AH → Prop} (h : RowW tag σ r e w s l) (hs : Sep ro σ) (h2 : ReadW ro σ w s2 l2)
    (ht : P.underlying t = some (.slice e)) (hz : TyIs P e zv w bytes) (hzc : zv.cells.size = w) (hv : ∀ x ∈ l2, ∀ v ∈ x, storable v = true) (hb : (l.length + l2.length) * bytes ≤ 140737488355328) (hb0 : 0 < bytes)
    (hK : ∀ s' tag' σ', (∀ R, s.len = s.cap ∨ r ∈ R → Step R ro tag σ tag' σ') → RowW tag' σ' r e w s' (l ++ l2) → Q (Sl.v s') σ') :
    awp P ro (Builtin.append_ #[t, t] ty #[Sl.v s, Sl.v s2]) Q σ := by
  obtain ⟨i, hi, hiz, his, hib⟩ := hz
  have hz : TyIs P e zv w bytes := ⟨i, hi, hiz, his, hib⟩
  have g0 : (#[t, t] : Array TypeId)[0]? = some t := rfl
  have g1 : (#[t, t] : Array TypeId)[1]? = some t := rfl
  have g2 : (#[Value.slice s.a s.len s.cap, Value.slice s2.a s2.len s2.cap] : Array Value)[0]? = some (Value.slice s.a s.len s.cap) := rfl
  have g3 : (#[Value.slice s.a s.len s.cap, Value.slice s2.a s2.len s2.cap] : Array Value)[1]? = some (Value.slice s2.a s2.len s2.cap) := rfl
  have hln := h2.1
  have hfl2 := h2.flat
  have hvf : ∀ v ∈ l2.flatten, storable v = true := fun v hm => by
    obtain ⟨x, hx, hm⟩ := List.mem_flatten.1 hm
    exact hv x hx v hm
  have hld : ∀ {β : Type} (f : Array Value → Sem β) (Q : β → AH → Prop), awp P ro (f l2.flatten.toArray) Q σ → awp P ro (Sem.bind (Builtin.firstCells w s2.len (.slice s2.a s2.len s2.cap)) f) Q σ := by
    intro β f Q hf
    cases hsa : s2.a with
    | none =>
      rw [h2.2.1 hsa] at hf
      exact hf
    | some p =>
      rw [show Sem.bind (Builtin.firstCells w s2.len (.slice (some p) s2.len s2.cap)) f = (loadCells p (s2.len * w)) >>= f from rfl, awp_bind, ← hfl2]
      exact awp_loadCells l2.flatten 0 #[] (cellsAt_of 0 fun j v hj => by rw [Nat.zero_add]; exact h2.2.2.2 p hsa j v hj) (by simpa using hf)
  have hfs : ∀ {β : Type} (f : Array Value → Sem β) (Q : β → AH → Prop), awp P ro (f l.flatten.toArray) Q σ → awp P ro (Sem.bind (Builtin.firstCells w s.len (.slice s.a s.len s.cap)) f) Q σ := by
    intro β f Q hf
    have hr := h.read hs
    cases hsa : s.a with
    | none =>
      rw [hr.2.1 hsa] at hf
      exact hf
    | some p =>
      rw [show Sem.bind (Builtin.firstCells w s.len (.slice (some p) s.len s.cap)) f = (loadCells p (s.len * w)) >>= f from rfl, awp_bind, ← hr.flat]
      exact awp_loadCells l.flatten 0 #[] (cellsAt_of 0 fun j v hj => by rw [Nat.zero_add]; exact hr.2.2.2 p hsa j v hj) (by simpa using hf)
  have hwide : ∀ x ∈ l ++ l2, x.length = w := fun x hx => by
    rcases List.mem_append.1 hx with h' | h'
    · exact h.wide x h'
    · exact h2.2.2.1 x h'
  have hfl := flat_len h.wide
  unfold Builtin.append_
  simp only [Sl.v, bind_def, pure_def, g0, g1, g2, g3]
  rw [awp_underlying ht]
  simp only []
  rw [awp_size hz]
  rw [awp_underlying ht]
  simp only [bind_pure', Builtin.lenOf, bind_def, pure_def, Bool.false_eq_true, if_false, Bool.not_false, if_true, false_or]
  split
  · rename_i hroom
    refine hld _ _ ?_
    rcases h with ⟨rfl, rfl⟩ | ⟨b, cs, ha, htg, hbk, hln1, hcp, hle, hwl, hg⟩
    · have h0 : l2 = [] := List.eq_nil_of_length_eq_zero (by simp at hroom; omega)
      subst h0
      have hs2 : s2.len = 0 := hln
      show Q (.slice none (0 + s2.len) 0) σ
      rw [hs2]
      exact hK ⟨none, 0, 0⟩ tag σ (fun _ _ => Step.refl hs) (.inl ⟨rfl, rfl⟩)
    · have h' : RowW tag σ r e w s l := .inr ⟨b, cs, ha, htg, hbk, hln1, hcp, hle, hwl, hg⟩
      by_cases h0 : l2 = []
      · subst h0
        have hs2 : s2.len = 0 := hln
        simp only [ha]
        show Q (Value.slice (some ⟨b, 0, none⟩) (s.len + s2.len) s.cap) σ
        rw [hs2, Nat.add_zero]
        have := hK s tag σ (fun _ _ => Step.refl hs) (by rw [List.append_nil]; exact h')
        unfold Sl.v at this
        rw [ha] at this; exact this
      have hpos := List.length_pos_iff.2 h0
      simp only [ha]
      show awp P ro (storeCells (Addr.add ⟨b, 0, none⟩ (s.len * w)) l2.flatten >>= fun _ => Sem.pure (Value.slice (some ⟨b, 0, none⟩) (s.len + s2.len) s.cap)) Q σ
      rw [awp_bind, add_add, Nat.zero_add]
      have hcm : (s.len + s2.len) * w ≤ s.cap * w := Nat.mul_le_mul_right _ hroom
      rw [Nat.add_mul] at hcm
      refine awp_storeCells l2.flatten 0 σ (stN_blk l2.flatten cs 0 σ hbk (by rw [hcp, hfl2]; omega) hvf fun cs' c1 c2 c3 => ?_)
      show Q (Value.slice (some ⟨b, 0, none⟩) (s.len + s2.len) s.cap) _
      refine hK ⟨some ⟨b, 0, none⟩, s.len + s2.len, s.cap⟩ tag _ (fun R hR => (step_obj hs htg hbk).mono fun x hx => by rw [List.mem_singleton] at hx; rw [hx]; exact hR.resolve_left (by omega)) (.inr ⟨b, cs', rfl, htg, upd_same _ _ _, by simp [hln1, hln], by rw [c1]; exact hcp, hroom, hwide, fun i v hi => ?_⟩)
      rw [List.flatten_append] at hi
      rcases Nat.lt_or_ge i l.flatten.length with hh | hh
      · rw [List.getElem?_append_left hh] at hi
        rw [c2 i (by rw [hfl, ← hln1] at hh; omega)]; exact hg i v hi
      · rw [List.getElem?_append_right hh] at hi
        have := c3 (i - l.flatten.length) v hi
        rw [← this]
        congr 1; rw [hfl, ← hln1] at hh ⊢; omega
  · rename_i hroom
    rw [awp_typeInfo hi]
    rw [if_neg (by rw [hib]; omega)]
    rw [awp_typeInfo hi]
    have hl := h.len
    rw [if_neg (by rw [hib]; have := growslice_fits (need := s.len + s2.len) (old := s.cap) (bytes := bytes) (by omega) (by rw [hl, hln]; exact hb); omega)]
    refine awp_choose rfl (fun n => ?_)
    rw [awp_typeInfo hi]
    refine awp_askRoom ?_
    have hcut : s.len + s2.len ≤ (Question.appendCap (s.len + s2.len) s.cap e).cut n := by simp only [Question.cut]; omega
    generalize (Question.appendCap (s.len + s2.len) s.cap e).cut n = N at hcut
    refine hfs _ _ ?_
    refine hld _ _ ?_
    rw [awp_zero hz]
    show ∀ b, ro b = none → σ b = none → Q (Value.slice (some ⟨b, 0, none⟩) (s.len + s2.len) N) (upd σ b _)
    intro b hro hb
    refine hK ⟨some ⟨b, 0, none⟩, s.len + s2.len, N⟩ (setTag tag b r) _ (fun _ _ => Step.fresh hs hro hb) (.inr ⟨b, _, rfl, by simp [setTag], upd_same _ _ _, by simp [hl, hln], ?_, hcut, hwide, fun i v hi => ?_⟩)
    · have e1 : (Builtin.zeroCells zv.cells (N - (s.len + s2.len))).size = (N - (s.len + s2.len)) * w := by simp [Builtin.zeroCells, hzc]
      rw [Array.size_append, Array.size_append, e1, List.size_toArray, List.size_toArray, hfl2, hfl, ← hl, ← Nat.add_mul, ← Nat.add_mul]
      congr 1; simp only; omega
    · rw [List.flatten_append] at hi
      have hlt : i < (l.flatten ++ l2.flatten).length := by
        rcases Nat.lt_or_ge i (l.flatten ++ l2.flatten).length with h | h
        · exact h
        · rw [List.getElem?_eq_none h] at hi; cases hi
      rw [Array.getElem?_append_left (by simpa using hlt)]
      simpa using hi
end Go.Proofs.YthfpmipeejjogaaGreatDoor.SL

/- Builtin copy, cap; a row that is made longer in its own room. Generic over any program. -/
namespace Go.Proofs.YthfpmipeejjogaaGreatDoor.SL
open Go
set_option linter.unusedVariables false
set_option linter.unusedSimpArgs false
variable {P : Program} {B : World} {ro σ σ' : AH} {tag tag' : Nat → Nat}

theorem awp_cap {t e ty : TypeId} {s : Sl} {Q : Value → AH → Prop} (ht : P.underlying t = some (.slice e)) (h : Q (.int .i64 (s.cap : Int)) σ) : awp P ro (Builtin.cap_ #[t] ty #[Sl.v s]) Q σ := by
  have g0 : (#[t] : Array TypeId)[0]? = some t := rfl
  have g1 : (#[Value.slice s.a s.len s.cap] : Array Value)[0]? = some (Value.slice s.a s.len s.cap) := rfl
  unfold Builtin.cap_
  simp only [Sl.v, bind_def, pure_def, g0, g1]
  rw [awp_underlying ht]
  exact h
/-- what copy and append read -/
structure Src (P : Program) (ro σ : AH) (x : Value) (l : List Value) : Prop where
  len : ∀ {β : Type} (f : Nat → Sem β) (Q : β → AH → Prop), awp P ro (f l.length) Q σ → awp P ro (Sem.bind (Builtin.lenOf x) f) Q σ
  cells : ∀ {β : Type} (f : Array Value → Sem β) (Q : β → AH → Prop), awp P ro (f l.toArray) Q σ → awp P ro (Sem.bind (Builtin.firstCells 1 l.length x) f) Q σ
theorem Read.src {s : Sl} {l : List Value} (h : Read ro σ s l) : Src P ro σ (Sl.v s) l := by
  refine ⟨fun f Q hf => ?_, fun f Q hf => ?_⟩
  · rw [← h.1] at hf; exact hf
  · unfold Sl.v
    cases hsa : s.a with
    | none =>
      rw [h.2.1 hsa] at hf ⊢
      exact hf
    | some p =>
      rw [show Sem.bind (Builtin.firstCells 1 l.length (.slice (some p) s.len s.cap)) f = (loadCells p (l.length * 1)) >>= f from rfl, awp_bind, Nat.mul_one]
      exact awp_loadCells l 0 #[] (cellsAt_of 0 fun j v hj => by rw [Nat.zero_add]; exact h.2.2 p hsa j v hj) (by simpa using hf)
theorem str_src (b : ByteArray) : Src P ro σ (.string b) ((L b).map fun c => .int .u8 c.toNat) := by
  refine ⟨fun f Q hf => ?_, fun f Q hf => ?_⟩
  · rw [List.length_map, L_len] at hf; exact hf
  · rw [List.length_map, L_len]
    show awp P ro (f ((b.extract 0 b.size).data.map fun c => .int .u8 c.toNat)) Q σ
    rw [show b.extract 0 b.size = b from by rw [S_ext, List.take_of_length_le (by rw [L_len]; exact Nat.le_refl _)]; exact S_L b]
    have e : ((L b).map fun c => Value.int .u8 c.toNat).toArray = b.data.map fun c => .int .u8 c.toNat := by unfold L; rw [← Array.toList_map]
    rw [← e]; exact hf
/-- copy into the end of a row, filling it -/
theorem awp_copyTail {r e t t2 ty : TypeId} {s : Sl} {l l2 : List Value} {m bytes : Nat} {x zv : Value} {Q : Value → AH → Prop} (h : Row tag σ r e s l) (hs : Sep ro σ) (ht : P.underlying t = some (.slice e)) (hz : TyIs P e zv 1 bytes)
    (hx : Src P ro σ x l2) (hm : m + l2.length = l.length) (hv : ∀ v ∈ l2, storable v = true) (hQ : ∀ σ', Step [r] ro tag σ tag σ' → Row tag σ' r e s (l.take m ++ l2) → Q (.int .i64 (l2.length : Int)) σ') :
    awp P ro (Builtin.copy_ #[t, t2] ty #[Sl.v (⟨cutA s.a m s.cap 1, s.len - m, s.cap - m⟩ : Sl), x]) Q σ := by
  have g0 : (#[t, t2] : Array TypeId)[0]? = some t := rfl
  have g1 : (#[Value.slice (cutA s.a m s.cap 1) (s.len - m) (s.cap - m), x] : Array Value)[0]? = some (Value.slice (cutA s.a m s.cap 1) (s.len - m) (s.cap - m)) := rfl
  have g2 : (#[Value.slice (cutA s.a m s.cap 1) (s.len - m) (s.cap - m), x] : Array Value)[1]? = some x := rfl
  have hl := h.len
  unfold Builtin.copy_
  simp only [Sl.v, bind_def, pure_def, g0, g1, g2]
  rw [awp_underlying ht]
  simp only []
  refine hx.len _ _ ?_
  rw [awp_size hz]
  rw [show Nat.min l2.length (s.len - m) = l2.length from Nat.min_eq_left (by omega)]
  refine hx.cells _ _ ?_
  have done : l2 = [] → Q (.int .i64 (l2.length : Int)) σ := fun e0 => hQ σ (Step.refl hs) (by
    rw [e0, List.append_nil, List.take_of_length_le (by rw [e0] at hm; simp at hm; omega)]; exact h)
  rcases h with ⟨rfl, rfl⟩ | ⟨b, cs, ha, htg, hbk, hln, hcp, hle, hg⟩
  · have h0 : l2 = [] := List.eq_nil_of_length_eq_zero (by simp only [List.length_nil] at hm; omega)
    rw [show cutA none m 0 1 = none from by unfold cutA; split <;> rfl]
    exact done h0
  · by_cases h0 : l2 = []
    · unfold cutA
      have := done h0
      subst h0
      split
      · exact this
      · exact this
    · have hpos := List.length_pos_iff.2 h0
      unfold cutA
      rw [if_neg (by omega), ha]
      simp only [Option.map_some, Nat.mul_one, add_add, Nat.zero_add]
      show awp P ro (storeCells ⟨b, m, none⟩ l2 >>= fun _ => Sem.pure (goInt l2.length)) Q σ
      rw [awp_bind]
      refine awp_storeCells l2 0 σ (stN_blk l2 cs 0 σ hbk (by omega) hv fun cs' c1 c2 c3 => ?_)
      refine hQ _ (step_obj hs htg hbk) (.inr ⟨b, cs', ha, htg, upd_same _ _ _, by simp; omega, by rw [c1]; exact hcp, hle, fun i hi => ?_⟩)
      simp at hi
      rcases Nat.lt_or_ge i m with hh | hh
      · rw [c2 i (by omega), List.getElem?_append_left (by simp; omega), List.getElem?_take, if_pos hh]; exact hg i (by omega)
      · have e1 : (l.take m).length = m := by simp; omega
        rw [List.getElem?_append_right (by omega), e1]
        have := c3 (i - m) _ (List.getElem?_eq_getElem (by omega))
        rw [List.getElem?_eq_getElem (by omega), ← this]
        congr 1; omega
/-- a row is longer now, in its own room: what stands there is something -/
theorem Row.more {r : Nat} {e : TypeId} {s : Sl} {l : List Value} (h : Row tag σ r e s l) {n : Nat} (hn : l.length + n ≤ s.cap) : ∃ xs : List Value, xs.length = n ∧ Row tag σ r e ⟨s.a, l.length + n, s.cap⟩ (l ++ xs) := by
  rcases h with ⟨rfl, rfl⟩ | ⟨b, cs, ha, htg, hbk, hln, hcp, hle, hg⟩
  · have : n = 0 := by simpa using hn
    subst this
    exact ⟨[], rfl, .inl ⟨rfl, rfl⟩⟩
  · refine ⟨(cs.toList.drop l.length).take n, by simp; omega, .inr ⟨b, cs, ha, htg, hbk, by simp; omega, hcp, hn, fun i hi => ?_⟩⟩
    rcases Nat.lt_or_ge i l.length with h1 | h1
    · rw [List.getElem?_append_left h1]; exact hg i h1
    · simp at hi
      rw [List.getElem?_append_right h1, List.getElem?_take, if_pos (by omega), List.getElem?_drop]
      simp only [Array.getElem?_toList]
      congr 1; omega
theorem Row.capAt {r : Nat} {e : TypeId} {s : Sl} {l : List Value} (h : Row tag σ r e s l) : l.length ≤ s.cap := by
  rcases h with ⟨rfl, rfl⟩ | ⟨b, cs, ha, htg, hbk, hln, hcp, hle, hg⟩
  · simp
  · omega
theorem cutA_zero (a : Option Addr) (c s : Nat) : cutA a 0 c s = a := by
  unfold cutA; split
  · rfl
  · cases a <;> simp [Nat.zero_mul, add_zero]
end Go.Proofs.YthfpmipeejjogaaGreatDoor.SL
