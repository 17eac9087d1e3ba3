/- GBuf, BuA -/
import Derived.Test.YtfobjidchipdaaaGreatDoorXD
/- Functions as predicate transformers, and the proofs that the code does what they tell: printed by wip/tools/gen.py. -/
namespace Go.Proofs.YtfobjidchipdaaaGreatDoor.G
open Go Go.Proofs.YtfobjidchipdaaaGreatDoor.SL
set_option linter.unusedVariables false
set_option linter.unusedSimpArgs false

def j4_bytes_Buffer_Write (B : World) (ro : AH) (a0 : Option Addr) (a1 : Sl) (Q : Int → Value → AH → Prop) (x6_5 : Int) (σ : AH) : Prop :=
 ∃ p25_6 : Addr, a0 = some p25_6 ∧
 ∃ (x27_7 : Sl), acell ro σ p25_6 = some (Sl.v x27_7) ∧
 cutOk (some x6_5) none x27_7.len x27_7.cap ∧
 awp Tryz.prog ro (Builtin.copy_ #[22, 22] 3 #[Sl.v (⟨cutA x27_7.a (Int.toNat x6_5) x27_7.cap 1, x27_7.len - Int.toNat x6_5, x27_7.cap - Int.toNat x6_5⟩ : Sl), Sl.v a1]) (fun v σ => ∃ (x31_8 : Int), v = .int .i64 x31_8 ∧
  Q x31_8 .nilIface σ) σ

def f_bytes_Buffer_Write (B : World) (ro : AH) (a0 : Option Addr) (a1 : Sl) (σ : AH) (Q : Int → Value → AH → Prop) : Prop :=
 ∃ p9_1 : Addr, a0 = some p9_1 ∧
 stN (p9_1.add 2) (fun σ =>
  c_bytes_Buffer_tryGrowByReslice B ro a0 (a1.len : Int) σ fun x15_2 x15_3 σ =>
  if ¬ (x15_3 = true) then
   c_bytes_Buffer_grow B ro a0 (a1.len : Int) σ fun x23_9 σ =>
   j4_bytes_Buffer_Write B ro a0 a1 Q x23_9 σ
  else
  j4_bytes_Buffer_Write B ro a0 a1 Q x15_2 σ) [.int .i8 0] 0 σ

set_option maxRecDepth 100000 in
set_option maxHeartbeats 4000000 in
theorem bytes_Buffer_Write_ok {B : World} {ro : AH} {a0 : Option Addr} {a1 : Sl} {σ : AH} {Q : Int → Value → AH → Prop} (h : Sep ro σ → f_bytes_Buffer_Write B ro a0 a1 σ Q) : c_bytes_Buffer_Write B ro a0 a1 σ Q := by
  refine ACalls.of_sep fun hsep => ?_
  replace h := h hsep
  refine ACalls.of_body (args := [.pointer a0, Sl.v a1]) Tryz.func92 rfl (by rw [Tryz.ntmps92]; simp) ?_
  rw [Tryz.ntmps92]
  unfold f_bytes_Buffer_Write at h
  refine AW.seq ?_
  refine AW.reg ?_
  refine Lp (V_asg rfl rfl) rfl rfl ?_
  refine Lp (V_asg rfl rfl) rfl rfl ?_
  refine Lnil ?_
  refine thenN ?_
  refine AW.seq ?_
  refine AW.reg ?_
  refine Lp (V_move rfl rfl) rfl rfl ?_
  obtain ⟨p9_1, hc, h⟩ := h
  refine Lp (V_nil rfl (by rw [← hc]; rfl)) rfl rfl ?_
  refine Lp (V_fld rfl Tryz.underlying163 rfl ty161 (by decide) rfl) rfl rfl ?_
  refine Ls rfl rfl (X_st rfl ty161 rfl rfl rfl rfl (stN_mono h fun σ h => ?_))
  refine Lnil ?_
  refine thenN ?_
  refine AW.seq ?_
  refine AW.reg ?_
  refine Lp (V_move rfl rfl) rfl rfl ?_
  refine Lp (V_move rfl rfl) rfl rfl ?_
  refine Lp (V_lenL rfl rfl Tryz.underlying22 rfl rfl) rfl rfl ?_
  refine Ls rfl rfl (X_call rfl Tryz.func121 rfl rfl rfl (ACalls.mono h ?_))
  rintro v σ ⟨x15_2, x15_3, rfl, h⟩
  refine Lp (V_move rfl rfl) rfl rfl ?_
  refine Lp (V_ext rfl rfl rfl) rfl rfl ?_
  refine Lp (V_ext rfl rfl rfl) rfl rfl ?_
  refine Lp (V_asg rfl rfl) rfl rfl ?_
  refine Lp (V_asg rfl rfl) rfl rfl ?_
  refine Lnil ?_
  refine thenN ?_
  refine AW.seqJ (fun fr σ => ∃ (x6_5 : Int), FrLe [(0, .pointer a0), (1, Sl.v a1), (6, .int .i64 x6_5)] fr ∧ j4_bytes_Buffer_Write B ro a0 a1 Q x6_5 σ) ?_ ?_
  rotate_left
  · refine AW.seq ?_
    refine AW.reg ?_
    refine Lp (V_move rfl rfl) rfl rfl ?_
    refine Lp (V_not rfl rfl) rfl rfl ?_
    refine Lnil ?_
    refine thenN ?_
    refine AW.iff rfl (bnot_iff Iff.rfl) h (fun h => ?_) (fun h => ?_)
    rotate_left
    · refine AW.skip ?_
      refine thenN ?_
      exact ⟨_, (FrLe.cons rfl (FrLe.cons rfl (FrLe.cons rfl (FrLe.nil _)))), h⟩
    refine AW.reg ?_
    refine Lp (V_move rfl rfl) rfl rfl ?_
    refine Lp (V_move rfl rfl) rfl rfl ?_
    refine Lp (V_lenL rfl rfl Tryz.underlying22 rfl rfl) rfl rfl ?_
    refine Ls rfl rfl (X_call rfl Tryz.func122 rfl rfl rfl (ACalls.mono h ?_))
    rintro v σ ⟨x23_9, rfl, h⟩
    refine Lp (V_asg rfl rfl) rfl rfl ?_
    refine Lnil ?_
    refine thenN ?_
    exact ⟨_, (FrLe.cons rfl (FrLe.cons rfl (FrLe.cons rfl (FrLe.nil _)))), h⟩
  rintro fr σ ⟨x6_5, hl, h⟩
  refine AW.weaken ?_ hl (HLe.refl _)
  unfold j4_bytes_Buffer_Write at h
  refine AW.seq ?_
  refine AW.reg ?_
  refine Lp (V_move rfl rfl) rfl rfl ?_
  obtain ⟨p25_6, hc, h⟩ := h
  refine Lp (V_nil rfl (by rw [← hc]; rfl)) rfl rfl ?_
  refine Lp (V_fld rfl Tryz.underlying163 rfl ty22 (by decide) rfl) rfl rfl ?_
  obtain ⟨x27_7, hc, h⟩ := h
  refine Ls rfl rfl (X_ld rfl Tryz.underlying22 rfl rfl hc ?_)
  refine Lp (V_move rfl rfl) rfl rfl ?_
  obtain ⟨hc, h⟩ := h
  refine Lp (V_slL (lo := (some x6_5)) (hi := none) rfl Tryz.underlying22 ty5 rfl (optI_some rfl) optI_none hc) rfl rfl ?_
  refine Lp (V_move rfl rfl) rfl rfl ?_
  refine Ls rfl rfl (X_bi (s := Builtin.copy_ #[22, 22] 3 #[Sl.v (⟨cutA x27_7.a (Int.toNat x6_5) x27_7.cap 1, x27_7.len - Int.toNat x6_5, x27_7.cap - Int.toNat x6_5⟩ : Sl), Sl.v a1]) rfl rfl (fun _ => rfl) (awp_mono _ h ?_))
  rintro v σ ⟨x31_8, rfl, h⟩
  refine Lp (V_asg rfl rfl) rfl rfl ?_
  refine Lp (V_asg rfl rfl) rfl rfl ?_
  refine Lnil ?_
  refine thenN ?_
  refine AW.ret ?_
  exact bR2 Tryz.results92 rfl rfl ⟨_, _, rfl, h⟩

def f_bytes_Buffer_Bytes (B : World) (ro : AH) (a0 : Option Addr) (σ : AH) (Q : Sl → AH → Prop) : Prop :=
 ∃ p4_1 : Addr, a0 = some p4_1 ∧
 ∃ p8_2 : Addr, a0 = some p8_2 ∧
 ∃ (x6_3 : Sl), acell ro σ p4_1 = some (Sl.v x6_3) ∧
 ∃ (x10_4 : Int), acell ro σ (p8_2.add 1) = some (.int .i64 x10_4) ∧
 cutOk (some x10_4) none x6_3.len x6_3.cap ∧
 Q (⟨cutA x6_3.a (Int.toNat x10_4) x6_3.cap 1, x6_3.len - Int.toNat x10_4, x6_3.cap - Int.toNat x10_4⟩ : Sl) σ

set_option maxRecDepth 100000 in
set_option maxHeartbeats 4000000 in
theorem bytes_Buffer_Bytes_ok {B : World} {ro : AH} {a0 : Option Addr} {σ : AH} {Q : Sl → AH → Prop} (h : Sep ro σ → f_bytes_Buffer_Bytes B ro a0 σ Q) : c_bytes_Buffer_Bytes B ro a0 σ Q := by
  refine ACalls.of_sep fun hsep => ?_
  replace h := h hsep
  refine ACalls.of_body (args := [.pointer a0]) Tryz.func93 rfl (by rw [Tryz.ntmps93]; simp) ?_
  rw [Tryz.ntmps93]
  unfold f_bytes_Buffer_Bytes at h
  refine AW.seq ?_
  refine AW.reg ?_
  refine Lp (V_asg rfl rfl) rfl rfl ?_
  refine Lnil ?_
  refine thenN ?_
  refine AW.seq ?_
  refine AW.drawn0 (fun i => ([0, 0, 0, 3, 0, 0, 0, 3, 0, 0] : List Nat).getD i 2) [] [0, 1, 2, 4, 5, 6, 3, 7, 8, 9] Tryz.mixed (by decide +kernel) ?_
  refine Dp rfl rfl rfl rfl (V_move rfl rfl) ?_
  obtain ⟨p4_1, hc, h⟩ := h
  refine Dp rfl rfl rfl rfl (V_nil rfl (by rw [← hc]; rfl)) ?_
  refine Dp rfl rfl rfl rfl (V_fld rfl Tryz.underlying163 rfl ty22 (by decide) rfl) ?_
  refine Dp rfl rfl rfl rfl (V_move rfl rfl) ?_
  obtain ⟨p8_2, hc, h⟩ := h
  refine Dp rfl rfl rfl rfl (V_nil rfl (by rw [← hc]; rfl)) ?_
  refine Dp rfl rfl rfl rfl (V_fld rfl Tryz.underlying163 rfl ty3 (by decide) rfl) ?_
  obtain ⟨x6_3, hc, h⟩ := h
  refine Dr rfl rfl rfl rfl (R_ld rfl Tryz.underlying22 rfl rfl hc) ?_
  obtain ⟨x10_4, hc, h⟩ := h
  refine Dr rfl rfl rfl rfl (R_ld rfl Tryz.underlying3 rfl rfl hc) ?_
  obtain ⟨hc, h⟩ := h
  refine Dp rfl rfl rfl rfl (V_slL (lo := (some x10_4)) (hi := none) rfl Tryz.underlying22 ty5 rfl (optI_some rfl) optI_none hc) ?_
  refine Dp rfl rfl rfl rfl (V_asg rfl rfl) ?_
  refine Dend ?_
  refine thenN ?_
  refine AW.ret ?_
  exact bR1 Tryz.results93 rfl ⟨_, rfl, h⟩

def f_bytes_Buffer_tryGrowByReslice (B : World) (ro : AH) (a0 : Option Addr) (a1 : Int) (σ : AH) (Q : Int → Bool → AH → Prop) : Prop :=
 ∃ p8_1 : Addr, a0 = some p8_1 ∧
 ∃ (x10_2 : Sl), acell ro σ p8_1 = some (Sl.v x10_2) ∧
 ∃ p14_3 : Addr, a0 = some p14_3 ∧
 ∃ (x16_4 : Sl), acell ro σ p14_3 = some (Sl.v x16_4) ∧
 awp Tryz.prog ro (Builtin.cap_ #[22] 3 #[Sl.v x16_4]) (fun v σ => ∃ (x17_5 : Int), v = .int .i64 x17_5 ∧
  if a1 ≤ (IntKind.i64.wrap (x17_5 - (x10_2.len : Int))) then
   ∃ p23_6 : Addr, a0 = some p23_6 ∧
   ∃ (x25_7 : Sl), acell ro σ p23_6 = some (Sl.v x25_7) ∧
   cutOk none (some (IntKind.i64.wrap ((x10_2.len : Int) + a1))) x25_7.len x25_7.cap ∧
   ∃ p30_8 : Addr, a0 = some p30_8 ∧
   stN p30_8 (fun σ =>
    Q (x10_2.len : Int) true σ) [Sl.v (⟨cutA x25_7.a (0) x25_7.cap 1, Int.toNat (IntKind.i64.wrap ((x10_2.len : Int) + a1)) - 0, x25_7.cap - 0⟩ : Sl)] 0 σ
  else
  Q 0 false σ) σ

set_option maxRecDepth 100000 in
set_option maxHeartbeats 4000000 in
theorem bytes_Buffer_tryGrowByReslice_ok {B : World} {ro : AH} {a0 : Option Addr} {a1 : Int} {σ : AH} {Q : Int → Bool → AH → Prop} (h : Sep ro σ → f_bytes_Buffer_tryGrowByReslice B ro a0 a1 σ Q) : c_bytes_Buffer_tryGrowByReslice B ro a0 a1 σ Q := by
  refine ACalls.of_sep fun hsep => ?_
  replace h := h hsep
  refine ACalls.of_body (args := [.pointer a0, .int .i64 a1]) Tryz.func121 rfl (by rw [Tryz.ntmps121]; simp) ?_
  rw [Tryz.ntmps121]
  unfold f_bytes_Buffer_tryGrowByReslice at h
  refine AW.seq ?_
  refine AW.reg ?_
  refine Lp (V_asg rfl rfl) rfl rfl ?_
  refine Lp (V_asg rfl rfl) rfl rfl ?_
  refine Lnil ?_
  refine thenN ?_
  refine AW.seq ?_
  refine AW.seq ?_
  refine AW.reg ?_
  refine Lp (V_move rfl rfl) rfl rfl ?_
  obtain ⟨p8_1, hc, h⟩ := h
  refine Lp (V_nil rfl (by rw [← hc]; rfl)) rfl rfl ?_
  refine Lp (V_fld rfl Tryz.underlying163 rfl ty22 (by decide) rfl) rfl rfl ?_
  obtain ⟨x10_2, hc, h⟩ := h
  refine Ls rfl rfl (X_ld rfl Tryz.underlying22 rfl rfl hc ?_)
  refine Lp (V_lenL rfl rfl Tryz.underlying22 rfl rfl) rfl rfl ?_
  refine Lp (V_asg rfl rfl) rfl rfl ?_
  refine Lnil ?_
  refine thenN ?_
  refine AW.seq ?_
  refine AW.reg ?_
  refine Lp (V_move rfl rfl) rfl rfl ?_
  refine Lp (V_move rfl rfl) rfl rfl ?_
  obtain ⟨p14_3, hc, h⟩ := h
  refine Lp (V_nil rfl (by rw [← hc]; rfl)) rfl rfl ?_
  refine Lp (V_fld rfl Tryz.underlying163 rfl ty22 (by decide) rfl) rfl rfl ?_
  obtain ⟨x16_4, hc, h⟩ := h
  refine Ls rfl rfl (X_ld rfl Tryz.underlying22 rfl rfl hc ?_)
  refine Ls rfl rfl (X_bi (s := Builtin.cap_ #[22] 3 #[Sl.v x16_4]) rfl rfl (fun _ => rfl) (awp_mono _ h ?_))
  rintro v σ ⟨x17_5, rfl, h⟩
  refine Lp (V_move rfl rfl) rfl rfl ?_
  refine Lp (V_sub rfl rfl rfl) rfl rfl ?_
  refine Lp (V_leq rfl rfl rfl) rfl rfl ?_
  refine Lnil ?_
  refine thenN ?_
  refine AW.iff rfl decide_eq_true_iff h (fun h => ?_) (fun h => ?_)
  rotate_left
  · refine AW.skip ?_
    refine thenN ?_
    refine AW.seq ?_
    refine AW.reg ?_
    refine Lp (V_asg rfl rfl) rfl rfl ?_
    refine Lp (V_asg rfl rfl) rfl rfl ?_
    refine Lnil ?_
    refine thenN ?_
    refine AW.ret ?_
    exact bR2 Tryz.results121 rfl rfl ⟨_, _, rfl, h⟩
  refine AW.seq ?_
  refine AW.reg ?_
  refine Lp (V_move rfl rfl) rfl rfl ?_
  refine Lp (V_move rfl rfl) rfl rfl ?_
  obtain ⟨p23_6, hc, h⟩ := h
  refine Lp (V_nil rfl (by rw [← hc]; rfl)) rfl rfl ?_
  refine Lp (V_fld rfl Tryz.underlying163 rfl ty22 (by decide) rfl) rfl rfl ?_
  obtain ⟨x25_7, hc, h⟩ := h
  refine Ls rfl rfl (X_ld rfl Tryz.underlying22 rfl rfl hc ?_)
  refine Lp (V_move rfl rfl) rfl rfl ?_
  refine Lp (V_move rfl rfl) rfl rfl ?_
  refine Lp (V_add rfl rfl rfl) rfl rfl ?_
  obtain ⟨hc, h⟩ := h
  refine Lp (V_slL (lo := none) (hi := (some (IntKind.i64.wrap ((x10_2.len : Int) + a1)))) rfl Tryz.underlying22 ty5 rfl optI_none (optI_some rfl) hc) rfl rfl ?_
  obtain ⟨p30_8, hc, h⟩ := h
  refine Lp (V_nil rfl (by rw [← hc]; rfl)) rfl rfl ?_
  refine Lp (V_fld rfl Tryz.underlying163 rfl ty22 (by decide) rfl) rfl rfl ?_
  refine Ls rfl rfl (X_st rfl ty22 rfl rfl rfl rfl (stN_mono h fun σ h => ?_))
  refine Lnil ?_
  refine thenN ?_
  refine AW.seq ?_
  refine AW.reg ?_
  refine Lp (V_move rfl rfl) rfl rfl ?_
  refine Lp (V_asg rfl rfl) rfl rfl ?_
  refine Lp (V_asg rfl rfl) rfl rfl ?_
  refine Lnil ?_
  refine thenN ?_
  refine AW.ret ?_
  refine thenR ?_
  exact bR2 Tryz.results121 rfl rfl ⟨_, _, rfl, h⟩

def j12_bytes_Buffer_grow (B : World) (ro : AH) (a0 : Option Addr) (a1 : Int) (x10_1 : Int) (Q : Int → AH → Prop) (σ : AH) : Prop :=
 ∃ p96_13 : Addr, a0 = some p96_13 ∧
 stN (p96_13.add 1) (fun σ =>
  ∃ p100_14 : Addr, a0 = some p100_14 ∧
  ∃ (x102_15 : Sl), acell ro σ p100_14 = some (Sl.v x102_15) ∧
  cutOk none (some (IntKind.i64.wrap (x10_1 + a1))) x102_15.len x102_15.cap ∧
  ∃ p107_16 : Addr, a0 = some p107_16 ∧
  stN p107_16 (fun σ =>
   Q x10_1 σ) [Sl.v (⟨cutA x102_15.a (0) x102_15.cap 1, Int.toNat (IntKind.i64.wrap (x10_1 + a1)) - 0, x102_15.cap - 0⟩ : Sl)] 0 σ) [.int .i64 0] 0 σ

def j2_bytes_Buffer_grow (B : World) (ro : AH) (a0 : Option Addr) (a1 : Int) (x10_1 : Int) (Q : Int → AH → Prop) (σ : AH) : Prop :=
 c_bytes_Buffer_tryGrowByReslice B ro a0 a1 σ fun x25_3 x25_4 σ =>
 if x25_4 = true then
  Q x25_3 σ
 else
 ∃ p31_5 : Addr, a0 = some p31_5 ∧
 ∃ (x33_6 : Sl), acell ro σ p31_5 = some (Sl.v x33_6) ∧
 if (x33_6.a = none) ∧ (a1 ≤ 64) then
  ((0 : Int) ≤ a1 ∧ a1 ≤ 64 ∧ (64 : Int) ≤ 281474976710656 ∧ 1 * (64 : Int) ≤ 281474976710656) ∧
  nw ro σ (.cells (zeros (.int .u8 0) (Int.toNat 64 * 1)) 5) fun x41_7 σ =>
  ∃ p42_8 : Addr, a0 = some p42_8 ∧
  stN p42_8 (fun σ =>
   Q 0 σ) [Sl.v (⟨some ⟨x41_7, 0, none⟩, Int.toNat a1, Int.toNat 64⟩ : Sl)] 0 σ
 else
 ∃ p45_9 : Addr, a0 = some p45_9 ∧
 ∃ (x47_10 : Sl), acell ro σ p45_9 = some (Sl.v x47_10) ∧
 awp Tryz.prog ro (Builtin.cap_ #[22] 3 #[Sl.v x47_10]) (fun v σ => ∃ (x48_11 : Int), v = .int .i64 x48_11 ∧
  if a1 ≤ (IntKind.i64.wrap ((IntKind.i64.wrap (Int.tdiv x48_11 2)) - x10_1)) then
   ∃ p56_17 : Addr, a0 = some p56_17 ∧
   ∃ p60_18 : Addr, a0 = some p60_18 ∧
   ∃ p64_19 : Addr, a0 = some p64_19 ∧
   ∃ (x58_20 : Sl), acell ro σ p56_17 = some (Sl.v x58_20) ∧
   ∃ (x62_21 : Sl), acell ro σ p60_18 = some (Sl.v x62_21) ∧
   ∃ (x66_22 : Int), acell ro σ (p64_19.add 1) = some (.int .i64 x66_22) ∧
   cutOk (some x66_22) none x62_21.len x62_21.cap ∧
   awp Tryz.prog ro (Builtin.copy_ #[22, 22] 3 #[Sl.v x58_20, Sl.v (⟨cutA x62_21.a (Int.toNat x66_22) x62_21.cap 1, x62_21.len - Int.toNat x66_22, x62_21.cap - Int.toNat x66_22⟩ : Sl)]) (fun v σ => ∃ (x68_23 : Int), v = .int .i64 x68_23 ∧
    j12_bytes_Buffer_grow B ro a0 a1 x10_1 Q σ) σ
  else
  if (IntKind.i64.wrap ((IntKind.i64.wrap (9223372036854775807 - x48_11)) - a1)) < x48_11 then
   False
  else
  ∃ p78_24 : Addr, a0 = some p78_24 ∧
  ∃ p82_25 : Addr, a0 = some p82_25 ∧
  ∃ p87_26 : Addr, a0 = some p87_26 ∧
  ∃ (x80_27 : Sl), acell ro σ p78_24 = some (Sl.v x80_27) ∧
  ∃ (x84_28 : Int), acell ro σ (p82_25.add 1) = some (.int .i64 x84_28) ∧
  cutOk (some x84_28) none x80_27.len x80_27.cap ∧
  ∃ (x89_29 : Int), acell ro σ (p87_26.add 1) = some (.int .i64 x89_29) ∧
  c_bytes_growSlice B ro (⟨cutA x80_27.a (Int.toNat x84_28) x80_27.cap 1, x80_27.len - Int.toNat x84_28, x80_27.cap - Int.toNat x84_28⟩ : Sl) (IntKind.i64.wrap (x89_29 + a1)) σ fun x92_30 σ =>
  ∃ p93_31 : Addr, a0 = some p93_31 ∧
  stN p93_31 (fun σ =>
   j12_bytes_Buffer_grow B ro a0 a1 x10_1 Q σ) [Sl.v x92_30] 0 σ) σ

def j32_bytes_Buffer_grow (B : World) (ro : AH) (a0 : Option Addr) (a1 : Int) (x10_1 : Int) (Q : Int → AH → Prop) (x19_33 : Bool) (σ : AH) : Prop :=
 if x19_33 = true then
  c_bytes_Buffer_Reset B ro a0 σ fun σ =>
  j2_bytes_Buffer_grow B ro a0 a1 x10_1 Q σ
 else
 j2_bytes_Buffer_grow B ro a0 a1 x10_1 Q σ

def f_bytes_Buffer_grow (B : World) (ro : AH) (a0 : Option Addr) (a1 : Int) (σ : AH) (Q : Int → AH → Prop) : Prop :=
 c_bytes_Buffer_Len B ro a0 σ fun x10_1 σ =>
 if x10_1 = 0 then
  ∃ p15_34 : Addr, a0 = some p15_34 ∧
  ∃ (x17_35 : Int), acell ro σ (p15_34.add 1) = some (.int .i64 x17_35) ∧
  j32_bytes_Buffer_grow B ro a0 a1 x10_1 Q (!(decide (x17_35 = 0))) σ
 else
 j32_bytes_Buffer_grow B ro a0 a1 x10_1 Q false σ

set_option maxRecDepth 100000 in
set_option maxHeartbeats 4000000 in
theorem bytes_Buffer_grow_ok {B : World} {ro : AH} {a0 : Option Addr} {a1 : Int} {σ : AH} {Q : Int → AH → Prop} (h : Sep ro σ → f_bytes_Buffer_grow B ro a0 a1 σ Q) : c_bytes_Buffer_grow B ro a0 a1 σ Q := by
  refine ACalls.of_sep fun hsep => ?_
  replace h := h hsep
  refine ACalls.of_body (args := [.pointer a0, .int .i64 a1]) Tryz.func122 rfl (by rw [Tryz.ntmps122]; simp) ?_
  rw [Tryz.ntmps122]
  unfold f_bytes_Buffer_grow at h
  refine AW.seq ?_
  refine AW.reg ?_
  refine Lp (V_asg rfl rfl) rfl rfl ?_
  refine Lnil ?_
  refine thenN ?_
  refine AW.seq ?_
  refine AW.reg ?_
  refine Lp (V_move rfl rfl) rfl rfl ?_
  refine Ls rfl rfl (X_call rfl Tryz.func145 rfl rfl rfl (ACalls.mono h ?_))
  rintro v σ ⟨x10_1, rfl, h⟩
  refine Lp (V_asg rfl rfl) rfl rfl ?_
  refine Lnil ?_
  refine thenN ?_
  refine AW.seqJ (fun fr σ => FrLe [(0, .pointer a0), (1, .int .i64 a1), (5, .int .i64 x10_1)] fr ∧ j2_bytes_Buffer_grow B ro a0 a1 x10_1 Q σ) ?_ ?_
  rotate_left
  · refine AW.seq ?_
    refine AW.reg ?_
    refine Lp (V_move rfl rfl) rfl rfl ?_
    refine Lp (V_eql rfl rfl rfl) rfl rfl ?_
    refine Lp (V_move rfl rfl) rfl rfl ?_
    refine LsplitJ 6 (decide (x10_1 = 0)) decide_eq_true_iff h (fun fr σ => ∃ (x19_33 : Bool), FrLe [(0, .pointer a0), (1, .int .i64 a1), (5, .int .i64 x10_1), (19, .bool x19_33)] fr ∧ j32_bytes_Buffer_grow B ro a0 a1 x10_1 Q x19_33 σ) ?_ ?_ ?_
    · intro h e2 hk2
      refine Lypb (V_move rfl rfl) rfl rfl rfl rfl e2 ?_
      obtain ⟨p15_34, hc, h⟩ := h
      refine Lypb (V_nil rfl (by rw [← hc]; rfl)) rfl rfl rfl rfl e2 ?_
      refine Lypb (V_fld rfl Tryz.underlying163 rfl ty3 (by decide) rfl) rfl rfl rfl rfl e2 ?_
      obtain ⟨x17_35, hc, h⟩ := h
      refine Lyb rfl rfl rfl rfl e2 (X_ld rfl Tryz.underlying3 rfl rfl hc ?_)
      refine Lypb (V_neq rfl rfl rfl) rfl rfl rfl rfl e2 ?_
      refine Lp (V_pickT rfl (evb e2) rfl) rfl rfl ?_
      exact hk2 _ _ ⟨_, (FrLe.cons rfl (FrLe.cons rfl (FrLe.cons rfl (FrLe.cons rfl (FrLe.nil _))))), h⟩
    · intro h e2 hk2
      refine Ln rfl rfl rfl rfl (.inl (by rw [e2]; rfl)) ?_
      refine Ln rfl rfl rfl rfl (.inl (by rw [e2]; rfl)) ?_
      refine Ln rfl rfl rfl rfl (.inl (by rw [e2]; rfl)) ?_
      refine Ln rfl rfl rfl rfl (.inl (by rw [e2]; rfl)) ?_
      refine Ln rfl rfl rfl rfl (.inl (by rw [e2]; rfl)) ?_
      refine Lp (V_pickF rfl (evb e2) rfl) rfl rfl ?_
      exact hk2 _ _ ⟨_, (FrLe.cons rfl (FrLe.cons rfl (FrLe.cons rfl (FrLe.cons rfl (FrLe.nil _))))), h⟩
    rintro fr σ ⟨x19_33, hl, h⟩
    unfold j32_bytes_Buffer_grow at h
    refine Lfr hl ?_
    refine Lnil ?_
    refine thenN ?_
    refine AW.iff rfl Iff.rfl h (fun h => ?_) (fun h => ?_)
    rotate_left
    · refine AW.skip ?_
      refine thenN ?_
      exact ⟨(FrLe.cons rfl (FrLe.cons rfl (FrLe.cons rfl (FrLe.nil _)))), h⟩
    refine AW.reg ?_
    refine Lp (V_move rfl rfl) rfl rfl ?_
    refine Ls rfl rfl (X_call rfl Tryz.func146 rfl rfl rfl (ACalls.mono h ?_))
    rintro v σ ⟨rfl, h⟩
    refine Lnil ?_
    refine thenN ?_
    exact ⟨(FrLe.cons rfl (FrLe.cons rfl (FrLe.cons rfl (FrLe.nil _)))), h⟩
  rintro fr σ ⟨hl, h⟩
  refine AW.weaken ?_ hl (HLe.refl _)
  unfold j2_bytes_Buffer_grow at h
  refine AW.seq ?_
  refine AW.seq ?_
  refine AW.reg ?_
  refine Lp (V_move rfl rfl) rfl rfl ?_
  refine Lp (V_move rfl rfl) rfl rfl ?_
  refine Ls rfl rfl (X_call rfl Tryz.func121 rfl rfl rfl (ACalls.mono h ?_))
  rintro v σ ⟨x25_3, x25_4, rfl, h⟩
  refine Lp (V_move rfl rfl) rfl rfl ?_
  refine Lp (V_ext rfl rfl rfl) rfl rfl ?_
  refine Lp (V_ext rfl rfl rfl) rfl rfl ?_
  refine Lp (V_asg rfl rfl) rfl rfl ?_
  refine Lp (V_asg rfl rfl) rfl rfl ?_
  refine Lnil ?_
  refine thenN ?_
  refine AW.seq ?_
  refine AW.reg ?_
  refine Lp (V_move rfl rfl) rfl rfl ?_
  refine Lnil ?_
  refine thenN ?_
  refine AW.iff rfl Iff.rfl h (fun h => ?_) (fun h => ?_)
  · refine AW.seq ?_
    refine AW.reg ?_
    refine Lp (V_move rfl rfl) rfl rfl ?_
    refine Lp (V_asg rfl rfl) rfl rfl ?_
    refine Lnil ?_
    refine thenN ?_
    refine AW.ret ?_
    refine thenR ?_
    exact bR1 Tryz.results122 rfl ⟨_, rfl, h⟩
  refine AW.skip ?_
  refine thenN ?_
  refine AW.seq ?_
  refine AW.seq ?_
  refine AW.reg ?_
  refine Lp (V_move rfl rfl) rfl rfl ?_
  obtain ⟨p31_5, hc, h⟩ := h
  refine Lp (V_nil rfl (by rw [← hc]; rfl)) rfl rfl ?_
  refine Lp (V_fld rfl Tryz.underlying163 rfl ty22 (by decide) rfl) rfl rfl ?_
  obtain ⟨x33_6, hc, h⟩ := h
  refine Ls rfl rfl (X_ld rfl Tryz.underlying22 rfl rfl hc ?_)
  refine Lp (V_eqL rfl Tryz.underlying22 rfl rfl) rfl rfl ?_
  refine Lp (V_move rfl rfl) rfl rfl ?_
  refine Lsplit 3 x33_6.a.isNone [(0, .pointer a0), (1, .int .i64 a1), (5, .int .i64 x10_1), (38, .bool (x33_6.a.isNone && (decide (a1 ≤ 64))))] ?_ ?_ ?_
  · intro e5 hk5
    refine Lypb (V_move rfl rfl) rfl rfl rfl rfl e5 ?_
    refine Lypb (V_leq rfl rfl rfl) rfl rfl rfl rfl e5 ?_
    refine Lp (V_pickT rfl (evb e5) rfl) rfl rfl ?_
    exact hk5 _ (FrLe.cons rfl (FrLe.cons rfl (FrLe.cons rfl (FrLe.cons (by rw [e5]; rfl) (FrLe.nil _)))))
  · intro e5 hk5
    refine Ln rfl rfl rfl rfl (.inl (by rw [e5]; rfl)) ?_
    refine Ln rfl rfl rfl rfl (.inl (by rw [e5]; rfl)) ?_
    refine Lp (V_pickF rfl (evb e5) rfl) rfl rfl ?_
    exact hk5 _ (FrLe.cons rfl (FrLe.cons rfl (FrLe.cons rfl (FrLe.cons (by rw [e5]; rfl) (FrLe.nil _)))))
  intro fr hl
  refine Lfr hl ?_
  refine Lnil ?_
  refine thenN ?_
  refine AW.iff rfl (band_iff isNone_iff decide_eq_true_iff) h (fun h => ?_) (fun h => ?_)
  · refine AW.seq ?_
    refine AW.reg ?_
    refine Lp (V_move rfl rfl) rfl rfl ?_
    refine Lp (V_move rfl rfl) rfl rfl ?_
    obtain ⟨⟨h0, h1, h2, h3⟩, h⟩ := h
    refine Ls rfl rfl (X_new (A_mks rfl Tryz.underlying22 ty5 rfl rfl h0 h1 h2 h3) fun x41_7 g1 g2 => ?_)
    replace h := h x41_7 g1 g2
    obtain ⟨p42_8, hc, h⟩ := h
    refine Lp (V_nil rfl (by rw [← hc]; rfl)) rfl rfl ?_
    refine Lp (V_fld rfl Tryz.underlying163 rfl ty22 (by decide) rfl) rfl rfl ?_
    refine Ls rfl rfl (X_st rfl ty22 rfl rfl rfl rfl (stN_mono h fun σ h => ?_))
    refine Lnil ?_
    refine thenN ?_
    refine AW.seq ?_
    refine AW.reg ?_
    refine Lp (V_asg rfl rfl) rfl rfl ?_
    refine Lnil ?_
    refine thenN ?_
    refine AW.ret ?_
    refine thenR ?_
    exact bR1 Tryz.results122 rfl ⟨_, rfl, h⟩
  refine AW.skip ?_
  refine thenN ?_
  refine AW.seq ?_
  refine AW.reg ?_
  refine Lp (V_move rfl rfl) rfl rfl ?_
  obtain ⟨p45_9, hc, h⟩ := h
  refine Lp (V_nil rfl (by rw [← hc]; rfl)) rfl rfl ?_
  refine Lp (V_fld rfl Tryz.underlying163 rfl ty22 (by decide) rfl) rfl rfl ?_
  obtain ⟨x47_10, hc, h⟩ := h
  refine Ls rfl rfl (X_ld rfl Tryz.underlying22 rfl rfl hc ?_)
  refine Ls rfl rfl (X_bi (s := Builtin.cap_ #[22] 3 #[Sl.v x47_10]) rfl rfl (fun _ => rfl) (awp_mono _ h ?_))
  rintro v σ ⟨x48_11, rfl, h⟩
  refine Lp (V_asg rfl rfl) rfl rfl ?_
  refine Lnil ?_
  refine thenN ?_
  refine AW.seqJ (fun fr σ => FrLe [(0, .pointer a0), (1, .int .i64 a1), (5, .int .i64 x10_1)] fr ∧ j12_bytes_Buffer_grow B ro a0 a1 x10_1 Q σ) ?_ ?_
  · rintro fr σ ⟨hl, h⟩
    refine AW.weaken ?_ hl (HLe.refl _)
    unfold j12_bytes_Buffer_grow at h
    refine AW.seq ?_
    refine AW.reg ?_
    refine Lp (V_move rfl rfl) rfl rfl ?_
    obtain ⟨p96_13, hc, h⟩ := h
    refine Lp (V_nil rfl (by rw [← hc]; rfl)) rfl rfl ?_
    refine Lp (V_fld rfl Tryz.underlying163 rfl ty3 (by decide) rfl) rfl rfl ?_
    refine Ls rfl rfl (X_st rfl ty3 rfl rfl rfl rfl (stN_mono h fun σ h => ?_))
    refine Lnil ?_
    refine thenN ?_
    refine AW.seq ?_
    refine AW.reg ?_
    refine Lp (V_move rfl rfl) rfl rfl ?_
    refine Lp (V_move rfl rfl) rfl rfl ?_
    obtain ⟨p100_14, hc, h⟩ := h
    refine Lp (V_nil rfl (by rw [← hc]; rfl)) rfl rfl ?_
    refine Lp (V_fld rfl Tryz.underlying163 rfl ty22 (by decide) rfl) rfl rfl ?_
    obtain ⟨x102_15, hc, h⟩ := h
    refine Ls rfl rfl (X_ld rfl Tryz.underlying22 rfl rfl hc ?_)
    refine Lp (V_move rfl rfl) rfl rfl ?_
    refine Lp (V_move rfl rfl) rfl rfl ?_
    refine Lp (V_add rfl rfl rfl) rfl rfl ?_
    obtain ⟨hc, h⟩ := h
    refine Lp (V_slL (lo := none) (hi := (some (IntKind.i64.wrap (x10_1 + a1)))) rfl Tryz.underlying22 ty5 rfl optI_none (optI_some rfl) hc) rfl rfl ?_
    obtain ⟨p107_16, hc, h⟩ := h
    refine Lp (V_nil rfl (by rw [← hc]; rfl)) rfl rfl ?_
    refine Lp (V_fld rfl Tryz.underlying163 rfl ty22 (by decide) rfl) rfl rfl ?_
    refine Ls rfl rfl (X_st rfl ty22 rfl rfl rfl rfl (stN_mono h fun σ h => ?_))
    refine Lnil ?_
    refine thenN ?_
    refine AW.seq ?_
    refine AW.reg ?_
    refine Lp (V_move rfl rfl) rfl rfl ?_
    refine Lp (V_asg rfl rfl) rfl rfl ?_
    refine Lnil ?_
    refine thenN ?_
    refine AW.ret ?_
    exact bR1 Tryz.results122 rfl ⟨_, rfl, h⟩
  refine AW.seq ?_
  refine AW.reg ?_
  refine Lp (V_move rfl rfl) rfl rfl ?_
  refine Lp (V_move rfl rfl) rfl rfl ?_
  refine Lp (V_quo rfl rfl rfl (by decide)) rfl rfl ?_
  refine Lp (V_move rfl rfl) rfl rfl ?_
  refine Lp (V_sub rfl rfl rfl) rfl rfl ?_
  refine Lp (V_leq rfl rfl rfl) rfl rfl ?_
  refine Lnil ?_
  refine thenN ?_
  refine AW.iff rfl decide_eq_true_iff h (fun h => ?_) (fun h => ?_)
  · refine AW.drawn0 (fun i => ([0, 0, 0, 3, 0, 0, 0, 3, 0, 0, 0, 3, 0, 2] : List Nat).getD i 2) [(7, 12), (7, 13), (11, 12), (11, 13)] [0, 1, 2, 4, 5, 6, 8, 9, 10, 3, 7, 11, 12, 13] Tryz.mixed (by decide +kernel) ?_
    refine Dp rfl rfl rfl rfl (V_move rfl rfl) ?_
    obtain ⟨p56_17, hc, h⟩ := h
    refine Dp rfl rfl rfl rfl (V_nil rfl (by rw [← hc]; rfl)) ?_
    refine Dp rfl rfl rfl rfl (V_fld rfl Tryz.underlying163 rfl ty22 (by decide) rfl) ?_
    refine Dp rfl rfl rfl rfl (V_move rfl rfl) ?_
    obtain ⟨p60_18, hc, h⟩ := h
    refine Dp rfl rfl rfl rfl (V_nil rfl (by rw [← hc]; rfl)) ?_
    refine Dp rfl rfl rfl rfl (V_fld rfl Tryz.underlying163 rfl ty22 (by decide) rfl) ?_
    refine Dp rfl rfl rfl rfl (V_move rfl rfl) ?_
    obtain ⟨p64_19, hc, h⟩ := h
    refine Dp rfl rfl rfl rfl (V_nil rfl (by rw [← hc]; rfl)) ?_
    refine Dp rfl rfl rfl rfl (V_fld rfl Tryz.underlying163 rfl ty3 (by decide) rfl) ?_
    obtain ⟨x58_20, hc, h⟩ := h
    refine Dr rfl rfl rfl rfl (R_ld rfl Tryz.underlying22 rfl rfl hc) ?_
    obtain ⟨x62_21, hc, h⟩ := h
    refine Dr rfl rfl rfl rfl (R_ld rfl Tryz.underlying22 rfl rfl hc) ?_
    obtain ⟨x66_22, hc, h⟩ := h
    refine Dr rfl rfl rfl rfl (R_ld rfl Tryz.underlying3 rfl rfl hc) ?_
    obtain ⟨hc, h⟩ := h
    refine Dp rfl rfl rfl rfl (V_slL (lo := (some x66_22)) (hi := none) rfl Tryz.underlying22 ty5 rfl (optI_some rfl) optI_none hc) ?_
    refine Dg rfl rfl rfl rfl (X_bi (s := Builtin.copy_ #[22, 22] 3 #[Sl.v x58_20, Sl.v (⟨cutA x62_21.a (Int.toNat x66_22) x62_21.cap 1, x62_21.len - Int.toNat x66_22, x62_21.cap - Int.toNat x66_22⟩ : Sl)]) rfl rfl (fun _ => rfl) (awp_mono _ h ?_))
    rintro v σ ⟨x68_23, rfl, h⟩
    refine Dend ?_
    refine thenN ?_
    exact ⟨(FrLe.cons rfl (FrLe.cons rfl (FrLe.cons rfl (FrLe.nil _)))), h⟩
  refine AW.seq ?_
  refine AW.reg ?_
  refine Lp (V_move rfl rfl) rfl rfl ?_
  refine Lp (V_move rfl rfl) rfl rfl ?_
  refine Lp (V_sub rfl rfl rfl) rfl rfl ?_
  refine Lp (V_move rfl rfl) rfl rfl ?_
  refine Lp (V_sub rfl rfl rfl) rfl rfl ?_
  refine Lp (V_gtr rfl rfl rfl) rfl rfl ?_
  refine Lnil ?_
  refine thenN ?_
  refine AW.iff rfl decide_eq_true_iff h (fun h => ?_) (fun h => ?_)
  · exact h.elim
  refine AW.drawn0 (fun i => ([0, 0, 0, 0, 3, 0, 0, 0, 3, 0, 0, 0, 0, 3, 0, 0, 2, 0, 0, 2] : List Nat).getD i 2) [(4, 9), (4, 16), (8, 9), (8, 16), (13, 15), (13, 16)] [0, 1, 2, 3, 5, 6, 7, 10, 11, 12, 14, 4, 8, 9, 13, 15, 16, 17, 18, 19] Tryz.mixed (by decide +kernel) ?_
  refine Dp rfl rfl rfl rfl (V_move rfl rfl) ?_
  refine Dp rfl rfl rfl rfl (V_move rfl rfl) ?_
  obtain ⟨p78_24, hc, h⟩ := h
  refine Dp rfl rfl rfl rfl (V_nil rfl (by rw [← hc]; rfl)) ?_
  refine Dp rfl rfl rfl rfl (V_fld rfl Tryz.underlying163 rfl ty22 (by decide) rfl) ?_
  refine Dp rfl rfl rfl rfl (V_move rfl rfl) ?_
  obtain ⟨p82_25, hc, h⟩ := h
  refine Dp rfl rfl rfl rfl (V_nil rfl (by rw [← hc]; rfl)) ?_
  refine Dp rfl rfl rfl rfl (V_fld rfl Tryz.underlying163 rfl ty3 (by decide) rfl) ?_
  refine Dp rfl rfl rfl rfl (V_move rfl rfl) ?_
  obtain ⟨p87_26, hc, h⟩ := h
  refine Dp rfl rfl rfl rfl (V_nil rfl (by rw [← hc]; rfl)) ?_
  refine Dp rfl rfl rfl rfl (V_fld rfl Tryz.underlying163 rfl ty3 (by decide) rfl) ?_
  refine Dp rfl rfl rfl rfl (V_move rfl rfl) ?_
  obtain ⟨x80_27, hc, h⟩ := h
  refine Dr rfl rfl rfl rfl (R_ld rfl Tryz.underlying22 rfl rfl hc) ?_
  obtain ⟨x84_28, hc, h⟩ := h
  refine Dr rfl rfl rfl rfl (R_ld rfl Tryz.underlying3 rfl rfl hc) ?_
  obtain ⟨hc, h⟩ := h
  refine Dp rfl rfl rfl rfl (V_slL (lo := (some x84_28)) (hi := none) rfl Tryz.underlying22 ty5 rfl (optI_some rfl) optI_none hc) ?_
  obtain ⟨x89_29, hc, h⟩ := h
  refine Dr rfl rfl rfl rfl (R_ld rfl Tryz.underlying3 rfl rfl hc) ?_
  refine Dp rfl rfl rfl rfl (V_add rfl rfl rfl) ?_
  refine Dg rfl rfl rfl rfl (X_call rfl Tryz.func147 rfl rfl rfl (ACalls.mono h ?_))
  rintro v σ ⟨x92_30, rfl, h⟩
  obtain ⟨p93_31, hc, h⟩ := h
  refine Dp rfl rfl rfl rfl (V_nil rfl (by rw [← hc]; rfl)) ?_
  refine Dp rfl rfl rfl rfl (V_fld rfl Tryz.underlying163 rfl ty22 (by decide) rfl) ?_
  refine Dg rfl rfl rfl rfl (X_st rfl ty22 rfl rfl rfl rfl (stN_mono h fun σ h => ?_))
  refine Dend ?_
  refine thenN ?_
  exact ⟨(FrLe.cons rfl (FrLe.cons rfl (FrLe.cons rfl (FrLe.nil _)))), h⟩

def f_bytes_Buffer_Len (B : World) (ro : AH) (a0 : Option Addr) (σ : AH) (Q : Int → AH → Prop) : Prop :=
 ∃ p4_1 : Addr, a0 = some p4_1 ∧
 ∃ p9_2 : Addr, a0 = some p9_2 ∧
 ∃ (x6_3 : Sl), acell ro σ p4_1 = some (Sl.v x6_3) ∧
 ∃ (x11_4 : Int), acell ro σ (p9_2.add 1) = some (.int .i64 x11_4) ∧
 Q (IntKind.i64.wrap ((x6_3.len : Int) - x11_4)) σ

set_option maxRecDepth 100000 in
set_option maxHeartbeats 4000000 in
theorem bytes_Buffer_Len_ok {B : World} {ro : AH} {a0 : Option Addr} {σ : AH} {Q : Int → AH → Prop} (h : Sep ro σ → f_bytes_Buffer_Len B ro a0 σ Q) : c_bytes_Buffer_Len B ro a0 σ Q := by
  refine ACalls.of_sep fun hsep => ?_
  replace h := h hsep
  refine ACalls.of_body (args := [.pointer a0]) Tryz.func145 rfl (by rw [Tryz.ntmps145]; simp) ?_
  rw [Tryz.ntmps145]
  unfold f_bytes_Buffer_Len at h
  refine AW.seq ?_
  refine AW.reg ?_
  refine Lp (V_asg rfl rfl) rfl rfl ?_
  refine Lnil ?_
  refine thenN ?_
  refine AW.seq ?_
  refine AW.drawn0 (fun i => ([0, 0, 0, 3, 0, 0, 0, 0, 3, 0, 0] : List Nat).getD i 2) [] [0, 1, 2, 5, 6, 7, 3, 4, 8, 9, 10] Tryz.mixed (by decide +kernel) ?_
  refine Dp rfl rfl rfl rfl (V_move rfl rfl) ?_
  obtain ⟨p4_1, hc, h⟩ := h
  refine Dp rfl rfl rfl rfl (V_nil rfl (by rw [← hc]; rfl)) ?_
  refine Dp rfl rfl rfl rfl (V_fld rfl Tryz.underlying163 rfl ty22 (by decide) rfl) ?_
  refine Dp rfl rfl rfl rfl (V_move rfl rfl) ?_
  obtain ⟨p9_2, hc, h⟩ := h
  refine Dp rfl rfl rfl rfl (V_nil rfl (by rw [← hc]; rfl)) ?_
  refine Dp rfl rfl rfl rfl (V_fld rfl Tryz.underlying163 rfl ty3 (by decide) rfl) ?_
  obtain ⟨x6_3, hc, h⟩ := h
  refine Dr rfl rfl rfl rfl (R_ld rfl Tryz.underlying22 rfl rfl hc) ?_
  refine Dp rfl rfl rfl rfl (V_lenL rfl rfl Tryz.underlying22 rfl rfl) ?_
  obtain ⟨x11_4, hc, h⟩ := h
  refine Dr rfl rfl rfl rfl (R_ld rfl Tryz.underlying3 rfl rfl hc) ?_
  refine Dp rfl rfl rfl rfl (V_sub rfl rfl rfl) ?_
  refine Dp rfl rfl rfl rfl (V_asg rfl rfl) ?_
  refine Dend ?_
  refine thenN ?_
  refine AW.ret ?_
  exact bR1 Tryz.results145 rfl ⟨_, rfl, h⟩

end Go.Proofs.YtfobjidchipdaaaGreatDoor.G

/- The buffer of a writer: bytes are written behind others. -/
namespace Go.Proofs.YtfobjidchipdaaaGreatDoor.Wi
open Go Go.Proofs.YtfobjidchipdaaaGreatDoor.SL Go.Proofs.YtfobjidchipdaaaGreatDoor.G Go.Proofs.YtfobjidchipdaaaGreatDoor.Zt
set_option linter.unusedSimpArgs false
set_option linter.unusedVariables false
variable {B : World} {ro σ σ' : AH} {tag tag' : Nat → Nat}
theorem vU_one (d : Str) : ∀ v ∈ d.map vU, v.oneCell' = true := fun v hv => by
  obtain ⟨c, _, rfl⟩ := List.mem_map.1 hv; rfl
theorem vU_st (d : Str) : ∀ v ∈ d.map vU, storable v = true := fun v hv => by
  obtain ⟨c, _, rfl⟩ := List.mem_map.1 hv; rfl

theorem growSlice_ok {q n : Nat} {s : Sl} {l : List Value} {Q : Sl → AH → Prop} (h : Row tag σ q 5 s l) (hn : 1 ≤ n) (hl : l.length + n ≤ 140737488355328) (hc : s.cap ≤ 140737488355328) (h1 : ∀ v ∈ l, v.oneCell' = true)
    (hQ : ∀ s' tag' σ', (∀ R, Step R ro tag σ tag' σ') → Row tag' σ' q 5 s' l → l.length + n ≤ s'.cap → s'.cap ≤ 9223372036854775807 → Q s' σ') : c_bytes_growSlice B ro s (n : Int) σ Q := by
  refine ACalls.of_calls fun w hw hsep => ?_
  rcases h with ⟨rfl, rfl⟩ | ⟨b, cs, ha, htg, hbk, hln, hcp, hle, hg⟩
  · refine (Tryz.bytes_growSlice_nil n w hn (by simpa using hl)).mono ?_
    rintro e w' ⟨cap2, cells, he, hw', hsz, hroom, hmx, hb⟩
    obtain ⟨N, tag', hN, hst, hrow⟩ := new_row (tag := tag) q hw hsep (Nat.le_refl _) hw'
    exact ⟨_, N, he, hb, hN, ⟨some ⟨w.heap.size, 0, none⟩, 0, cap2⟩, rfl, hQ _ tag' _ hst (hrow 0 cap2 [] rfl hsz.symm (Nat.zero_le _) (by simp)) (by simpa using hroom) (by simpa [maxLen] using hmx)⟩
  · have hcur : w.heap[b]? = some (.cells cs 5 (0, 0)) := hw b _ (by unfold rd; rw [hsep b _ hbk]; exact hbk)
    have htake : cs.toList.take s.len = l := by
      apply List.ext_getElem?
      intro i
      rw [List.getElem?_take]
      split
      · rw [Array.getElem?_toList]; exact hg i (by omega)
      · rw [List.getElem?_eq_none (by omega)]
    have := Tryz.bytes_growSlice_row b s.len s.cap n cs w hcur hcp.symm hle hn (by rw [hln]; exact hl) hc (by rw [htake]; exact h1)
    unfold Sl.v
    rw [ha]
    refine this.mono ?_
    rintro e w' ⟨cap2, cells, he, hw', hsz, htk, hroom, hmx, hb⟩
    obtain ⟨N, tag', hN, hst, hrow⟩ := new_row (tag := tag) q hw hsep (Nat.le_refl _) hw'
    exact ⟨_, N, he, hb, hN, ⟨some ⟨w.heap.size, 0, none⟩, s.len, cap2⟩, rfl, hQ _ tag' _ hst (hrow s.len cap2 l hln hsz.symm (by omega) (by rw [htk, htake])) (by simp only; omega) (by simpa [maxLen] using hmx)⟩

/-- a buffer (and the mark behind it) at W, of the role r; its bytes lie in a row of the role r + 64 -/
def BufV (tag : Nat → Nat) (σ : AH) (r W : Nat) (s : Sl) (l : List Value) (bad : Bool) : Prop :=
  s.cap ≤ 9223372036854775807 ∧ ∃ lr : Int, Row tag σ r 167 ⟨some ⟨W, 0, none⟩, 4, 4⟩ [Sl.v s, .int .i64 0, .int .i8 lr, .bool bad] ∧ Row tag σ (r + 64) 5 s l
def BufAt (tag : Nat → Nat) (σ : AH) (r W : Nat) (acc : Str) (bad : Bool) : Prop := ∃ s, BufV tag σ r W s (acc.map vU) bad
theorem BufV.keep {R : List Nat} {r W : Nat} {s : Sl} {l : List Value} {bad : Bool} (h : BufV tag σ r W s l bad) (k : Step R ro tag σ tag' σ') (h1 : r ∉ R) (h2 : r + 64 ∉ R) : BufV tag' σ' r W s l bad := by
  obtain ⟨hc, lr, a, b⟩ := h
  exact ⟨hc, lr, a.keep k h1, b.keep k h2⟩
theorem BufAt.keep {R : List Nat} {r W : Nat} {acc : Str} {bad : Bool} (h : BufAt tag σ r W acc bad) (k : Step R ro tag σ tag' σ') (h1 : r ∉ R) (h2 : r + 64 ∉ R) : BufAt tag' σ' r W acc bad := by
  obtain ⟨s, h⟩ := h
  exact ⟨s, h.keep k h1 h2⟩

set_option maxRecDepth 100000 in
theorem tryGrow_ok {r W n : Nat} {s : Sl} {l : List Value} {bad : Bool} {Q : Int → Bool → AH → Prop} (h : BufV tag σ r W s l bad) (hs : SL.Sep ro σ) (hl : l.length + n ≤ 140737488355328)
    (hyes : l.length + n ≤ s.cap → ∀ s' xs σ', Step [r] ro tag σ tag σ' → xs.length = n → BufV tag σ' r W s' (l ++ xs) bad → Q l.length true σ') (hno : s.cap < l.length + n → Q 0 false σ) :
    c_bytes_Buffer_tryGrowByReslice B ro (some ⟨W, 0, none⟩) (n : Int) σ Q := by
  refine bytes_Buffer_tryGrowByReslice_ok fun _ => ?_
  unfold f_bytes_Buffer_tryGrowByReslice
  obtain ⟨hcap, lr, h1, h2⟩ := h
  obtain ⟨p, hp, hg⟩ := h1.ptr hs (by simp)
  cases hp
  have hln := h2.len
  have hc := h2.capAt
  refine ⟨_, rfl, s, hg 0 _ rfl, _, rfl, s, hg 0 _ rfl, ?_⟩
  refine awp_cap u30 ⟨_, rfl, ?_⟩
  rw [w64_eq (by omega) (by omega)]
  by_cases hroom : l.length + n ≤ s.cap
  · rw [if_pos (by omega)]
    have e : (⟨cutA s.a 0 s.cap 1, Int.toNat (IntKind.i64.wrap ((s.len : Int) + (n : Int))) - 0, s.cap - 0⟩ : Sl) = ⟨s.a, l.length + n, s.cap⟩ := by
      rw [cutA_zero, hln, w64_eq (by omega) (by omega)]
      simp only [Nat.sub_zero, Sl.mk.injEq, true_and, and_true]; omega
    refine ⟨_, rfl, s, hg 0 _ rfl, ⟨?_, trivial⟩, _, rfl, ?_⟩
    · simp only
      rw [w64_eq (by omega) (by omega)]; omega
    rw [e, hln]
    refine h1.st (i := 0) hs rfl (by simp) rfl fun σ2 st2 r2 => ?_
    obtain ⟨xs, hx, h3⟩ := h2.more hroom
    exact hyes hroom ⟨s.a, l.length + n, s.cap⟩ xs σ2 st2 hx ⟨hcap, lr, r2, h3.keep st2 (by simp)⟩
  · rw [if_neg (by omega)]
    exact hno (by omega)

set_option maxRecDepth 100000 in
theorem grow_ok {r W n : Nat} {s : Sl} {l : List Value} {bad : Bool} {Q : Int → AH → Prop} (h : BufV tag σ r W s l bad) (hs : SL.Sep ro σ) (hl : l.length + n ≤ 140737488355328) (hfull : s.cap < l.length + n) (h1c : ∀ v ∈ l, v.oneCell' = true)
    (hQ : ∀ s' xs tag' σ', Step [r, r + 64] ro tag σ tag' σ' → xs.length = n → BufV tag' σ' r W s' (l ++ xs) bad → Q l.length σ') :
    c_bytes_Buffer_grow B ro (some ⟨W, 0, none⟩) (n : Int) σ Q := by
  refine bytes_Buffer_grow_ok fun _ => ?_
  unfold f_bytes_Buffer_grow
  obtain ⟨hcap, lr, h1, h2⟩ := id h
  obtain ⟨p, hp, hg⟩ := h1.ptr hs (by simp)
  cases hp
  have hln := h2.len
  have hc := h2.capAt
  refine bytes_Buffer_Len_ok fun _ => ?_
  unfold f_bytes_Buffer_Len
  refine ⟨_, rfl, _, rfl, s, hg 0 _ rfl, 0, hg 1 _ rfl, ?_⟩
  rw [Int.sub_zero, w64_eq (by omega) (by omega), hln]
  dsimp only
  suffices hj : j2_bytes_Buffer_grow B ro (some ⟨W, 0, none⟩) (n : Int) (l.length : Int) Q σ by
    by_cases h0 : (l.length : Int) = 0
    · rw [if_pos h0]
      refine ⟨_, rfl, 0, hg 1 _ rfl, ?_⟩
      unfold j32_bytes_Buffer_grow
      rw [if_neg (by decide)]
      exact hj
    · rw [if_neg h0]
      unfold j32_bytes_Buffer_grow
      rw [if_neg (by decide)]
      exact hj
  unfold j2_bytes_Buffer_grow
  refine tryGrow_ok h hs hl (fun hroom => absurd hroom (by omega)) fun _ => ?_
  rw [if_neg (by decide)]
  refine ⟨_, rfl, s, hg 0 _ rfl, ?_⟩
  by_cases hsmall : s.a = none ∧ (n : Int) ≤ 64
  · rw [if_pos hsmall]
    have hnil : s = ⟨none, 0, 0⟩ ∧ l = [] := by
      rcases h2 with h | ⟨b, cs, ha, _⟩
      · exact h
      · rw [hsmall.1] at ha; cases ha
    obtain ⟨rfl, rfl⟩ := hnil
    have hn64 := hsmall.2
    refine ⟨⟨by omega, hn64, by decide, by decide⟩, ?_⟩
    refine nw_row (tag := tag) (r + 64) (zv := .int .u8 0) (n := 64) hs rfl fun x tag1 σ1 st1 r1 => ?_
    refine ⟨_, rfl, ?_⟩
    have r1' : Row tag1 σ1 (r + 64) 5 ⟨some ⟨x, 0, none⟩, n, 64⟩ ([] ++ (List.replicate 64 (Value.int .u8 0)).take n) := r1.take (n := n) (by simp; omega)
    have hx64 : (64 : Nat) ≤ 9223372036854775807 := by decide
    rw [Int.toNat_natCast]
    refine (h1.keep (st1 []) (by simp)).st (i := 0) (st1 []).sep rfl (by simp) rfl fun σ2 st2 r2 => ?_
    refine hQ ⟨some ⟨x, 0, none⟩, n, 64⟩ ((List.replicate 64 (Value.int .u8 0)).take n) tag1 σ2 (((st1 _).trans (st2.mono (by simp)))) (by simp; omega) ⟨hx64, lr, r2, r1'.keep st2 (by simp)⟩
  · rw [if_neg hsmall]
    refine ⟨_, rfl, s, hg 0 _ rfl, ?_⟩
    refine awp_cap u30 ⟨_, rfl, ?_⟩
    have hd : Int.tdiv (s.cap : Int) 2 = ((s.cap / 2 : Nat) : Int) := by
      rw [Int.tdiv_eq_ediv_of_nonneg (by omega)]; omega
    rw [hd, w64_eq (n := ((s.cap / 2 : Nat) : Int)) (by omega) (by omega), w64_eq (n := ((s.cap / 2 : Nat) : Int) - (l.length : Int)) (by omega) (by omega), if_neg (by omega), w64_eq (n := 9223372036854775807 - (s.cap : Int)) (by omega) (by omega), w64_eq (n := 9223372036854775807 - (s.cap : Int) - (n : Int)) (by omega) (by omega), if_neg (by omega)]
    refine ⟨_, rfl, _, rfl, _, rfl, s, hg 0 _ rfl, 0, hg 1 _ rfl, ?_, 0, hg 1 _ rfl, ?_⟩
    · exact ⟨trivial, by decide, by simp only [cutHi]; omega⟩
    rw [Int.zero_add, w64_eq (by omega) (by omega), show (⟨cutA s.a (Int.toNat 0) s.cap 1, s.len - Int.toNat 0, s.cap - Int.toNat 0⟩ : Sl) = s from by rw [show Int.toNat 0 = 0 from rfl, cutA_zero]; rfl]
    refine growSlice_ok h2 (by omega) hl (by omega) h1c fun s1 tag1 σ1 st1 r1 hc1 hc2 => ?_
    refine ⟨_, rfl, ?_⟩
    refine (h1.keep (st1 []) (by simp)).st (i := 0) (st1 []).sep rfl (by simp) rfl fun σ2 st2 r2 => ?_
    unfold j12_bytes_Buffer_grow
    refine ⟨_, rfl, ?_⟩
    refine r2.st (i := 1) st2.sep rfl (by simp) rfl fun σ3 st3 r3 => ?_
    obtain ⟨p3, hp3, hg3⟩ := r3.ptr st3.sep (by simp)
    cases hp3
    have e : (⟨cutA s1.a 0 s1.cap 1, Int.toNat (IntKind.i64.wrap ((l.length : Int) + (n : Int))) - 0, s1.cap - 0⟩ : Sl) = ⟨s1.a, l.length + n, s1.cap⟩ := by
      rw [cutA_zero, w64_eq (by omega) (by omega)]
      simp only [Nat.sub_zero, Sl.mk.injEq, true_and, and_true]; omega
    refine ⟨_, rfl, s1, hg3 0 _ rfl, ⟨?_, trivial⟩, _, rfl, ?_⟩
    · simp only
      rw [w64_eq (by omega) (by omega)]; omega
    rw [e]
    refine r3.st (i := 0) st3.sep rfl (by simp) rfl fun σ4 st4 r4 => ?_
    obtain ⟨xs, hx, r5⟩ := r1.more (n := n) hc1
    refine hQ ⟨s1.a, l.length + n, s1.cap⟩ xs tag1 σ4 ((st1 _).trans ((st2.mono (by simp)).trans ((st3.mono (by simp)).trans (st4.mono (by simp))))) hx ⟨hc2, lr, r4, ((r5.keep st2 (by simp)).keep st3 (by simp)).keep st4 (by simp)⟩

theorem ty5' : TyIs Tryz.prog 5 (.int .u8 0) 1 1 := TyIs.of (by kernel_rfl)
set_option maxRecDepth 100000 in
/-- the end of a write: the copy -/
theorem bufCopy {r W : Nat} {s : Sl} {acc d : Str} {xs : List Value} {bad : Bool} {x : Value} {t2 : TypeId} {Q : Int → AH → Prop} (h : BufV tag σ r W s (acc.map vU ++ xs) bad) (hs : SL.Sep ro σ) (hx : xs.length = d.length) (hsrc : Src Tryz.prog ro σ x (d.map vU))
    (hQ : ∀ n σ', Step [r + 64] ro tag σ tag σ' → BufAt tag σ' r W (acc ++ d) bad → Q n σ') :
    ∃ p25_6 : Addr, (some ⟨W, 0, none⟩ : Option Addr) = some p25_6 ∧ ∃ (x27_7 : Sl), acell ro σ p25_6 = some (Sl.v x27_7) ∧ cutOk (some (acc.length : Int)) none x27_7.len x27_7.cap ∧
      awp Tryz.prog ro (Builtin.copy_ #[22, t2] 3 #[Sl.v (⟨cutA x27_7.a (Int.toNat (acc.length : Int)) x27_7.cap 1, x27_7.len - Int.toNat (acc.length : Int), x27_7.cap - Int.toNat (acc.length : Int)⟩ : Sl), x]) (fun v σ => ∃ (x31_8 : Int), v = .int .i64 x31_8 ∧ Q x31_8 σ) σ := by
  obtain ⟨hcap, lr, h1, h2⟩ := h
  obtain ⟨p, hp, hg⟩ := h1.ptr hs (by simp)
  cases hp
  have hln := h2.len
  simp only [List.length_append, List.length_map] at hln
  refine ⟨_, rfl, s, hg 0 _ rfl, ⟨trivial, by omega, by simp only [cutHi]; omega⟩, ?_⟩
  rw [Int.toNat_natCast]
  refine awp_copyTail h2 hs u30 ty5' hsrc (by simp; omega) (vU_st d) fun σ1 st1 r1 => ?_
  refine ⟨_, rfl, hQ _ σ1 st1 ⟨s, hcap, lr, h1.keep st1 (by simp), ?_⟩⟩
  rw [List.take_left' (by simp)] at r1
  rw [List.map_append]; exact r1
set_option maxRecDepth 100000 in
theorem bufWrite_ok {r W : Nat} {acc d : Str} {s : Sl} {bad : Bool} {Q : Int → Value → AH → Prop} (h : BufAt tag σ r W acc bad) (hs : SL.Sep ro σ) (hl : acc.length + d.length ≤ 140737488355328) (hd : s.len = d.length)
    (hsrc : ∀ tag' σ', Step [r, r + 64] ro tag σ tag' σ' → SL.Read ro σ' s (d.map vU)) (hQ : ∀ n v tag' σ', Step [r, r + 64] ro tag σ tag' σ' → BufAt tag' σ' r W (acc ++ d) bad → Q n v σ') :
    c_bytes_Buffer_Write B ro (some ⟨W, 0, none⟩) s σ Q := by
  refine bytes_Buffer_Write_ok fun _ => ?_
  unfold f_bytes_Buffer_Write
  obtain ⟨s0, hcap, lr, h1, h2⟩ := h
  refine ⟨_, rfl, ?_⟩
  refine h1.st (i := 2) hs rfl (by simp) rfl fun σ1 st1 r1 => ?_
  have hb : BufV tag σ1 r W s0 (acc.map vU) bad := ⟨hcap, 0, r1, h2.keep st1 (by simp)⟩
  rw [hd]
  refine tryGrow_ok hb st1.sep (by simpa using hl) (fun hroom s2 xs σ2 st2 hx hb2 => ?_) fun hno => ?_
  · rw [if_neg (by simp)]
    unfold j4_bytes_Buffer_Write
    have st12 : Step [r, r + 64] ro tag σ tag σ2 := (st1.mono (by simp)).trans (st2.mono (by simp))
    rw [List.length_map]
    exact bufCopy (t2 := 22) (Q := fun n σ => Q n .nilIface σ) hb2 st2.sep hx (hsrc _ _ st12).src fun n σ3 st3 h3 => hQ n _ tag σ3 (st12.trans (st3.mono (by simp))) h3
  · rw [if_pos (by simp)]
    refine grow_ok hb st1.sep (by simpa using hl) hno (vU_one acc) fun s2 xs tag2 σ2 st2 hx hb2 => ?_
    unfold j4_bytes_Buffer_Write
    have st12 : Step [r, r + 64] ro tag σ tag2 σ2 := (st1.mono (by simp)).trans st2
    rw [List.length_map]
    exact bufCopy (t2 := 22) (Q := fun n σ => Q n .nilIface σ) hb2 st2.sep hx (hsrc _ _ st12).src fun n σ3 st3 h3 => hQ n _ tag2 σ3 (st12.trans (st3.mono (by simp))) h3
end Go.Proofs.YtfobjidchipdaaaGreatDoor.Wi
