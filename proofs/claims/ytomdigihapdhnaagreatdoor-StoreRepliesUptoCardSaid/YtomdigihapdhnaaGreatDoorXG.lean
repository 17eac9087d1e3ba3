/- GBuf, BuA, GWire -/
import Derived.Test.YtomdigihapdhnaaGreatDoorXF
/- Functions as predicate transformers, and the proofs that the code does what they tell: printed by wip/tools/gen.py. -/
namespace Go.Proofs.YtomdigihapdhnaaGreatDoor.G
open Go Go.Proofs.YtomdigihapdhnaaGreatDoor.SL
set_option linter.unusedVariables false
set_option linter.unusedSimpArgs false

def j4_bytes_Buffer_WriteString (B : World) (ro : AH) (a0 : Option Addr) (a1 : ByteArray) (Q : Int → Value → AH → Prop) (x6_5 : Int) (σ : AH) : Prop :=
 ∃ p25_6 : Addr, a0 = some p25_6 ∧
 ∃ (x27_7 : Sl), acell ro σ p25_6 = some (Sl.v x27_7) ∧
 cutOk (some x6_5) none x27_7.len x27_7.cap ∧
 awp Tryz.prog ro (Builtin.copy_ #[24, 9] 3 #[Sl.v (⟨cutA x27_7.a (Int.toNat x6_5) x27_7.cap 1, x27_7.len - Int.toNat x6_5, x27_7.cap - Int.toNat x6_5⟩ : Sl), .string a1]) (fun v σ => ∃ (x31_8 : Int), v = .int .i64 x31_8 ∧
  Q x31_8 .nilIface σ) σ

def f_bytes_Buffer_WriteString (B : World) (ro : AH) (a0 : Option Addr) (a1 : ByteArray) (σ : AH) (Q : Int → Value → AH → Prop) : Prop :=
 ∃ p9_1 : Addr, a0 = some p9_1 ∧
 stN (p9_1.add 2) (fun σ =>
  c_bytes_Buffer_tryGrowByReslice B ro a0 (a1.size : Int) σ fun x15_2 x15_3 σ =>
  if ¬ (x15_3 = true) then
   c_bytes_Buffer_grow B ro a0 (a1.size : Int) σ fun x23_9 σ =>
   j4_bytes_Buffer_WriteString B ro a0 a1 Q x23_9 σ
  else
  j4_bytes_Buffer_WriteString B ro a0 a1 Q x15_2 σ) [.int .i8 0] 0 σ

set_option maxRecDepth 100000 in
set_option maxHeartbeats 4000000 in
theorem bytes_Buffer_WriteString_ok {B : World} {ro : AH} {a0 : Option Addr} {a1 : ByteArray} {σ : AH} {Q : Int → Value → AH → Prop} (h : Sep ro σ → f_bytes_Buffer_WriteString B ro a0 a1 σ Q) : c_bytes_Buffer_WriteString B ro a0 a1 σ Q := by
  refine ACalls.of_sep fun hsep => ?_
  replace h := h hsep
  refine ACalls.of_body (args := [.pointer a0, .string a1]) Tryz.func115 rfl (by rw [Tryz.ntmps115]; simp) ?_
  rw [Tryz.ntmps115]
  unfold f_bytes_Buffer_WriteString at h
  refine AW.seq ?_
  refine AW.reg ?_
  refine Lp (V_asg rfl rfl) rfl rfl ?_
  refine Lp (V_asg rfl rfl) rfl rfl ?_
  refine Lnil ?_
  refine thenN ?_
  refine AW.seq ?_
  refine AW.reg ?_
  refine Lp (V_move rfl rfl) rfl rfl ?_
  obtain ⟨p9_1, hc, h⟩ := h
  refine Lp (V_nil rfl (by rw [← hc]; rfl)) rfl rfl ?_
  refine Lp (V_fld rfl Tryz.underlying217 rfl ty215 (by decide) rfl) rfl rfl ?_
  refine Ls rfl rfl (X_st rfl ty215 rfl rfl rfl rfl (stN_mono h fun σ h => ?_))
  refine Lnil ?_
  refine thenN ?_
  refine AW.seq ?_
  refine AW.reg ?_
  refine Lp (V_move rfl rfl) rfl rfl ?_
  refine Lp (V_move rfl rfl) rfl rfl ?_
  refine Lp (V_lenS rfl rfl Tryz.underlying9 rfl rfl) rfl rfl ?_
  refine Ls rfl rfl (X_call rfl Tryz.func176 rfl rfl rfl (ACalls.mono h ?_))
  rintro v σ ⟨x15_2, x15_3, rfl, h⟩
  refine Lp (V_move rfl rfl) rfl rfl ?_
  refine Lp (V_ext rfl rfl rfl) rfl rfl ?_
  refine Lp (V_ext rfl rfl rfl) rfl rfl ?_
  refine Lp (V_asg rfl rfl) rfl rfl ?_
  refine Lp (V_asg rfl rfl) rfl rfl ?_
  refine Lnil ?_
  refine thenN ?_
  refine AW.seqJ (fun fr σ => ∃ (x6_5 : Int), FrLe [(0, .pointer a0), (1, .string a1), (6, .int .i64 x6_5)] fr ∧ j4_bytes_Buffer_WriteString B ro a0 a1 Q x6_5 σ) ?_ ?_
  rotate_left
  · refine AW.seq ?_
    refine AW.reg ?_
    refine Lp (V_move rfl rfl) rfl rfl ?_
    refine Lp (V_not rfl rfl) rfl rfl ?_
    refine Lnil ?_
    refine thenN ?_
    refine AW.iff rfl (bnot_iff Iff.rfl) h (fun h => ?_) (fun h => ?_)
    rotate_left
    · refine AW.skip ?_
      refine thenN ?_
      exact ⟨_, (FrLe.cons rfl (FrLe.cons rfl (FrLe.cons rfl (FrLe.nil _)))), h⟩
    refine AW.reg ?_
    refine Lp (V_move rfl rfl) rfl rfl ?_
    refine Lp (V_move rfl rfl) rfl rfl ?_
    refine Lp (V_lenS rfl rfl Tryz.underlying9 rfl rfl) rfl rfl ?_
    refine Ls rfl rfl (X_call rfl Tryz.func177 rfl rfl rfl (ACalls.mono h ?_))
    rintro v σ ⟨x23_9, rfl, h⟩
    refine Lp (V_asg rfl rfl) rfl rfl ?_
    refine Lnil ?_
    refine thenN ?_
    exact ⟨_, (FrLe.cons rfl (FrLe.cons rfl (FrLe.cons rfl (FrLe.nil _)))), h⟩
  rintro fr σ ⟨x6_5, hl, h⟩
  refine AW.weaken ?_ hl (HLe.refl _)
  unfold j4_bytes_Buffer_WriteString at h
  refine AW.seq ?_
  refine AW.reg ?_
  refine Lp (V_move rfl rfl) rfl rfl ?_
  obtain ⟨p25_6, hc, h⟩ := h
  refine Lp (V_nil rfl (by rw [← hc]; rfl)) rfl rfl ?_
  refine Lp (V_fld rfl Tryz.underlying217 rfl ty24 (by decide) rfl) rfl rfl ?_
  obtain ⟨x27_7, hc, h⟩ := h
  refine Ls rfl rfl (X_ld rfl Tryz.underlying24 rfl rfl hc ?_)
  refine Lp (V_move rfl rfl) rfl rfl ?_
  obtain ⟨hc, h⟩ := h
  refine Lp (V_slL (lo := (some x6_5)) (hi := none) rfl Tryz.underlying24 ty5 rfl (optI_some rfl) optI_none hc) rfl rfl ?_
  refine Lp (V_move rfl rfl) rfl rfl ?_
  refine Ls rfl rfl (X_bi (s := Builtin.copy_ #[24, 9] 3 #[Sl.v (⟨cutA x27_7.a (Int.toNat x6_5) x27_7.cap 1, x27_7.len - Int.toNat x6_5, x27_7.cap - Int.toNat x6_5⟩ : Sl), .string a1]) rfl rfl (fun _ => rfl) (awp_mono _ h ?_))
  rintro v σ ⟨x31_8, rfl, h⟩
  refine Lp (V_asg rfl rfl) rfl rfl ?_
  refine Lp (V_asg rfl rfl) rfl rfl ?_
  refine Lnil ?_
  refine thenN ?_
  refine AW.ret ?_
  exact bR2 Tryz.results115 rfl rfl ⟨_, _, rfl, h⟩

def j4_bytes_Buffer_Write (B : World) (ro : AH) (a0 : Option Addr) (a1 : Sl) (Q : Int → Value → AH → Prop) (x6_5 : Int) (σ : AH) : Prop :=
 ∃ p25_6 : Addr, a0 = some p25_6 ∧
 ∃ (x27_7 : Sl), acell ro σ p25_6 = some (Sl.v x27_7) ∧
 cutOk (some x6_5) none x27_7.len x27_7.cap ∧
 awp Tryz.prog ro (Builtin.copy_ #[24, 24] 3 #[Sl.v (⟨cutA x27_7.a (Int.toNat x6_5) x27_7.cap 1, x27_7.len - Int.toNat x6_5, x27_7.cap - Int.toNat x6_5⟩ : Sl), Sl.v a1]) (fun v σ => ∃ (x31_8 : Int), v = .int .i64 x31_8 ∧
  Q x31_8 .nilIface σ) σ

def f_bytes_Buffer_Write (B : World) (ro : AH) (a0 : Option Addr) (a1 : Sl) (σ : AH) (Q : Int → Value → AH → Prop) : Prop :=
 ∃ p9_1 : Addr, a0 = some p9_1 ∧
 stN (p9_1.add 2) (fun σ =>
  c_bytes_Buffer_tryGrowByReslice B ro a0 (a1.len : Int) σ fun x15_2 x15_3 σ =>
  if ¬ (x15_3 = true) then
   c_bytes_Buffer_grow B ro a0 (a1.len : Int) σ fun x23_9 σ =>
   j4_bytes_Buffer_Write B ro a0 a1 Q x23_9 σ
  else
  j4_bytes_Buffer_Write B ro a0 a1 Q x15_2 σ) [.int .i8 0] 0 σ

set_option maxRecDepth 100000 in
set_option maxHeartbeats 4000000 in
theorem bytes_Buffer_Write_ok {B : World} {ro : AH} {a0 : Option Addr} {a1 : Sl} {σ : AH} {Q : Int → Value → AH → Prop} (h : Sep ro σ → f_bytes_Buffer_Write B ro a0 a1 σ Q) : c_bytes_Buffer_Write B ro a0 a1 σ Q := by
  refine ACalls.of_sep fun hsep => ?_
  replace h := h hsep
  refine ACalls.of_body (args := [.pointer a0, Sl.v a1]) Tryz.func116 rfl (by rw [Tryz.ntmps116]; simp) ?_
  rw [Tryz.ntmps116]
  unfold f_bytes_Buffer_Write at h
  refine AW.seq ?_
  refine AW.reg ?_
  refine Lp (V_asg rfl rfl) rfl rfl ?_
  refine Lp (V_asg rfl rfl) rfl rfl ?_
  refine Lnil ?_
  refine thenN ?_
  refine AW.seq ?_
  refine AW.reg ?_
  refine Lp (V_move rfl rfl) rfl rfl ?_
  obtain ⟨p9_1, hc, h⟩ := h
  refine Lp (V_nil rfl (by rw [← hc]; rfl)) rfl rfl ?_
  refine Lp (V_fld rfl Tryz.underlying217 rfl ty215 (by decide) rfl) rfl rfl ?_
  refine Ls rfl rfl (X_st rfl ty215 rfl rfl rfl rfl (stN_mono h fun σ h => ?_))
  refine Lnil ?_
  refine thenN ?_
  refine AW.seq ?_
  refine AW.reg ?_
  refine Lp (V_move rfl rfl) rfl rfl ?_
  refine Lp (V_move rfl rfl) rfl rfl ?_
  refine Lp (V_lenL rfl rfl Tryz.underlying24 rfl rfl) rfl rfl ?_
  refine Ls rfl rfl (X_call rfl Tryz.func176 rfl rfl rfl (ACalls.mono h ?_))
  rintro v σ ⟨x15_2, x15_3, rfl, h⟩
  refine Lp (V_move rfl rfl) rfl rfl ?_
  refine Lp (V_ext rfl rfl rfl) rfl rfl ?_
  refine Lp (V_ext rfl rfl rfl) rfl rfl ?_
  refine Lp (V_asg rfl rfl) rfl rfl ?_
  refine Lp (V_asg rfl rfl) rfl rfl ?_
  refine Lnil ?_
  refine thenN ?_
  refine AW.seqJ (fun fr σ => ∃ (x6_5 : Int), FrLe [(0, .pointer a0), (1, Sl.v a1), (6, .int .i64 x6_5)] fr ∧ j4_bytes_Buffer_Write B ro a0 a1 Q x6_5 σ) ?_ ?_
  rotate_left
  · refine AW.seq ?_
    refine AW.reg ?_
    refine Lp (V_move rfl rfl) rfl rfl ?_
    refine Lp (V_not rfl rfl) rfl rfl ?_
    refine Lnil ?_
    refine thenN ?_
    refine AW.iff rfl (bnot_iff Iff.rfl) h (fun h => ?_) (fun h => ?_)
    rotate_left
    · refine AW.skip ?_
      refine thenN ?_
      exact ⟨_, (FrLe.cons rfl (FrLe.cons rfl (FrLe.cons rfl (FrLe.nil _)))), h⟩
    refine AW.reg ?_
    refine Lp (V_move rfl rfl) rfl rfl ?_
    refine Lp (V_move rfl rfl) rfl rfl ?_
    refine Lp (V_lenL rfl rfl Tryz.underlying24 rfl rfl) rfl rfl ?_
    refine Ls rfl rfl (X_call rfl Tryz.func177 rfl rfl rfl (ACalls.mono h ?_))
    rintro v σ ⟨x23_9, rfl, h⟩
    refine Lp (V_asg rfl rfl) rfl rfl ?_
    refine Lnil ?_
    refine thenN ?_
    exact ⟨_, (FrLe.cons rfl (FrLe.cons rfl (FrLe.cons rfl (FrLe.nil _)))), h⟩
  rintro fr σ ⟨x6_5, hl, h⟩
  refine AW.weaken ?_ hl (HLe.refl _)
  unfold j4_bytes_Buffer_Write at h
  refine AW.seq ?_
  refine AW.reg ?_
  refine Lp (V_move rfl rfl) rfl rfl ?_
  obtain ⟨p25_6, hc, h⟩ := h
  refine Lp (V_nil rfl (by rw [← hc]; rfl)) rfl rfl ?_
  refine Lp (V_fld rfl Tryz.underlying217 rfl ty24 (by decide) rfl) rfl rfl ?_
  obtain ⟨x27_7, hc, h⟩ := h
  refine Ls rfl rfl (X_ld rfl Tryz.underlying24 rfl rfl hc ?_)
  refine Lp (V_move rfl rfl) rfl rfl ?_
  obtain ⟨hc, h⟩ := h
  refine Lp (V_slL (lo := (some x6_5)) (hi := none) rfl Tryz.underlying24 ty5 rfl (optI_some rfl) optI_none hc) rfl rfl ?_
  refine Lp (V_move rfl rfl) rfl rfl ?_
  refine Ls rfl rfl (X_bi (s := Builtin.copy_ #[24, 24] 3 #[Sl.v (⟨cutA x27_7.a (Int.toNat x6_5) x27_7.cap 1, x27_7.len - Int.toNat x6_5, x27_7.cap - Int.toNat x6_5⟩ : Sl), Sl.v a1]) rfl rfl (fun _ => rfl) (awp_mono _ h ?_))
  rintro v σ ⟨x31_8, rfl, h⟩
  refine Lp (V_asg rfl rfl) rfl rfl ?_
  refine Lp (V_asg rfl rfl) rfl rfl ?_
  refine Lnil ?_
  refine thenN ?_
  refine AW.ret ?_
  exact bR2 Tryz.results116 rfl rfl ⟨_, _, rfl, h⟩

def f_bytes_Buffer_Bytes (B : World) (ro : AH) (a0 : Option Addr) (σ : AH) (Q : Sl → AH → Prop) : Prop :=
 ∃ p4_1 : Addr, a0 = some p4_1 ∧
 ∃ p8_2 : Addr, a0 = some p8_2 ∧
 ∃ (x6_3 : Sl), acell ro σ p4_1 = some (Sl.v x6_3) ∧
 ∃ (x10_4 : Int), acell ro σ (p8_2.add 1) = some (.int .i64 x10_4) ∧
 cutOk (some x10_4) none x6_3.len x6_3.cap ∧
 Q (⟨cutA x6_3.a (Int.toNat x10_4) x6_3.cap 1, x6_3.len - Int.toNat x10_4, x6_3.cap - Int.toNat x10_4⟩ : Sl) σ

set_option maxRecDepth 100000 in
set_option maxHeartbeats 4000000 in
theorem bytes_Buffer_Bytes_ok {B : World} {ro : AH} {a0 : Option Addr} {σ : AH} {Q : Sl → AH → Prop} (h : Sep ro σ → f_bytes_Buffer_Bytes B ro a0 σ Q) : c_bytes_Buffer_Bytes B ro a0 σ Q := by
  refine ACalls.of_sep fun hsep => ?_
  replace h := h hsep
  refine ACalls.of_body (args := [.pointer a0]) Tryz.func117 rfl (by rw [Tryz.ntmps117]; simp) ?_
  rw [Tryz.ntmps117]
  unfold f_bytes_Buffer_Bytes at h
  refine AW.seq ?_
  refine AW.reg ?_
  refine Lp (V_asg rfl rfl) rfl rfl ?_
  refine Lnil ?_
  refine thenN ?_
  refine AW.seq ?_
  refine AW.drawn0 (fun i => ([0, 0, 0, 3, 0, 0, 0, 3, 0, 0] : List Nat).getD i 2) [] [0, 1, 2, 4, 5, 6, 3, 7, 8, 9] Tryz.mixed (by decide +kernel) ?_
  refine Dp rfl rfl rfl rfl (V_move rfl rfl) ?_
  obtain ⟨p4_1, hc, h⟩ := h
  refine Dp rfl rfl rfl rfl (V_nil rfl (by rw [← hc]; rfl)) ?_
  refine Dp rfl rfl rfl rfl (V_fld rfl Tryz.underlying217 rfl ty24 (by decide) rfl) ?_
  refine Dp rfl rfl rfl rfl (V_move rfl rfl) ?_
  obtain ⟨p8_2, hc, h⟩ := h
  refine Dp rfl rfl rfl rfl (V_nil rfl (by rw [← hc]; rfl)) ?_
  refine Dp rfl rfl rfl rfl (V_fld rfl Tryz.underlying217 rfl ty3 (by decide) rfl) ?_
  obtain ⟨x6_3, hc, h⟩ := h
  refine Dr rfl rfl rfl rfl (R_ld rfl Tryz.underlying24 rfl rfl hc) ?_
  obtain ⟨x10_4, hc, h⟩ := h
  refine Dr rfl rfl rfl rfl (R_ld rfl Tryz.underlying3 rfl rfl hc) ?_
  obtain ⟨hc, h⟩ := h
  refine Dp rfl rfl rfl rfl (V_slL (lo := (some x10_4)) (hi := none) rfl Tryz.underlying24 ty5 rfl (optI_some rfl) optI_none hc) ?_
  refine Dp rfl rfl rfl rfl (V_asg rfl rfl) ?_
  refine Dend ?_
  refine thenN ?_
  refine AW.ret ?_
  exact bR1 Tryz.results117 rfl ⟨_, rfl, h⟩

def f_bytes_Buffer_tryGrowByReslice (B : World) (ro : AH) (a0 : Option Addr) (a1 : Int) (σ : AH) (Q : Int → Bool → AH → Prop) : Prop :=
 ∃ p8_1 : Addr, a0 = some p8_1 ∧
 ∃ (x10_2 : Sl), acell ro σ p8_1 = some (Sl.v x10_2) ∧
 ∃ p14_3 : Addr, a0 = some p14_3 ∧
 ∃ (x16_4 : Sl), acell ro σ p14_3 = some (Sl.v x16_4) ∧
 awp Tryz.prog ro (Builtin.cap_ #[24] 3 #[Sl.v x16_4]) (fun v σ => ∃ (x17_5 : Int), v = .int .i64 x17_5 ∧
  if a1 ≤ (IntKind.i64.wrap (x17_5 - (x10_2.len : Int))) then
   ∃ p23_6 : Addr, a0 = some p23_6 ∧
   ∃ (x25_7 : Sl), acell ro σ p23_6 = some (Sl.v x25_7) ∧
   cutOk none (some (IntKind.i64.wrap ((x10_2.len : Int) + a1))) x25_7.len x25_7.cap ∧
   ∃ p30_8 : Addr, a0 = some p30_8 ∧
   stN p30_8 (fun σ =>
    Q (x10_2.len : Int) true σ) [Sl.v (⟨cutA x25_7.a (0) x25_7.cap 1, Int.toNat (IntKind.i64.wrap ((x10_2.len : Int) + a1)) - 0, x25_7.cap - 0⟩ : Sl)] 0 σ
  else
  Q 0 false σ) σ

set_option maxRecDepth 100000 in
set_option maxHeartbeats 4000000 in
theorem bytes_Buffer_tryGrowByReslice_ok {B : World} {ro : AH} {a0 : Option Addr} {a1 : Int} {σ : AH} {Q : Int → Bool → AH → Prop} (h : Sep ro σ → f_bytes_Buffer_tryGrowByReslice B ro a0 a1 σ Q) : c_bytes_Buffer_tryGrowByReslice B ro a0 a1 σ Q := by
  refine ACalls.of_sep fun hsep => ?_
  replace h := h hsep
  refine ACalls.of_body (args := [.pointer a0, .int .i64 a1]) Tryz.func176 rfl (by rw [Tryz.ntmps176]; simp) ?_
  rw [Tryz.ntmps176]
  unfold f_bytes_Buffer_tryGrowByReslice at h
  refine AW.seq ?_
  refine AW.reg ?_
  refine Lp (V_asg rfl rfl) rfl rfl ?_
  refine Lp (V_asg rfl rfl) rfl rfl ?_
  refine Lnil ?_
  refine thenN ?_
  refine AW.seq ?_
  refine AW.seq ?_
  refine AW.reg ?_
  refine Lp (V_move rfl rfl) rfl rfl ?_
  obtain ⟨p8_1, hc, h⟩ := h
  refine Lp (V_nil rfl (by rw [← hc]; rfl)) rfl rfl ?_
  refine Lp (V_fld rfl Tryz.underlying217 rfl ty24 (by decide) rfl) rfl rfl ?_
  obtain ⟨x10_2, hc, h⟩ := h
  refine Ls rfl rfl (X_ld rfl Tryz.underlying24 rfl rfl hc ?_)
  refine Lp (V_lenL rfl rfl Tryz.underlying24 rfl rfl) rfl rfl ?_
  refine Lp (V_asg rfl rfl) rfl rfl ?_
  refine Lnil ?_
  refine thenN ?_
  refine AW.seq ?_
  refine AW.reg ?_
  refine Lp (V_move rfl rfl) rfl rfl ?_
  refine Lp (V_move rfl rfl) rfl rfl ?_
  obtain ⟨p14_3, hc, h⟩ := h
  refine Lp (V_nil rfl (by rw [← hc]; rfl)) rfl rfl ?_
  refine Lp (V_fld rfl Tryz.underlying217 rfl ty24 (by decide) rfl) rfl rfl ?_
  obtain ⟨x16_4, hc, h⟩ := h
  refine Ls rfl rfl (X_ld rfl Tryz.underlying24 rfl rfl hc ?_)
  refine Ls rfl rfl (X_bi (s := Builtin.cap_ #[24] 3 #[Sl.v x16_4]) rfl rfl (fun _ => rfl) (awp_mono _ h ?_))
  rintro v σ ⟨x17_5, rfl, h⟩
  refine Lp (V_move rfl rfl) rfl rfl ?_
  refine Lp (V_sub rfl rfl rfl) rfl rfl ?_
  refine Lp (V_leq rfl rfl rfl) rfl rfl ?_
  refine Lnil ?_
  refine thenN ?_
  refine AW.iff rfl decide_eq_true_iff h (fun h => ?_) (fun h => ?_)
  rotate_left
  · refine AW.skip ?_
    refine thenN ?_
    refine AW.seq ?_
    refine AW.reg ?_
    refine Lp (V_asg rfl rfl) rfl rfl ?_
    refine Lp (V_asg rfl rfl) rfl rfl ?_
    refine Lnil ?_
    refine thenN ?_
    refine AW.ret ?_
    exact bR2 Tryz.results176 rfl rfl ⟨_, _, rfl, h⟩
  refine AW.seq ?_
  refine AW.reg ?_
  refine Lp (V_move rfl rfl) rfl rfl ?_
  refine Lp (V_move rfl rfl) rfl rfl ?_
  obtain ⟨p23_6, hc, h⟩ := h
  refine Lp (V_nil rfl (by rw [← hc]; rfl)) rfl rfl ?_
  refine Lp (V_fld rfl Tryz.underlying217 rfl ty24 (by decide) rfl) rfl rfl ?_
  obtain ⟨x25_7, hc, h⟩ := h
  refine Ls rfl rfl (X_ld rfl Tryz.underlying24 rfl rfl hc ?_)
  refine Lp (V_move rfl rfl) rfl rfl ?_
  refine Lp (V_move rfl rfl) rfl rfl ?_
  refine Lp (V_add rfl rfl rfl) rfl rfl ?_
  obtain ⟨hc, h⟩ := h
  refine Lp (V_slL (lo := none) (hi := (some (IntKind.i64.wrap ((x10_2.len : Int) + a1)))) rfl Tryz.underlying24 ty5 rfl optI_none (optI_some rfl) hc) rfl rfl ?_
  obtain ⟨p30_8, hc, h⟩ := h
  refine Lp (V_nil rfl (by rw [← hc]; rfl)) rfl rfl ?_
  refine Lp (V_fld rfl Tryz.underlying217 rfl ty24 (by decide) rfl) rfl rfl ?_
  refine Ls rfl rfl (X_st rfl ty24 rfl rfl rfl rfl (stN_mono h fun σ h => ?_))
  refine Lnil ?_
  refine thenN ?_
  refine AW.seq ?_
  refine AW.reg ?_
  refine Lp (V_move rfl rfl) rfl rfl ?_
  refine Lp (V_asg rfl rfl) rfl rfl ?_
  refine Lp (V_asg rfl rfl) rfl rfl ?_
  refine Lnil ?_
  refine thenN ?_
  refine AW.ret ?_
  refine thenR ?_
  exact bR2 Tryz.results176 rfl rfl ⟨_, _, rfl, h⟩

def j12_bytes_Buffer_grow (B : World) (ro : AH) (a0 : Option Addr) (a1 : Int) (x10_1 : Int) (Q : Int → AH → Prop) (σ : AH) : Prop :=
 ∃ p96_13 : Addr, a0 = some p96_13 ∧
 stN (p96_13.add 1) (fun σ =>
  ∃ p100_14 : Addr, a0 = some p100_14 ∧
  ∃ (x102_15 : Sl), acell ro σ p100_14 = some (Sl.v x102_15) ∧
  cutOk none (some (IntKind.i64.wrap (x10_1 + a1))) x102_15.len x102_15.cap ∧
  ∃ p107_16 : Addr, a0 = some p107_16 ∧
  stN p107_16 (fun σ =>
   Q x10_1 σ) [Sl.v (⟨cutA x102_15.a (0) x102_15.cap 1, Int.toNat (IntKind.i64.wrap (x10_1 + a1)) - 0, x102_15.cap - 0⟩ : Sl)] 0 σ) [.int .i64 0] 0 σ

def j2_bytes_Buffer_grow (B : World) (ro : AH) (a0 : Option Addr) (a1 : Int) (x10_1 : Int) (Q : Int → AH → Prop) (σ : AH) : Prop :=
 c_bytes_Buffer_tryGrowByReslice B ro a0 a1 σ fun x25_3 x25_4 σ =>
 if x25_4 = true then
  Q x25_3 σ
 else
 ∃ p31_5 : Addr, a0 = some p31_5 ∧
 ∃ (x33_6 : Sl), acell ro σ p31_5 = some (Sl.v x33_6) ∧
 if (x33_6.a = none) ∧ (a1 ≤ 64) then
  ((0 : Int) ≤ a1 ∧ a1 ≤ 64 ∧ (64 : Int) ≤ 281474976710656 ∧ 1 * (64 : Int) ≤ 281474976710656) ∧
  nw ro σ (.cells (zeros (.int .u8 0) (Int.toNat 64 * 1)) 5) fun x41_7 σ =>
  ∃ p42_8 : Addr, a0 = some p42_8 ∧
  stN p42_8 (fun σ =>
   Q 0 σ) [Sl.v (⟨some ⟨x41_7, 0, none⟩, Int.toNat a1, Int.toNat 64⟩ : Sl)] 0 σ
 else
 ∃ p45_9 : Addr, a0 = some p45_9 ∧
 ∃ (x47_10 : Sl), acell ro σ p45_9 = some (Sl.v x47_10) ∧
 awp Tryz.prog ro (Builtin.cap_ #[24] 3 #[Sl.v x47_10]) (fun v σ => ∃ (x48_11 : Int), v = .int .i64 x48_11 ∧
  if a1 ≤ (IntKind.i64.wrap ((IntKind.i64.wrap (Int.tdiv x48_11 2)) - x10_1)) then
   ∃ p56_17 : Addr, a0 = some p56_17 ∧
   ∃ p60_18 : Addr, a0 = some p60_18 ∧
   ∃ p64_19 : Addr, a0 = some p64_19 ∧
   ∃ (x58_20 : Sl), acell ro σ p56_17 = some (Sl.v x58_20) ∧
   ∃ (x62_21 : Sl), acell ro σ p60_18 = some (Sl.v x62_21) ∧
   ∃ (x66_22 : Int), acell ro σ (p64_19.add 1) = some (.int .i64 x66_22) ∧
   cutOk (some x66_22) none x62_21.len x62_21.cap ∧
   awp Tryz.prog ro (Builtin.copy_ #[24, 24] 3 #[Sl.v x58_20, Sl.v (⟨cutA x62_21.a (Int.toNat x66_22) x62_21.cap 1, x62_21.len - Int.toNat x66_22, x62_21.cap - Int.toNat x66_22⟩ : Sl)]) (fun v σ => ∃ (x68_23 : Int), v = .int .i64 x68_23 ∧
    j12_bytes_Buffer_grow B ro a0 a1 x10_1 Q σ) σ
  else
  if (IntKind.i64.wrap ((IntKind.i64.wrap (9223372036854775807 - x48_11)) - a1)) < x48_11 then
   False
  else
  ∃ p78_24 : Addr, a0 = some p78_24 ∧
  ∃ p82_25 : Addr, a0 = some p82_25 ∧
  ∃ p87_26 : Addr, a0 = some p87_26 ∧
  ∃ (x80_27 : Sl), acell ro σ p78_24 = some (Sl.v x80_27) ∧
  ∃ (x84_28 : Int), acell ro σ (p82_25.add 1) = some (.int .i64 x84_28) ∧
  cutOk (some x84_28) none x80_27.len x80_27.cap ∧
  ∃ (x89_29 : Int), acell ro σ (p87_26.add 1) = some (.int .i64 x89_29) ∧
  c_bytes_growSlice B ro (⟨cutA x80_27.a (Int.toNat x84_28) x80_27.cap 1, x80_27.len - Int.toNat x84_28, x80_27.cap - Int.toNat x84_28⟩ : Sl) (IntKind.i64.wrap (x89_29 + a1)) σ fun x92_30 σ =>
  ∃ p93_31 : Addr, a0 = some p93_31 ∧
  stN p93_31 (fun σ =>
   j12_bytes_Buffer_grow B ro a0 a1 x10_1 Q σ) [Sl.v x92_30] 0 σ) σ

def j32_bytes_Buffer_grow (B : World) (ro : AH) (a0 : Option Addr) (a1 : Int) (x10_1 : Int) (Q : Int → AH → Prop) (x19_33 : Bool) (σ : AH) : Prop :=
 if x19_33 = true then
  c_bytes_Buffer_Reset B ro a0 σ fun σ =>
  j2_bytes_Buffer_grow B ro a0 a1 x10_1 Q σ
 else
 j2_bytes_Buffer_grow B ro a0 a1 x10_1 Q σ

def f_bytes_Buffer_grow (B : World) (ro : AH) (a0 : Option Addr) (a1 : Int) (σ : AH) (Q : Int → AH → Prop) : Prop :=
 c_bytes_Buffer_Len B ro a0 σ fun x10_1 σ =>
 if x10_1 = 0 then
  ∃ p15_34 : Addr, a0 = some p15_34 ∧
  ∃ (x17_35 : Int), acell ro σ (p15_34.add 1) = some (.int .i64 x17_35) ∧
  j32_bytes_Buffer_grow B ro a0 a1 x10_1 Q (!(decide (x17_35 = 0))) σ
 else
 j32_bytes_Buffer_grow B ro a0 a1 x10_1 Q false σ

set_option maxRecDepth 100000 in
set_option maxHeartbeats 4000000 in
theorem bytes_Buffer_grow_ok {B : World} {ro : AH} {a0 : Option Addr} {a1 : Int} {σ : AH} {Q : Int → AH → Prop} (h : Sep ro σ → f_bytes_Buffer_grow B ro a0 a1 σ Q) : c_bytes_Buffer_grow B ro a0 a1 σ Q := by
  refine ACalls.of_sep fun hsep => ?_
  replace h := h hsep
  refine ACalls.of_body (args := [.pointer a0, .int .i64 a1]) Tryz.func177 rfl (by rw [Tryz.ntmps177]; simp) ?_
  rw [Tryz.ntmps177]
  unfold f_bytes_Buffer_grow at h
  refine AW.seq ?_
  refine AW.reg ?_
  refine Lp (V_asg rfl rfl) rfl rfl ?_
  refine Lnil ?_
  refine thenN ?_
  refine AW.seq ?_
  refine AW.reg ?_
  refine Lp (V_move rfl rfl) rfl rfl ?_
  refine Ls rfl rfl (X_call rfl Tryz.func224 rfl rfl rfl (ACalls.mono h ?_))
  rintro v σ ⟨x10_1, rfl, h⟩
  refine Lp (V_asg rfl rfl) rfl rfl ?_
  refine Lnil ?_
  refine thenN ?_
  refine AW.seqJ (fun fr σ => FrLe [(0, .pointer a0), (1, .int .i64 a1), (5, .int .i64 x10_1)] fr ∧ j2_bytes_Buffer_grow B ro a0 a1 x10_1 Q σ) ?_ ?_
  rotate_left
  · refine AW.seq ?_
    refine AW.reg ?_
    refine Lp (V_move rfl rfl) rfl rfl ?_
    refine Lp (V_eql rfl rfl rfl) rfl rfl ?_
    refine Lp (V_move rfl rfl) rfl rfl ?_
    refine LsplitJ 6 (decide (x10_1 = 0)) decide_eq_true_iff h (fun fr σ => ∃ (x19_33 : Bool), FrLe [(0, .pointer a0), (1, .int .i64 a1), (5, .int .i64 x10_1), (19, .bool x19_33)] fr ∧ j32_bytes_Buffer_grow B ro a0 a1 x10_1 Q x19_33 σ) ?_ ?_ ?_
    · intro h e2 hk2
      refine Lypb (V_move rfl rfl) rfl rfl rfl rfl e2 ?_
      obtain ⟨p15_34, hc, h⟩ := h
      refine Lypb (V_nil rfl (by rw [← hc]; rfl)) rfl rfl rfl rfl e2 ?_
      refine Lypb (V_fld rfl Tryz.underlying217 rfl ty3 (by decide) rfl) rfl rfl rfl rfl e2 ?_
      obtain ⟨x17_35, hc, h⟩ := h
      refine Lyb rfl rfl rfl rfl e2 (X_ld rfl Tryz.underlying3 rfl rfl hc ?_)
      refine Lypb (V_neq rfl rfl rfl) rfl rfl rfl rfl e2 ?_
      refine Lp (V_pickT rfl (evb e2) rfl) rfl rfl ?_
      exact hk2 _ _ ⟨_, (FrLe.cons rfl (FrLe.cons rfl (FrLe.cons rfl (FrLe.cons rfl (FrLe.nil _))))), h⟩
    · intro h e2 hk2
      refine Ln rfl rfl rfl rfl (.inl (by rw [e2]; rfl)) ?_
      refine Ln rfl rfl rfl rfl (.inl (by rw [e2]; rfl)) ?_
      refine Ln rfl rfl rfl rfl (.inl (by rw [e2]; rfl)) ?_
      refine Ln rfl rfl rfl rfl (.inl (by rw [e2]; rfl)) ?_
      refine Ln rfl rfl rfl rfl (.inl (by rw [e2]; rfl)) ?_
      refine Lp (V_pickF rfl (evb e2) rfl) rfl rfl ?_
      exact hk2 _ _ ⟨_, (FrLe.cons rfl (FrLe.cons rfl (FrLe.cons rfl (FrLe.cons rfl (FrLe.nil _))))), h⟩
    rintro fr σ ⟨x19_33, hl, h⟩
    unfold j32_bytes_Buffer_grow at h
    refine Lfr hl ?_
    refine Lnil ?_
    refine thenN ?_
    refine AW.iff rfl Iff.rfl h (fun h => ?_) (fun h => ?_)
    rotate_left
    · refine AW.skip ?_
      refine thenN ?_
      exact ⟨(FrLe.cons rfl (FrLe.cons rfl (FrLe.cons rfl (FrLe.nil _)))), h⟩
    refine AW.reg ?_
    refine Lp (V_move rfl rfl) rfl rfl ?_
    refine Ls rfl rfl (X_call rfl Tryz.func225 rfl rfl rfl (ACalls.mono h ?_))
    rintro v σ ⟨rfl, h⟩
    refine Lnil ?_
    refine thenN ?_
    exact ⟨(FrLe.cons rfl (FrLe.cons rfl (FrLe.cons rfl (FrLe.nil _)))), h⟩
  rintro fr σ ⟨hl, h⟩
  refine AW.weaken ?_ hl (HLe.refl _)
  unfold j2_bytes_Buffer_grow at h
  refine AW.seq ?_
  refine AW.seq ?_
  refine AW.reg ?_
  refine Lp (V_move rfl rfl) rfl rfl ?_
  refine Lp (V_move rfl rfl) rfl rfl ?_
  refine Ls rfl rfl (X_call rfl Tryz.func176 rfl rfl rfl (ACalls.mono h ?_))
  rintro v σ ⟨x25_3, x25_4, rfl, h⟩
  refine Lp (V_move rfl rfl) rfl rfl ?_
  refine Lp (V_ext rfl rfl rfl) rfl rfl ?_
  refine Lp (V_ext rfl rfl rfl) rfl rfl ?_
  refine Lp (V_asg rfl rfl) rfl rfl ?_
  refine Lp (V_asg rfl rfl) rfl rfl ?_
  refine Lnil ?_
  refine thenN ?_
  refine AW.seq ?_
  refine AW.reg ?_
  refine Lp (V_move rfl rfl) rfl rfl ?_
  refine Lnil ?_
  refine thenN ?_
  refine AW.iff rfl Iff.rfl h (fun h => ?_) (fun h => ?_)
  · refine AW.seq ?_
    refine AW.reg ?_
    refine Lp (V_move rfl rfl) rfl rfl ?_
    refine Lp (V_asg rfl rfl) rfl rfl ?_
    refine Lnil ?_
    refine thenN ?_
    refine AW.ret ?_
    refine thenR ?_
    exact bR1 Tryz.results177 rfl ⟨_, rfl, h⟩
  refine AW.skip ?_
  refine thenN ?_
  refine AW.seq ?_
  refine AW.seq ?_
  refine AW.reg ?_
  refine Lp (V_move rfl rfl) rfl rfl ?_
  obtain ⟨p31_5, hc, h⟩ := h
  refine Lp (V_nil rfl (by rw [← hc]; rfl)) rfl rfl ?_
  refine Lp (V_fld rfl Tryz.underlying217 rfl ty24 (by decide) rfl) rfl rfl ?_
  obtain ⟨x33_6, hc, h⟩ := h
  refine Ls rfl rfl (X_ld rfl Tryz.underlying24 rfl rfl hc ?_)
  refine Lp (V_eqL rfl Tryz.underlying24 rfl rfl) rfl rfl ?_
  refine Lp (V_move rfl rfl) rfl rfl ?_
  refine Lsplit 3 x33_6.a.isNone [(0, .pointer a0), (1, .int .i64 a1), (5, .int .i64 x10_1), (38, .bool (x33_6.a.isNone && (decide (a1 ≤ 64))))] ?_ ?_ ?_
  · intro e5 hk5
    refine Lypb (V_move rfl rfl) rfl rfl rfl rfl e5 ?_
    refine Lypb (V_leq rfl rfl rfl) rfl rfl rfl rfl e5 ?_
    refine Lp (V_pickT rfl (evb e5) rfl) rfl rfl ?_
    exact hk5 _ (FrLe.cons rfl (FrLe.cons rfl (FrLe.cons rfl (FrLe.cons (by rw [e5]; rfl) (FrLe.nil _)))))
  · intro e5 hk5
    refine Ln rfl rfl rfl rfl (.inl (by rw [e5]; rfl)) ?_
    refine Ln rfl rfl rfl rfl (.inl (by rw [e5]; rfl)) ?_
    refine Lp (V_pickF rfl (evb e5) rfl) rfl rfl ?_
    exact hk5 _ (FrLe.cons rfl (FrLe.cons rfl (FrLe.cons rfl (FrLe.cons (by rw [e5]; rfl) (FrLe.nil _)))))
  intro fr hl
  refine Lfr hl ?_
  refine Lnil ?_
  refine thenN ?_
  refine AW.iff rfl (band_iff isNone_iff decide_eq_true_iff) h (fun h => ?_) (fun h => ?_)
  · refine AW.seq ?_
    refine AW.reg ?_
    refine Lp (V_move rfl rfl) rfl rfl ?_
    refine Lp (V_move rfl rfl) rfl rfl ?_
    obtain ⟨⟨h0, h1, h2, h3⟩, h⟩ := h
    refine Ls rfl rfl (X_new (A_mks rfl Tryz.underlying24 ty5 rfl rfl h0 h1 h2 h3) fun x41_7 g1 g2 => ?_)
    replace h := h x41_7 g1 g2
    obtain ⟨p42_8, hc, h⟩ := h
    refine Lp (V_nil rfl (by rw [← hc]; rfl)) rfl rfl ?_
    refine Lp (V_fld rfl Tryz.underlying217 rfl ty24 (by decide) rfl) rfl rfl ?_
    refine Ls rfl rfl (X_st rfl ty24 rfl rfl rfl rfl (stN_mono h fun σ h => ?_))
    refine Lnil ?_
    refine thenN ?_
    refine AW.seq ?_
    refine AW.reg ?_
    refine Lp (V_asg rfl rfl) rfl rfl ?_
    refine Lnil ?_
    refine thenN ?_
    refine AW.ret ?_
    refine thenR ?_
    exact bR1 Tryz.results177 rfl ⟨_, rfl, h⟩
  refine AW.skip ?_
  refine thenN ?_
  refine AW.seq ?_
  refine AW.reg ?_
  refine Lp (V_move rfl rfl) rfl rfl ?_
  obtain ⟨p45_9, hc, h⟩ := h
  refine Lp (V_nil rfl (by rw [← hc]; rfl)) rfl rfl ?_
  refine Lp (V_fld rfl Tryz.underlying217 rfl ty24 (by decide) rfl) rfl rfl ?_
  obtain ⟨x47_10, hc, h⟩ := h
  refine Ls rfl rfl (X_ld rfl Tryz.underlying24 rfl rfl hc ?_)
  refine Ls rfl rfl (X_bi (s := Builtin.cap_ #[24] 3 #[Sl.v x47_10]) rfl rfl (fun _ => rfl) (awp_mono _ h ?_))
  rintro v σ ⟨x48_11, rfl, h⟩
  refine Lp (V_asg rfl rfl) rfl rfl ?_
  refine Lnil ?_
  refine thenN ?_
  refine AW.seqJ (fun fr σ => FrLe [(0, .pointer a0), (1, .int .i64 a1), (5, .int .i64 x10_1)] fr ∧ j12_bytes_Buffer_grow B ro a0 a1 x10_1 Q σ) ?_ ?_
  · rintro fr σ ⟨hl, h⟩
    refine AW.weaken ?_ hl (HLe.refl _)
    unfold j12_bytes_Buffer_grow at h
    refine AW.seq ?_
    refine AW.reg ?_
    refine Lp (V_move rfl rfl) rfl rfl ?_
    obtain ⟨p96_13, hc, h⟩ := h
    refine Lp (V_nil rfl (by rw [← hc]; rfl)) rfl rfl ?_
    refine Lp (V_fld rfl Tryz.underlying217 rfl ty3 (by decide) rfl) rfl rfl ?_
    refine Ls rfl rfl (X_st rfl ty3 rfl rfl rfl rfl (stN_mono h fun σ h => ?_))
    refine Lnil ?_
    refine thenN ?_
    refine AW.seq ?_
    refine AW.reg ?_
    refine Lp (V_move rfl rfl) rfl rfl ?_
    refine Lp (V_move rfl rfl) rfl rfl ?_
    obtain ⟨p100_14, hc, h⟩ := h
    refine Lp (V_nil rfl (by rw [← hc]; rfl)) rfl rfl ?_
    refine Lp (V_fld rfl Tryz.underlying217 rfl ty24 (by decide) rfl) rfl rfl ?_
    obtain ⟨x102_15, hc, h⟩ := h
    refine Ls rfl rfl (X_ld rfl Tryz.underlying24 rfl rfl hc ?_)
    refine Lp (V_move rfl rfl) rfl rfl ?_
    refine Lp (V_move rfl rfl) rfl rfl ?_
    refine Lp (V_add rfl rfl rfl) rfl rfl ?_
    obtain ⟨hc, h⟩ := h
    refine Lp (V_slL (lo := none) (hi := (some (IntKind.i64.wrap (x10_1 + a1)))) rfl Tryz.underlying24 ty5 rfl optI_none (optI_some rfl) hc) rfl rfl ?_
    obtain ⟨p107_16, hc, h⟩ := h
    refine Lp (V_nil rfl (by rw [← hc]; rfl)) rfl rfl ?_
    refine Lp (V_fld rfl Tryz.underlying217 rfl ty24 (by decide) rfl) rfl rfl ?_
    refine Ls rfl rfl (X_st rfl ty24 rfl rfl rfl rfl (stN_mono h fun σ h => ?_))
    refine Lnil ?_
    refine thenN ?_
    refine AW.seq ?_
    refine AW.reg ?_
    refine Lp (V_move rfl rfl) rfl rfl ?_
    refine Lp (V_asg rfl rfl) rfl rfl ?_
    refine Lnil ?_
    refine thenN ?_
    refine AW.ret ?_
    exact bR1 Tryz.results177 rfl ⟨_, rfl, h⟩
  refine AW.seq ?_
  refine AW.reg ?_
  refine Lp (V_move rfl rfl) rfl rfl ?_
  refine Lp (V_move rfl rfl) rfl rfl ?_
  refine Lp (V_quo rfl rfl rfl (by decide)) rfl rfl ?_
  refine Lp (V_move rfl rfl) rfl rfl ?_
  refine Lp (V_sub rfl rfl rfl) rfl rfl ?_
  refine Lp (V_leq rfl rfl rfl) rfl rfl ?_
  refine Lnil ?_
  refine thenN ?_
  refine AW.iff rfl decide_eq_true_iff h (fun h => ?_) (fun h => ?_)
  · refine AW.drawn0 (fun i => ([0, 0, 0, 3, 0, 0, 0, 3, 0, 0, 0, 3, 0, 2] : List Nat).getD i 2) [(7, 12), (7, 13), (11, 12), (11, 13)] [0, 1, 2, 4, 5, 6, 8, 9, 10, 3, 7, 11, 12, 13] Tryz.mixed (by decide +kernel) ?_
    refine Dp rfl rfl rfl rfl (V_move rfl rfl) ?_
    obtain ⟨p56_17, hc, h⟩ := h
    refine Dp rfl rfl rfl rfl (V_nil rfl (by rw [← hc]; rfl)) ?_
    refine Dp rfl rfl rfl rfl (V_fld rfl Tryz.underlying217 rfl ty24 (by decide) rfl) ?_
    refine Dp rfl rfl rfl rfl (V_move rfl rfl) ?_
    obtain ⟨p60_18, hc, h⟩ := h
    refine Dp rfl rfl rfl rfl (V_nil rfl (by rw [← hc]; rfl)) ?_
    refine Dp rfl rfl rfl rfl (V_fld rfl Tryz.underlying217 rfl ty24 (by decide) rfl) ?_
    refine Dp rfl rfl rfl rfl (V_move rfl rfl) ?_
    obtain ⟨p64_19, hc, h⟩ := h
    refine Dp rfl rfl rfl rfl (V_nil rfl (by rw [← hc]; rfl)) ?_
    refine Dp rfl rfl rfl rfl (V_fld rfl Tryz.underlying217 rfl ty3 (by decide) rfl) ?_
    obtain ⟨x58_20, hc, h⟩ := h
    refine Dr rfl rfl rfl rfl (R_ld rfl Tryz.underlying24 rfl rfl hc) ?_
    obtain ⟨x62_21, hc, h⟩ := h
    refine Dr rfl rfl rfl rfl (R_ld rfl Tryz.underlying24 rfl rfl hc) ?_
    obtain ⟨x66_22, hc, h⟩ := h
    refine Dr rfl rfl rfl rfl (R_ld rfl Tryz.underlying3 rfl rfl hc) ?_
    obtain ⟨hc, h⟩ := h
    refine Dp rfl rfl rfl rfl (V_slL (lo := (some x66_22)) (hi := none) rfl Tryz.underlying24 ty5 rfl (optI_some rfl) optI_none hc) ?_
    refine Dg rfl rfl rfl rfl (X_bi (s := Builtin.copy_ #[24, 24] 3 #[Sl.v x58_20, Sl.v (⟨cutA x62_21.a (Int.toNat x66_22) x62_21.cap 1, x62_21.len - Int.toNat x66_22, x62_21.cap - Int.toNat x66_22⟩ : Sl)]) rfl rfl (fun _ => rfl) (awp_mono _ h ?_))
    rintro v σ ⟨x68_23, rfl, h⟩
    refine Dend ?_
    refine thenN ?_
    exact ⟨(FrLe.cons rfl (FrLe.cons rfl (FrLe.cons rfl (FrLe.nil _)))), h⟩
  refine AW.seq ?_
  refine AW.reg ?_
  refine Lp (V_move rfl rfl) rfl rfl ?_
  refine Lp (V_move rfl rfl) rfl rfl ?_
  refine Lp (V_sub rfl rfl rfl) rfl rfl ?_
  refine Lp (V_move rfl rfl) rfl rfl ?_
  refine Lp (V_sub rfl rfl rfl) rfl rfl ?_
  refine Lp (V_gtr rfl rfl rfl) rfl rfl ?_
  refine Lnil ?_
  refine thenN ?_
  refine AW.iff rfl decide_eq_true_iff h (fun h => ?_) (fun h => ?_)
  · exact h.elim
  refine AW.drawn0 (fun i => ([0, 0, 0, 0, 3, 0, 0, 0, 3, 0, 0, 0, 0, 3, 0, 0, 2, 0, 0, 2] : List Nat).getD i 2) [(4, 9), (4, 16), (8, 9), (8, 16), (13, 15), (13, 16)] [0, 1, 2, 3, 5, 6, 7, 10, 11, 12, 14, 4, 8, 9, 13, 15, 16, 17, 18, 19] Tryz.mixed (by decide +kernel) ?_
  refine Dp rfl rfl rfl rfl (V_move rfl rfl) ?_
  refine Dp rfl rfl rfl rfl (V_move rfl rfl) ?_
  obtain ⟨p78_24, hc, h⟩ := h
  refine Dp rfl rfl rfl rfl (V_nil rfl (by rw [← hc]; rfl)) ?_
  refine Dp rfl rfl rfl rfl (V_fld rfl Tryz.underlying217 rfl ty24 (by decide) rfl) ?_
  refine Dp rfl rfl rfl rfl (V_move rfl rfl) ?_
  obtain ⟨p82_25, hc, h⟩ := h
  refine Dp rfl rfl rfl rfl (V_nil rfl (by rw [← hc]; rfl)) ?_
  refine Dp rfl rfl rfl rfl (V_fld rfl Tryz.underlying217 rfl ty3 (by decide) rfl) ?_
  refine Dp rfl rfl rfl rfl (V_move rfl rfl) ?_
  obtain ⟨p87_26, hc, h⟩ := h
  refine Dp rfl rfl rfl rfl (V_nil rfl (by rw [← hc]; rfl)) ?_
  refine Dp rfl rfl rfl rfl (V_fld rfl Tryz.underlying217 rfl ty3 (by decide) rfl) ?_
  refine Dp rfl rfl rfl rfl (V_move rfl rfl) ?_
  obtain ⟨x80_27, hc, h⟩ := h
  refine Dr rfl rfl rfl rfl (R_ld rfl Tryz.underlying24 rfl rfl hc) ?_
  obtain ⟨x84_28, hc, h⟩ := h
  refine Dr rfl rfl rfl rfl (R_ld rfl Tryz.underlying3 rfl rfl hc) ?_
  obtain ⟨hc, h⟩ := h
  refine Dp rfl rfl rfl rfl (V_slL (lo := (some x84_28)) (hi := none) rfl Tryz.underlying24 ty5 rfl (optI_some rfl) optI_none hc) ?_
  obtain ⟨x89_29, hc, h⟩ := h
  refine Dr rfl rfl rfl rfl (R_ld rfl Tryz.underlying3 rfl rfl hc) ?_
  refine Dp rfl rfl rfl rfl (V_add rfl rfl rfl) ?_
  refine Dg rfl rfl rfl rfl (X_call rfl Tryz.func226 rfl rfl rfl (ACalls.mono h ?_))
  rintro v σ ⟨x92_30, rfl, h⟩
  obtain ⟨p93_31, hc, h⟩ := h
  refine Dp rfl rfl rfl rfl (V_nil rfl (by rw [← hc]; rfl)) ?_
  refine Dp rfl rfl rfl rfl (V_fld rfl Tryz.underlying217 rfl ty24 (by decide) rfl) ?_
  refine Dg rfl rfl rfl rfl (X_st rfl ty24 rfl rfl rfl rfl (stN_mono h fun σ h => ?_))
  refine Dend ?_
  refine thenN ?_
  exact ⟨(FrLe.cons rfl (FrLe.cons rfl (FrLe.cons rfl (FrLe.nil _)))), h⟩

def f_bytes_Buffer_Len (B : World) (ro : AH) (a0 : Option Addr) (σ : AH) (Q : Int → AH → Prop) : Prop :=
 ∃ p4_1 : Addr, a0 = some p4_1 ∧
 ∃ p9_2 : Addr, a0 = some p9_2 ∧
 ∃ (x6_3 : Sl), acell ro σ p4_1 = some (Sl.v x6_3) ∧
 ∃ (x11_4 : Int), acell ro σ (p9_2.add 1) = some (.int .i64 x11_4) ∧
 Q (IntKind.i64.wrap ((x6_3.len : Int) - x11_4)) σ

set_option maxRecDepth 100000 in
set_option maxHeartbeats 4000000 in
theorem bytes_Buffer_Len_ok {B : World} {ro : AH} {a0 : Option Addr} {σ : AH} {Q : Int → AH → Prop} (h : Sep ro σ → f_bytes_Buffer_Len B ro a0 σ Q) : c_bytes_Buffer_Len B ro a0 σ Q := by
  refine ACalls.of_sep fun hsep => ?_
  replace h := h hsep
  refine ACalls.of_body (args := [.pointer a0]) Tryz.func224 rfl (by rw [Tryz.ntmps224]; simp) ?_
  rw [Tryz.ntmps224]
  unfold f_bytes_Buffer_Len at h
  refine AW.seq ?_
  refine AW.reg ?_
  refine Lp (V_asg rfl rfl) rfl rfl ?_
  refine Lnil ?_
  refine thenN ?_
  refine AW.seq ?_
  refine AW.drawn0 (fun i => ([0, 0, 0, 3, 0, 0, 0, 0, 3, 0, 0] : List Nat).getD i 2) [] [0, 1, 2, 5, 6, 7, 3, 4, 8, 9, 10] Tryz.mixed (by decide +kernel) ?_
  refine Dp rfl rfl rfl rfl (V_move rfl rfl) ?_
  obtain ⟨p4_1, hc, h⟩ := h
  refine Dp rfl rfl rfl rfl (V_nil rfl (by rw [← hc]; rfl)) ?_
  refine Dp rfl rfl rfl rfl (V_fld rfl Tryz.underlying217 rfl ty24 (by decide) rfl) ?_
  refine Dp rfl rfl rfl rfl (V_move rfl rfl) ?_
  obtain ⟨p9_2, hc, h⟩ := h
  refine Dp rfl rfl rfl rfl (V_nil rfl (by rw [← hc]; rfl)) ?_
  refine Dp rfl rfl rfl rfl (V_fld rfl Tryz.underlying217 rfl ty3 (by decide) rfl) ?_
  obtain ⟨x6_3, hc, h⟩ := h
  refine Dr rfl rfl rfl rfl (R_ld rfl Tryz.underlying24 rfl rfl hc) ?_
  refine Dp rfl rfl rfl rfl (V_lenL rfl rfl Tryz.underlying24 rfl rfl) ?_
  obtain ⟨x11_4, hc, h⟩ := h
  refine Dr rfl rfl rfl rfl (R_ld rfl Tryz.underlying3 rfl rfl hc) ?_
  refine Dp rfl rfl rfl rfl (V_sub rfl rfl rfl) ?_
  refine Dp rfl rfl rfl rfl (V_asg rfl rfl) ?_
  refine Dend ?_
  refine thenN ?_
  refine AW.ret ?_
  exact bR1 Tryz.results224 rfl ⟨_, rfl, h⟩

end Go.Proofs.YtomdigihapdhnaaGreatDoor.G

/- The buffer of a writer: bytes are written behind others. -/
namespace Go.Proofs.YtomdigihapdhnaaGreatDoor.Wi
open Go Go.Proofs.YtomdigihapdhnaaGreatDoor.SL Go.Proofs.YtomdigihapdhnaaGreatDoor.G Go.Proofs.YtomdigihapdhnaaGreatDoor.Zt
set_option linter.unusedSimpArgs false
set_option linter.unusedVariables false
variable {B : World} {ro σ σ' : AH} {tag tag' : Nat → Nat}
theorem vU_one (d : Str) : ∀ v ∈ d.map vU, v.oneCell' = true := fun v hv => by
  obtain ⟨c, _, rfl⟩ := List.mem_map.1 hv; rfl
theorem vU_st (d : Str) : ∀ v ∈ d.map vU, storable v = true := fun v hv => by
  obtain ⟨c, _, rfl⟩ := List.mem_map.1 hv; rfl

theorem growSlice_ok {q n : Nat} {s : Sl} {l : List Value} {Q : Sl → AH → Prop} (h : Row tag σ q 5 s l) (hn : 1 ≤ n) (hl : l.length + n ≤ 140737488355328) (hc : s.cap ≤ 140737488355328) (h1 : ∀ v ∈ l, v.oneCell' = true)
    (hQ : ∀ s' tag' σ', (∀ R, Step R ro tag σ tag' σ') → Row tag' σ' q 5 s' l → l.length + n ≤ s'.cap → s'.cap ≤ 9223372036854775807 → Q s' σ') : c_bytes_growSlice B ro s (n : Int) σ Q := by
  refine ACalls.of_calls fun w hw hsep => ?_
  rcases h with ⟨rfl, rfl⟩ | ⟨b, cs, ha, htg, hbk, hln, hcp, hle, hg⟩
  · refine (Tryz.bytes_growSlice_nil n w hn (by simpa using hl)).mono ?_
    rintro e w' ⟨cap2, cells, he, hw', hsz, hroom, hmx, hb⟩
    obtain ⟨N, tag', hN, hst, hrow⟩ := new_row (tag := tag) q hw hsep (Nat.le_refl _) hw'
    exact ⟨_, N, he, hb, hN, ⟨some ⟨w.heap.size, 0, none⟩, 0, cap2⟩, rfl, hQ _ tag' _ hst (hrow 0 cap2 [] rfl hsz.symm (Nat.zero_le _) (by simp)) (by simpa using hroom) (by simpa [maxLen] using hmx)⟩
  · have hcur : w.heap[b]? = some (.cells cs 5 (0, 0)) := hw b _ (by unfold rd; rw [hsep b _ hbk]; exact hbk)
    have htake : cs.toList.take s.len = l := by
      apply List.ext_getElem?
      intro i
      rw [List.getElem?_take]
      split
      · rw [Array.getElem?_toList]; exact hg i (by omega)
      · rw [List.getElem?_eq_none (by omega)]
    have := Tryz.bytes_growSlice_row b s.len s.cap n cs w hcur hcp.symm hle hn (by rw [hln]; exact hl) hc (by rw [htake]; exact h1)
    unfold Sl.v
    rw [ha]
    refine this.mono ?_
    rintro e w' ⟨cap2, cells, he, hw', hsz, htk, hroom, hmx, hb⟩
    obtain ⟨N, tag', hN, hst, hrow⟩ := new_row (tag := tag) q hw hsep (Nat.le_refl _) hw'
    exact ⟨_, N, he, hb, hN, ⟨some ⟨w.heap.size, 0, none⟩, s.len, cap2⟩, rfl, hQ _ tag' _ hst (hrow s.len cap2 l hln hsz.symm (by omega) (by rw [htk, htake])) (by simp only; omega) (by simpa [maxLen] using hmx)⟩

/-- a buffer (and the mark behind it) at W, of the role r; its bytes lie in a row of the role r + 64 -/
def BufV (tag : Nat → Nat) (σ : AH) (r W : Nat) (s : Sl) (l : List Value) (bad : Bool) : Prop :=
  s.cap ≤ 9223372036854775807 ∧ ∃ lr : Int, Row tag σ r 221 ⟨some ⟨W, 0, none⟩, 4, 4⟩ [Sl.v s, .int .i64 0, .int .i8 lr, .bool bad] ∧ Row tag σ (r + 64) 5 s l
def BufAt (tag : Nat → Nat) (σ : AH) (r W : Nat) (acc : Str) (bad : Bool) : Prop := ∃ s, BufV tag σ r W s (acc.map vU) bad
theorem BufV.keep {R : List Nat} {r W : Nat} {s : Sl} {l : List Value} {bad : Bool} (h : BufV tag σ r W s l bad) (k : Step R ro tag σ tag' σ') (h1 : r ∉ R) (h2 : r + 64 ∉ R) : BufV tag' σ' r W s l bad := by
  obtain ⟨hc, lr, a, b⟩ := h
  exact ⟨hc, lr, a.keep k h1, b.keep k h2⟩
theorem BufAt.keep {R : List Nat} {r W : Nat} {acc : Str} {bad : Bool} (h : BufAt tag σ r W acc bad) (k : Step R ro tag σ tag' σ') (h1 : r ∉ R) (h2 : r + 64 ∉ R) : BufAt tag' σ' r W acc bad := by
  obtain ⟨s, h⟩ := h
  exact ⟨s, h.keep k h1 h2⟩

set_option maxRecDepth 100000 in
theorem tryGrow_ok {r W n : Nat} {s : Sl} {l : List Value} {bad : Bool} {Q : Int → Bool → AH → Prop} (h : BufV tag σ r W s l bad) (hs : SL.Sep ro σ) (hl : l.length + n ≤ 140737488355328)
    (hyes : l.length + n ≤ s.cap → ∀ s' xs σ', Step [r] ro tag σ tag σ' → xs.length = n → BufV tag σ' r W s' (l ++ xs) bad → Q l.length true σ') (hno : s.cap < l.length + n → Q 0 false σ) :
    c_bytes_Buffer_tryGrowByReslice B ro (some ⟨W, 0, none⟩) (n : Int) σ Q := by
  refine bytes_Buffer_tryGrowByReslice_ok fun _ => ?_
  unfold f_bytes_Buffer_tryGrowByReslice
  obtain ⟨hcap, lr, h1, h2⟩ := h
  obtain ⟨p, hp, hg⟩ := h1.ptr hs (by simp)
  cases hp
  have hln := h2.len
  have hc := h2.capAt
  refine ⟨_, rfl, s, hg 0 _ rfl, _, rfl, s, hg 0 _ rfl, ?_⟩
  refine awp_cap u30 ⟨_, rfl, ?_⟩
  rw [w64_eq (by omega) (by omega)]
  by_cases hroom : l.length + n ≤ s.cap
  · rw [if_pos (by omega)]
    have e : (⟨cutA s.a 0 s.cap 1, Int.toNat (IntKind.i64.wrap ((s.len : Int) + (n : Int))) - 0, s.cap - 0⟩ : Sl) = ⟨s.a, l.length + n, s.cap⟩ := by
      rw [cutA_zero, hln, w64_eq (by omega) (by omega)]
      simp only [Nat.sub_zero, Sl.mk.injEq, true_and, and_true]; omega
    refine ⟨_, rfl, s, hg 0 _ rfl, ⟨?_, trivial⟩, _, rfl, ?_⟩
    · simp only
      rw [w64_eq (by omega) (by omega)]; omega
    rw [e, hln]
    refine h1.st (i := 0) hs rfl (by simp) rfl fun σ2 st2 r2 => ?_
    obtain ⟨xs, hx, h3⟩ := h2.more hroom
    exact hyes hroom ⟨s.a, l.length + n, s.cap⟩ xs σ2 st2 hx ⟨hcap, lr, r2, h3.keep st2 (by simp)⟩
  · rw [if_neg (by omega)]
    exact hno (by omega)

set_option maxRecDepth 100000 in
theorem grow_ok {r W n : Nat} {s : Sl} {l : List Value} {bad : Bool} {Q : Int → AH → Prop} (h : BufV tag σ r W s l bad) (hs : SL.Sep ro σ) (hl : l.length + n ≤ 140737488355328) (hfull : s.cap < l.length + n) (h1c : ∀ v ∈ l, v.oneCell' = true)
    (hQ : ∀ s' xs tag' σ', Step [r, r + 64] ro tag σ tag' σ' → xs.length = n → BufV tag' σ' r W s' (l ++ xs) bad → Q l.length σ') :
    c_bytes_Buffer_grow B ro (some ⟨W, 0, none⟩) (n : Int) σ Q := by
  refine bytes_Buffer_grow_ok fun _ => ?_
  unfold f_bytes_Buffer_grow
  obtain ⟨hcap, lr, h1, h2⟩ := id h
  obtain ⟨p, hp, hg⟩ := h1.ptr hs (by simp)
  cases hp
  have hln := h2.len
  have hc := h2.capAt
  refine bytes_Buffer_Len_ok fun _ => ?_
  unfold f_bytes_Buffer_Len
  refine ⟨_, rfl, _, rfl, s, hg 0 _ rfl, 0, hg 1 _ rfl, ?_⟩
  rw [Int.sub_zero, w64_eq (by omega) (by omega), hln]
  dsimp only
  suffices hj : j2_bytes_Buffer_grow B ro (some ⟨W, 0, none⟩) (n : Int) (l.length : Int) Q σ by
    by_cases h0 : (l.length : Int) = 0
    · rw [if_pos h0]
      refine ⟨_, rfl, 0, hg 1 _ rfl, ?_⟩
      unfold j32_bytes_Buffer_grow
      rw [if_neg (by decide)]
      exact hj
    · rw [if_neg h0]
      unfold j32_bytes_Buffer_grow
      rw [if_neg (by decide)]
      exact hj
  unfold j2_bytes_Buffer_grow
  refine tryGrow_ok h hs hl (fun hroom => absurd hroom (by omega)) fun _ => ?_
  rw [if_neg (by decide)]
  refine ⟨_, rfl, s, hg 0 _ rfl, ?_⟩
  by_cases hsmall : s.a = none ∧ (n : Int) ≤ 64
  · rw [if_pos hsmall]
    have hnil : s = ⟨none, 0, 0⟩ ∧ l = [] := by
      rcases h2 with h | ⟨b, cs, ha, _⟩
      · exact h
      · rw [hsmall.1] at ha; cases ha
    obtain ⟨rfl, rfl⟩ := hnil
    have hn64 := hsmall.2
    refine ⟨⟨by omega, hn64, by decide, by decide⟩, ?_⟩
    refine nw_row (tag := tag) (r + 64) (zv := .int .u8 0) (n := 64) hs rfl fun x tag1 σ1 st1 r1 => ?_
    refine ⟨_, rfl, ?_⟩
    have r1' : Row tag1 σ1 (r + 64) 5 ⟨some ⟨x, 0, none⟩, n, 64⟩ ([] ++ (List.replicate 64 (Value.int .u8 0)).take n) := r1.take (n := n) (by simp; omega)
    have hx64 : (64 : Nat) ≤ 9223372036854775807 := by decide
    rw [Int.toNat_natCast]
    refine (h1.keep (st1 []) (by simp)).st (i := 0) (st1 []).sep rfl (by simp) rfl fun σ2 st2 r2 => ?_
    refine hQ ⟨some ⟨x, 0, none⟩, n, 64⟩ ((List.replicate 64 (Value.int .u8 0)).take n) tag1 σ2 (((st1 _).trans (st2.mono (by simp)))) (by simp; omega) ⟨hx64, lr, r2, r1'.keep st2 (by simp)⟩
  · rw [if_neg hsmall]
    refine ⟨_, rfl, s, hg 0 _ rfl, ?_⟩
    refine awp_cap u30 ⟨_, rfl, ?_⟩
    have hd : Int.tdiv (s.cap : Int) 2 = ((s.cap / 2 : Nat) : Int) := by
      rw [Int.tdiv_eq_ediv_of_nonneg (by omega)]; omega
    rw [hd, w64_eq (n := ((s.cap / 2 : Nat) : Int)) (by omega) (by omega), w64_eq (n := ((s.cap / 2 : Nat) : Int) - (l.length : Int)) (by omega) (by omega), if_neg (by omega), w64_eq (n := 9223372036854775807 - (s.cap : Int)) (by omega) (by omega), w64_eq (n := 9223372036854775807 - (s.cap : Int) - (n : Int)) (by omega) (by omega), if_neg (by omega)]
    refine ⟨_, rfl, _, rfl, _, rfl, s, hg 0 _ rfl, 0, hg 1 _ rfl, ?_, 0, hg 1 _ rfl, ?_⟩
    · exact ⟨trivial, by decide, by simp only [cutHi]; omega⟩
    rw [Int.zero_add, w64_eq (by omega) (by omega), show (⟨cutA s.a (Int.toNat 0) s.cap 1, s.len - Int.toNat 0, s.cap - Int.toNat 0⟩ : Sl) = s from by rw [show Int.toNat 0 = 0 from rfl, cutA_zero]; rfl]
    refine growSlice_ok h2 (by omega) hl (by omega) h1c fun s1 tag1 σ1 st1 r1 hc1 hc2 => ?_
    refine ⟨_, rfl, ?_⟩
    refine (h1.keep (st1 []) (by simp)).st (i := 0) (st1 []).sep rfl (by simp) rfl fun σ2 st2 r2 => ?_
    unfold j12_bytes_Buffer_grow
    refine ⟨_, rfl, ?_⟩
    refine r2.st (i := 1) st2.sep rfl (by simp) rfl fun σ3 st3 r3 => ?_
    obtain ⟨p3, hp3, hg3⟩ := r3.ptr st3.sep (by simp)
    cases hp3
    have e : (⟨cutA s1.a 0 s1.cap 1, Int.toNat (IntKind.i64.wrap ((l.length : Int) + (n : Int))) - 0, s1.cap - 0⟩ : Sl) = ⟨s1.a, l.length + n, s1.cap⟩ := by
      rw [cutA_zero, w64_eq (by omega) (by omega)]
      simp only [Nat.sub_zero, Sl.mk.injEq, true_and, and_true]; omega
    refine ⟨_, rfl, s1, hg3 0 _ rfl, ⟨?_, trivial⟩, _, rfl, ?_⟩
    · simp only
      rw [w64_eq (by omega) (by omega)]; omega
    rw [e]
    refine r3.st (i := 0) st3.sep rfl (by simp) rfl fun σ4 st4 r4 => ?_
    obtain ⟨xs, hx, r5⟩ := r1.more (n := n) hc1
    refine hQ ⟨s1.a, l.length + n, s1.cap⟩ xs tag1 σ4 ((st1 _).trans ((st2.mono (by simp)).trans ((st3.mono (by simp)).trans (st4.mono (by simp))))) hx ⟨hc2, lr, r4, ((r5.keep st2 (by simp)).keep st3 (by simp)).keep st4 (by simp)⟩

theorem ty5' : TyIs Tryz.prog 5 (.int .u8 0) 1 1 := TyIs.of (by kernel_rfl)
set_option maxRecDepth 100000 in
/-- the end of a write: the copy -/
theorem bufCopy {r W : Nat} {s : Sl} {acc d : Str} {xs : List Value} {bad : Bool} {x : Value} {t2 : TypeId} {Q : Int → AH → Prop} (h : BufV tag σ r W s (acc.map vU ++ xs) bad) (hs : SL.Sep ro σ) (hx : xs.length = d.length) (hsrc : Src Tryz.prog ro σ x (d.map vU))
    (hQ : ∀ n σ', Step [r + 64] ro tag σ tag σ' → BufAt tag σ' r W (acc ++ d) bad → Q n σ') :
    ∃ p25_6 : Addr, (some ⟨W, 0, none⟩ : Option Addr) = some p25_6 ∧ ∃ (x27_7 : Sl), acell ro σ p25_6 = some (Sl.v x27_7) ∧ cutOk (some (acc.length : Int)) none x27_7.len x27_7.cap ∧
      awp Tryz.prog ro (Builtin.copy_ #[24, t2] 3 #[Sl.v (⟨cutA x27_7.a (Int.toNat (acc.length : Int)) x27_7.cap 1, x27_7.len - Int.toNat (acc.length : Int), x27_7.cap - Int.toNat (acc.length : Int)⟩ : Sl), x]) (fun v σ => ∃ (x31_8 : Int), v = .int .i64 x31_8 ∧ Q x31_8 σ) σ := by
  obtain ⟨hcap, lr, h1, h2⟩ := h
  obtain ⟨p, hp, hg⟩ := h1.ptr hs (by simp)
  cases hp
  have hln := h2.len
  simp only [List.length_append, List.length_map] at hln
  refine ⟨_, rfl, s, hg 0 _ rfl, ⟨trivial, by omega, by simp only [cutHi]; omega⟩, ?_⟩
  rw [Int.toNat_natCast]
  refine awp_copyTail h2 hs u30 ty5' hsrc (by simp; omega) (vU_st d) fun σ1 st1 r1 => ?_
  refine ⟨_, rfl, hQ _ σ1 st1 ⟨s, hcap, lr, h1.keep st1 (by simp), ?_⟩⟩
  rw [List.take_left' (by simp)] at r1
  rw [List.map_append]; exact r1
set_option maxRecDepth 100000 in
theorem bufWrite_ok {r W : Nat} {acc d : Str} {s : Sl} {bad : Bool} {Q : Int → Value → AH → Prop} (h : BufAt tag σ r W acc bad) (hs : SL.Sep ro σ) (hl : acc.length + d.length ≤ 140737488355328) (hd : s.len = d.length)
    (hsrc : ∀ tag' σ', Step [r, r + 64] ro tag σ tag' σ' → SL.Read ro σ' s (d.map vU)) (hQ : ∀ n v tag' σ', Step [r, r + 64] ro tag σ tag' σ' → BufAt tag' σ' r W (acc ++ d) bad → Q n v σ') :
    c_bytes_Buffer_Write B ro (some ⟨W, 0, none⟩) s σ Q := by
  refine bytes_Buffer_Write_ok fun _ => ?_
  unfold f_bytes_Buffer_Write
  obtain ⟨s0, hcap, lr, h1, h2⟩ := h
  refine ⟨_, rfl, ?_⟩
  refine h1.st (i := 2) hs rfl (by simp) rfl fun σ1 st1 r1 => ?_
  have hb : BufV tag σ1 r W s0 (acc.map vU) bad := ⟨hcap, 0, r1, h2.keep st1 (by simp)⟩
  rw [hd]
  refine tryGrow_ok hb st1.sep (by simpa using hl) (fun hroom s2 xs σ2 st2 hx hb2 => ?_) fun hno => ?_
  · rw [if_neg (by simp)]
    unfold j4_bytes_Buffer_Write
    have st12 : Step [r, r + 64] ro tag σ tag σ2 := (st1.mono (by simp)).trans (st2.mono (by simp))
    rw [List.length_map]
    exact bufCopy (t2 := 24) (Q := fun n σ => Q n .nilIface σ) hb2 st2.sep hx (hsrc _ _ st12).src fun n σ3 st3 h3 => hQ n _ tag σ3 (st12.trans (st3.mono (by simp))) h3
  · rw [if_pos (by simp)]
    refine grow_ok hb st1.sep (by simpa using hl) hno (vU_one acc) fun s2 xs tag2 σ2 st2 hx hb2 => ?_
    unfold j4_bytes_Buffer_Write
    have st12 : Step [r, r + 64] ro tag σ tag2 σ2 := (st1.mono (by simp)).trans st2
    rw [List.length_map]
    exact bufCopy (t2 := 24) (Q := fun n σ => Q n .nilIface σ) hb2 st2.sep hx (hsrc _ _ st12).src fun n σ3 st3 h3 => hQ n _ tag2 σ3 (st12.trans (st3.mono (by simp))) h3
set_option maxRecDepth 100000 in
theorem bufWriteStr_ok {r W : Nat} {acc : Str} {b : ByteArray} {bad : Bool} {Q : Int → Value → AH → Prop} (h : BufAt tag σ r W acc bad) (hs : SL.Sep ro σ) (hl : acc.length + (L b).length ≤ 140737488355328)
    (hQ : ∀ n v tag' σ', Step [r, r + 64] ro tag σ tag' σ' → BufAt tag' σ' r W (acc ++ L b) bad → Q n v σ') :
    c_bytes_Buffer_WriteString B ro (some ⟨W, 0, none⟩) b σ Q := by
  refine bytes_Buffer_WriteString_ok fun _ => ?_
  unfold f_bytes_Buffer_WriteString
  obtain ⟨s0, hcap, lr, h1, h2⟩ := h
  refine ⟨_, rfl, ?_⟩
  refine h1.st (i := 2) hs rfl (by simp) rfl fun σ1 st1 r1 => ?_
  have hb : BufV tag σ1 r W s0 (acc.map vU) bad := ⟨hcap, 0, r1, h2.keep st1 (by simp)⟩
  rw [show (b.size : Int) = ((L b).length : Nat) from rfl]
  refine tryGrow_ok hb st1.sep (by simpa using hl) (fun hroom s2 xs σ2 st2 hx hb2 => ?_) fun hno => ?_
  · rw [if_neg (by simp)]
    unfold j4_bytes_Buffer_WriteString
    have st12 : Step [r, r + 64] ro tag σ tag σ2 := (st1.mono (by simp)).trans (st2.mono (by simp))
    rw [List.length_map]
    exact bufCopy (t2 := 9) (Q := fun n σ => Q n .nilIface σ) hb2 st2.sep hx (str_src b) fun n σ3 st3 h3 => hQ n _ tag σ3 (st12.trans (st3.mono (by simp))) h3
  · rw [if_pos (by simp)]
    refine grow_ok hb st1.sep (by simpa using hl) hno (vU_one acc) fun s2 xs tag2 σ2 st2 hx hb2 => ?_
    unfold j4_bytes_Buffer_WriteString
    have st12 : Step [r, r + 64] ro tag σ tag2 σ2 := (st1.mono (by simp)).trans st2
    rw [List.length_map]
    exact bufCopy (t2 := 9) (Q := fun n σ => Q n .nilIface σ) hb2 st2.sep hx (str_src b) fun n σ3 st3 h3 => hQ n _ tag2 σ3 (st12.trans (st3.mono (by simp))) h3
end Go.Proofs.YtomdigihapdhnaaGreatDoor.Wi

/- Functions as predicate transformers, and the proofs that the code does what they tell: printed by wip/tools/gen.py. -/
namespace Go.Proofs.YtomdigihapdhnaaGreatDoor.G
open Go Go.Proofs.YtomdigihapdhnaaGreatDoor.SL
set_option linter.unusedVariables false
set_option linter.unusedSimpArgs false

def f_wire_NewWriter (B : World) (ro : AH) (σ : AH) (Q : Option Addr → AH → Prop) : Prop :=
 nw ro σ (.cells #[Sl.v (⟨none, 0, 0⟩ : Sl), .int .i64 0, .int .i8 0, .bool false] 221) fun x2_1 σ =>
 Q (some ⟨x2_1, 0, none⟩) σ

set_option maxRecDepth 100000 in
set_option maxHeartbeats 4000000 in
theorem wire_NewWriter_ok {B : World} {ro : AH} {σ : AH} {Q : Option Addr → AH → Prop} (h : Sep ro σ → f_wire_NewWriter B ro σ Q) : c_wire_NewWriter B ro σ Q := by
  refine ACalls.of_sep fun hsep => ?_
  replace h := h hsep
  refine ACalls.of_body (args := []) Tryz.func43 rfl (by rw [Tryz.ntmps43]; simp) ?_
  rw [Tryz.ntmps43]
  unfold f_wire_NewWriter at h
  refine AW.seq ?_
  refine AW.reg ?_
  refine Lp (V_asg rfl rfl) rfl rfl ?_
  refine Lnil ?_
  refine thenN ?_
  refine AW.seq ?_
  refine AW.reg ?_
  refine Lp (V_bld (vs := []) (cs := #[Sl.v (⟨none, 0, 0⟩ : Sl), .int .i64 0, .int .i8 0, .bool false]) rfl Tryz.underlying221 ty221 pl221 rfl rfl) rfl rfl ?_
  refine Ls rfl rfl (X_new (A_box rfl rfl) fun x2_1 g1 g2 => ?_)
  replace h := h x2_1 g1 g2
  refine Lp (V_asg rfl rfl) rfl rfl ?_
  refine Lnil ?_
  refine thenN ?_
  refine AW.ret ?_
  exact bR1 Tryz.results43 rfl ⟨_, rfl, h⟩

def l1_wire_Writer_Nums (B : World) (ro : AH) (a0 : Option Addr) (a1 : Sl) (Q : AH → Prop) : (Int) → AH → ((Int) → AH → Prop) → Prop := fun x8_2 σ Y1 =>
 if x8_2 < (a1.len : Int) then
  ∃ p10_3 : Addr, a1.a = some p10_3 ∧ (0 : Int) ≤ x8_2 ∧ x8_2 < (a1.len : Int) ∧
  ∃ (x11_4 : Int), acell ro σ (p10_3.add (Int.toNat x8_2 * 1)) = some (.int .i64 x11_4) ∧
  ∃ p13_5 : Addr, a0 = some p13_5 ∧
  c_wire_buffer_num B ro (some p13_5) x11_4 σ fun σ =>
  Y1 (IntKind.i64.wrap (x8_2 + 1)) σ
 else
 Q σ

def f_wire_Writer_Nums (B : World) (ro : AH) (a0 : Option Addr) (a1 : Sl) (σ : AH) (Q : AH → Prop) : Prop :=
 lfpD (l1_wire_Writer_Nums B ro a0 a1 Q ) (0) σ

set_option maxRecDepth 100000 in
set_option maxHeartbeats 4000000 in
theorem wire_Writer_Nums_ok {B : World} {ro : AH} {a0 : Option Addr} {a1 : Sl} {σ : AH} {Q : AH → Prop} (h : Sep ro σ → f_wire_Writer_Nums B ro a0 a1 σ Q) : c_wire_Writer_Nums B ro a0 a1 σ Q := by
  refine ACalls.of_sep fun hsep => ?_
  replace h := h hsep
  refine ACalls.of_body (args := [.pointer a0, Sl.v a1]) Tryz.func44 rfl (by rw [Tryz.ntmps44]; simp) ?_
  rw [Tryz.ntmps44]
  unfold f_wire_Writer_Nums at h
  refine AW.seq ?_
  refine AW.reg ?_
  refine Lp (V_move rfl rfl) rfl rfl ?_
  refine Lp (V_lenL rfl rfl Tryz.underlying55 rfl rfl) rfl rfl ?_
  refine Lp (V_move rfl rfl) rfl rfl ?_
  refine Lnil ?_
  refine thenN ?_
  refine AW.block ?_
  refine ARound.loop (fr' := [(0, .pointer a0), (6, Sl.v a1), (7, .int .i64 (a1.len : Int)), (8, .int .i64 0)]) ?_ (FrLe.cons rfl (FrLe.cons rfl (FrLe.cons rfl (FrLe.cons rfl (FrLe.nil _)))))
  refine h (fun x8_2 σ => ARound _ _ _ _ _ _ [(0, .pointer a0), (6, Sl.v a1), (7, .int .i64 (a1.len : Int)), (8, .int .i64 x8_2)] σ) ?_
  rintro x8_2 σ Y1 hY1 h
  show AW _ _ _ _ _ _ _ _
  unfold l1_wire_Writer_Nums at h
  refine AW.seq ?_
  refine AW.reg ?_
  refine Lp (V_lss rfl rfl rfl) rfl rfl ?_
  refine Lnil ?_
  refine thenN ?_
  refine AW.seq ?_
  refine AW.iff rfl decide_eq_true_iff h (fun h => ?_) (fun h => ?_)
  rotate_left
  · refine AW.exit ?_
    refine thenE ?_
    refine thenE ?_
    refine blockE ?_
    exact bN0 Tryz.results44 ⟨rfl, h⟩
  refine AW.skip ?_
  refine thenN ?_
  refine AW.seq ?_
  refine AW.block ?_
  refine AW.seq ?_
  refine AW.reg ?_
  obtain ⟨p10_3, ha, h0, h1, h⟩ := h
  refine Lp (V_ixA rfl Tryz.underlying55 ty3 (ixL rfl ha) rfl h0 h1) rfl rfl ?_
  obtain ⟨x11_4, hc, h⟩ := h
  refine Ls rfl rfl (X_ld rfl Tryz.underlying3 rfl rfl hc ?_)
  refine Lp (V_asg rfl rfl) rfl rfl ?_
  refine Lnil ?_
  refine thenN ?_
  refine AW.reg ?_
  refine Lp (V_move rfl rfl) rfl rfl ?_
  obtain ⟨p13_5, hc, h⟩ := h
  refine Lp (V_nil rfl (by rw [← hc]; rfl)) rfl rfl ?_
  refine Lp (V_fld rfl Tryz.underlying221 rfl ty219 (by decide) rfl) rfl rfl ?_
  refine Lp (V_move rfl rfl) rfl rfl ?_
  refine Ls rfl rfl (X_call rfl Tryz.func114 rfl rfl rfl (ACalls.mono h ?_))
  rintro v σ ⟨rfl, h⟩
  refine Lnil ?_
  refine blockN ?_
  refine thenN ?_
  refine AW.reg ?_
  refine Lp (V_add rfl rfl rfl) rfl rfl ?_
  refine Lp (V_move rfl rfl) rfl rfl ?_
  refine Lnil ?_
  refine thenN ?_
  refine ARound.head (fr' := [(0, .pointer a0), (6, Sl.v a1), (7, .int .i64 (a1.len : Int)), (8, .int .i64 (IntKind.i64.wrap (x8_2 + 1)))]) ?_ (FrLe.cons rfl (FrLe.cons rfl (FrLe.cons rfl (FrLe.cons rfl (FrLe.nil _)))))
  exact hY1 _ _ h

def l1_wire_Writer_Texts (B : World) (ro : AH) (a0 : Option Addr) (a1 : Sl) (Q : AH → Prop) : (Int) → AH → ((Int) → AH → Prop) → Prop := fun x8_2 σ Y1 =>
 if x8_2 < (a1.len : Int) then
  ∃ p10_3 : Addr, a1.a = some p10_3 ∧ (0 : Int) ≤ x8_2 ∧ x8_2 < (a1.len : Int) ∧
  ∃ (x11_4 : ByteArray), acell ro σ (p10_3.add (Int.toNat x8_2 * 1)) = some (.string x11_4) ∧
  ∃ p13_5 : Addr, a0 = some p13_5 ∧
  c_wire_buffer_num B ro (some p13_5) (x11_4.size : Int) σ fun σ =>
  ∃ p19_6 : Addr, a0 = some p19_6 ∧
  c_bytes_Buffer_WriteString B ro (some p19_6) x11_4 σ fun x23_7 x23_8 σ =>
  Y1 (IntKind.i64.wrap (x8_2 + 1)) σ
 else
 Q σ

def f_wire_Writer_Texts (B : World) (ro : AH) (a0 : Option Addr) (a1 : Sl) (σ : AH) (Q : AH → Prop) : Prop :=
 lfpD (l1_wire_Writer_Texts B ro a0 a1 Q ) (0) σ

set_option maxRecDepth 100000 in
set_option maxHeartbeats 4000000 in
theorem wire_Writer_Texts_ok {B : World} {ro : AH} {a0 : Option Addr} {a1 : Sl} {σ : AH} {Q : AH → Prop} (h : Sep ro σ → f_wire_Writer_Texts B ro a0 a1 σ Q) : c_wire_Writer_Texts B ro a0 a1 σ Q := by
  refine ACalls.of_sep fun hsep => ?_
  replace h := h hsep
  refine ACalls.of_body (args := [.pointer a0, Sl.v a1]) Tryz.func45 rfl (by rw [Tryz.ntmps45]; simp) ?_
  rw [Tryz.ntmps45]
  unfold f_wire_Writer_Texts at h
  refine AW.seq ?_
  refine AW.reg ?_
  refine Lp (V_move rfl rfl) rfl rfl ?_
  refine Lp (V_lenL rfl rfl Tryz.underlying27 rfl rfl) rfl rfl ?_
  refine Lp (V_move rfl rfl) rfl rfl ?_
  refine Lnil ?_
  refine thenN ?_
  refine AW.block ?_
  refine ARound.loop (fr' := [(0, .pointer a0), (6, Sl.v a1), (7, .int .i64 (a1.len : Int)), (8, .int .i64 0)]) ?_ (FrLe.cons rfl (FrLe.cons rfl (FrLe.cons rfl (FrLe.cons rfl (FrLe.nil _)))))
  refine h (fun x8_2 σ => ARound _ _ _ _ _ _ [(0, .pointer a0), (6, Sl.v a1), (7, .int .i64 (a1.len : Int)), (8, .int .i64 x8_2)] σ) ?_
  rintro x8_2 σ Y1 hY1 h
  show AW _ _ _ _ _ _ _ _
  unfold l1_wire_Writer_Texts at h
  refine AW.seq ?_
  refine AW.reg ?_
  refine Lp (V_lss rfl rfl rfl) rfl rfl ?_
  refine Lnil ?_
  refine thenN ?_
  refine AW.seq ?_
  refine AW.iff rfl decide_eq_true_iff h (fun h => ?_) (fun h => ?_)
  rotate_left
  · refine AW.exit ?_
    refine thenE ?_
    refine thenE ?_
    refine blockE ?_
    exact bN0 Tryz.results45 ⟨rfl, h⟩
  refine AW.skip ?_
  refine thenN ?_
  refine AW.seq ?_
  refine AW.block ?_
  refine AW.seq ?_
  refine AW.reg ?_
  obtain ⟨p10_3, ha, h0, h1, h⟩ := h
  refine Lp (V_ixA rfl Tryz.underlying27 ty9 (ixL rfl ha) rfl h0 h1) rfl rfl ?_
  obtain ⟨x11_4, hc, h⟩ := h
  refine Ls rfl rfl (X_ld rfl Tryz.underlying9 rfl rfl hc ?_)
  refine Lp (V_asg rfl rfl) rfl rfl ?_
  refine Lnil ?_
  refine thenN ?_
  refine AW.seq ?_
  refine AW.reg ?_
  refine Lp (V_move rfl rfl) rfl rfl ?_
  obtain ⟨p13_5, hc, h⟩ := h
  refine Lp (V_nil rfl (by rw [← hc]; rfl)) rfl rfl ?_
  refine Lp (V_fld rfl Tryz.underlying221 rfl ty219 (by decide) rfl) rfl rfl ?_
  refine Lp (V_move rfl rfl) rfl rfl ?_
  refine Lp (V_lenS rfl rfl Tryz.underlying9 rfl rfl) rfl rfl ?_
  refine Ls rfl rfl (X_call rfl Tryz.func114 rfl rfl rfl (ACalls.mono h ?_))
  rintro v σ ⟨rfl, h⟩
  refine Lnil ?_
  refine thenN ?_
  refine AW.reg ?_
  refine Lp (V_move rfl rfl) rfl rfl ?_
  obtain ⟨p19_6, hc, h⟩ := h
  refine Lp (V_nil rfl (by rw [← hc]; rfl)) rfl rfl ?_
  refine Lp (V_fld rfl Tryz.underlying221 rfl ty219 (by decide) rfl) rfl rfl ?_
  refine Lp (V_fld rfl Tryz.underlying219 rfl ty217 (by decide) rfl) rfl rfl ?_
  refine Lp (V_move rfl rfl) rfl rfl ?_
  refine Ls rfl rfl (X_call rfl Tryz.func115 rfl rfl rfl (ACalls.mono h ?_))
  rintro v σ ⟨x23_7, x23_8, rfl, h⟩
  refine Lnil ?_
  refine blockN ?_
  refine thenN ?_
  refine AW.reg ?_
  refine Lp (V_add rfl rfl rfl) rfl rfl ?_
  refine Lp (V_move rfl rfl) rfl rfl ?_
  refine Lnil ?_
  refine thenN ?_
  refine ARound.head (fr' := [(0, .pointer a0), (6, Sl.v a1), (7, .int .i64 (a1.len : Int)), (8, .int .i64 (IntKind.i64.wrap (x8_2 + 1)))]) ?_ (FrLe.cons rfl (FrLe.cons rfl (FrLe.cons rfl (FrLe.cons rfl (FrLe.nil _)))))
  exact hY1 _ _ h

def l1_wire_Writer_Blobs (B : World) (ro : AH) (a0 : Option Addr) (a1 : Sl) (Q : AH → Prop) : (Int) → AH → ((Int) → AH → Prop) → Prop := fun x8_2 σ Y1 =>
 if x8_2 < (a1.len : Int) then
  ∃ p10_3 : Addr, a1.a = some p10_3 ∧ (0 : Int) ≤ x8_2 ∧ x8_2 < (a1.len : Int) ∧
  ∃ (x11_4 : Sl), acell ro σ (p10_3.add (Int.toNat x8_2 * 1)) = some (Sl.v x11_4) ∧
  ∃ p13_5 : Addr, a0 = some p13_5 ∧
  c_wire_buffer_num B ro (some p13_5) (x11_4.len : Int) σ fun σ =>
  ∃ p19_6 : Addr, a0 = some p19_6 ∧
  c_bytes_Buffer_Write B ro (some p19_6) x11_4 σ fun x23_7 x23_8 σ =>
  Y1 (IntKind.i64.wrap (x8_2 + 1)) σ
 else
 Q σ

def f_wire_Writer_Blobs (B : World) (ro : AH) (a0 : Option Addr) (a1 : Sl) (σ : AH) (Q : AH → Prop) : Prop :=
 lfpD (l1_wire_Writer_Blobs B ro a0 a1 Q ) (0) σ

set_option maxRecDepth 100000 in
set_option maxHeartbeats 4000000 in
theorem wire_Writer_Blobs_ok {B : World} {ro : AH} {a0 : Option Addr} {a1 : Sl} {σ : AH} {Q : AH → Prop} (h : Sep ro σ → f_wire_Writer_Blobs B ro a0 a1 σ Q) : c_wire_Writer_Blobs B ro a0 a1 σ Q := by
  refine ACalls.of_sep fun hsep => ?_
  replace h := h hsep
  refine ACalls.of_body (args := [.pointer a0, Sl.v a1]) Tryz.func46 rfl (by rw [Tryz.ntmps46]; simp) ?_
  rw [Tryz.ntmps46]
  unfold f_wire_Writer_Blobs at h
  refine AW.seq ?_
  refine AW.reg ?_
  refine Lp (V_move rfl rfl) rfl rfl ?_
  refine Lp (V_lenL rfl rfl Tryz.underlying227 rfl rfl) rfl rfl ?_
  refine Lp (V_move rfl rfl) rfl rfl ?_
  refine Lnil ?_
  refine thenN ?_
  refine AW.block ?_
  refine ARound.loop (fr' := [(0, .pointer a0), (6, Sl.v a1), (7, .int .i64 (a1.len : Int)), (8, .int .i64 0)]) ?_ (FrLe.cons rfl (FrLe.cons rfl (FrLe.cons rfl (FrLe.cons rfl (FrLe.nil _)))))
  refine h (fun x8_2 σ => ARound _ _ _ _ _ _ [(0, .pointer a0), (6, Sl.v a1), (7, .int .i64 (a1.len : Int)), (8, .int .i64 x8_2)] σ) ?_
  rintro x8_2 σ Y1 hY1 h
  show AW _ _ _ _ _ _ _ _
  unfold l1_wire_Writer_Blobs at h
  refine AW.seq ?_
  refine AW.reg ?_
  refine Lp (V_lss rfl rfl rfl) rfl rfl ?_
  refine Lnil ?_
  refine thenN ?_
  refine AW.seq ?_
  refine AW.iff rfl decide_eq_true_iff h (fun h => ?_) (fun h => ?_)
  rotate_left
  · refine AW.exit ?_
    refine thenE ?_
    refine thenE ?_
    refine blockE ?_
    exact bN0 Tryz.results46 ⟨rfl, h⟩
  refine AW.skip ?_
  refine thenN ?_
  refine AW.seq ?_
  refine AW.block ?_
  refine AW.seq ?_
  refine AW.reg ?_
  obtain ⟨p10_3, ha, h0, h1, h⟩ := h
  refine Lp (V_ixA rfl Tryz.underlying227 ty24 (ixL rfl ha) rfl h0 h1) rfl rfl ?_
  obtain ⟨x11_4, hc, h⟩ := h
  refine Ls rfl rfl (X_ld rfl Tryz.underlying24 rfl rfl hc ?_)
  refine Lp (V_asg rfl rfl) rfl rfl ?_
  refine Lnil ?_
  refine thenN ?_
  refine AW.seq ?_
  refine AW.reg ?_
  refine Lp (V_move rfl rfl) rfl rfl ?_
  obtain ⟨p13_5, hc, h⟩ := h
  refine Lp (V_nil rfl (by rw [← hc]; rfl)) rfl rfl ?_
  refine Lp (V_fld rfl Tryz.underlying221 rfl ty219 (by decide) rfl) rfl rfl ?_
  refine Lp (V_move rfl rfl) rfl rfl ?_
  refine Lp (V_lenL rfl rfl Tryz.underlying24 rfl rfl) rfl rfl ?_
  refine Ls rfl rfl (X_call rfl Tryz.func114 rfl rfl rfl (ACalls.mono h ?_))
  rintro v σ ⟨rfl, h⟩
  refine Lnil ?_
  refine thenN ?_
  refine AW.reg ?_
  refine Lp (V_move rfl rfl) rfl rfl ?_
  obtain ⟨p19_6, hc, h⟩ := h
  refine Lp (V_nil rfl (by rw [← hc]; rfl)) rfl rfl ?_
  refine Lp (V_fld rfl Tryz.underlying221 rfl ty219 (by decide) rfl) rfl rfl ?_
  refine Lp (V_fld rfl Tryz.underlying219 rfl ty217 (by decide) rfl) rfl rfl ?_
  refine Lp (V_move rfl rfl) rfl rfl ?_
  refine Ls rfl rfl (X_call rfl Tryz.func116 rfl rfl rfl (ACalls.mono h ?_))
  rintro v σ ⟨x23_7, x23_8, rfl, h⟩
  refine Lnil ?_
  refine blockN ?_
  refine thenN ?_
  refine AW.reg ?_
  refine Lp (V_add rfl rfl rfl) rfl rfl ?_
  refine Lp (V_move rfl rfl) rfl rfl ?_
  refine Lnil ?_
  refine thenN ?_
  refine ARound.head (fr' := [(0, .pointer a0), (6, Sl.v a1), (7, .int .i64 (a1.len : Int)), (8, .int .i64 (IntKind.i64.wrap (x8_2 + 1)))]) ?_ (FrLe.cons rfl (FrLe.cons rfl (FrLe.cons rfl (FrLe.cons rfl (FrLe.nil _)))))
  exact hY1 _ _ h

def f_wire_Writer_Out (B : World) (ro : AH) (a0 : Option Addr) (σ : AH) (Q : Sl → Int → AH → Prop) : Prop :=
 ∃ p5_1 : Addr, a0 = some p5_1 ∧
 ∃ (x8_2 : Bool), acell ro σ (p5_1.add 3) = some (.bool x8_2) ∧
 if x8_2 = true then
  Q (⟨none, 0, 0⟩ : Sl) 10 σ
 else
 ∃ p10_3 : Addr, a0 = some p10_3 ∧
 c_bytes_Buffer_Bytes B ro (some p10_3) σ fun x13_4 σ =>
 c_bytes_Clone B ro x13_4 σ fun x14_5 σ =>
 Q x14_5 0 σ

set_option maxRecDepth 100000 in
set_option maxHeartbeats 4000000 in
theorem wire_Writer_Out_ok {B : World} {ro : AH} {a0 : Option Addr} {σ : AH} {Q : Sl → Int → AH → Prop} (h : Sep ro σ → f_wire_Writer_Out B ro a0 σ Q) : c_wire_Writer_Out B ro a0 σ Q := by
  refine ACalls.of_sep fun hsep => ?_
  replace h := h hsep
  refine ACalls.of_body (args := [.pointer a0]) Tryz.func47 rfl (by rw [Tryz.ntmps47]; simp) ?_
  rw [Tryz.ntmps47]
  unfold f_wire_Writer_Out at h
  refine AW.seq ?_
  refine AW.reg ?_
  refine Lp (V_asg rfl rfl) rfl rfl ?_
  refine Lp (V_asg rfl rfl) rfl rfl ?_
  refine Lnil ?_
  refine thenN ?_
  refine AW.seq ?_
  refine AW.seq ?_
  refine AW.reg ?_
  refine Lp (V_move rfl rfl) rfl rfl ?_
  obtain ⟨p5_1, hc, h⟩ := h
  refine Lp (V_nil rfl (by rw [← hc]; rfl)) rfl rfl ?_
  refine Lp (V_fld rfl Tryz.underlying221 rfl ty219 (by decide) rfl) rfl rfl ?_
  refine Lp (V_fld rfl Tryz.underlying219 rfl ty4 (by decide) rfl) rfl rfl ?_
  obtain ⟨x8_2, hc, h⟩ := h
  refine Ls rfl rfl (X_ld rfl Tryz.underlying4 rfl rfl hc ?_)
  refine Lnil ?_
  refine thenN ?_
  refine AW.iff rfl Iff.rfl h (fun h => ?_) (fun h => ?_)
  · refine AW.seq ?_
    refine AW.reg ?_
    refine Lp (V_asg rfl rfl) rfl rfl ?_
    refine Lp (V_asg rfl rfl) rfl rfl ?_
    refine Lnil ?_
    refine thenN ?_
    refine AW.ret ?_
    refine thenR ?_
    exact bR2 Tryz.results47 rfl rfl ⟨_, _, rfl, h⟩
  refine AW.skip ?_
  refine thenN ?_
  refine AW.seq ?_
  refine AW.reg ?_
  refine Lp (V_move rfl rfl) rfl rfl ?_
  obtain ⟨p10_3, hc, h⟩ := h
  refine Lp (V_nil rfl (by rw [← hc]; rfl)) rfl rfl ?_
  refine Lp (V_fld rfl Tryz.underlying221 rfl ty219 (by decide) rfl) rfl rfl ?_
  refine Lp (V_fld rfl Tryz.underlying219 rfl ty217 (by decide) rfl) rfl rfl ?_
  refine Ls rfl rfl (X_call rfl Tryz.func117 rfl rfl rfl (ACalls.mono h ?_))
  rintro v σ ⟨x13_4, rfl, h⟩
  refine Ls rfl rfl (X_call rfl Tryz.func80 rfl rfl rfl (ACalls.mono h ?_))
  rintro v σ ⟨x14_5, rfl, h⟩
  refine Lp (V_asg rfl rfl) rfl rfl ?_
  refine Lp (V_asg rfl rfl) rfl rfl ?_
  refine Lnil ?_
  refine thenN ?_
  refine AW.ret ?_
  exact bR2 Tryz.results47 rfl rfl ⟨_, _, rfl, h⟩

def f_wire_NewReader (B : World) (ro : AH) (a0 : Sl) (σ : AH) (Q : Option Addr → AH → Prop) : Prop :=
 c_bytes_Clone B ro a0 σ fun x4_1 σ =>
 nw ro σ (.cells #[Sl.v x4_1, .int .i64 0] 231) fun x6_2 σ =>
 Q (some ⟨x6_2, 0, none⟩) σ

set_option maxRecDepth 100000 in
set_option maxHeartbeats 4000000 in
theorem wire_NewReader_ok {B : World} {ro : AH} {a0 : Sl} {σ : AH} {Q : Option Addr → AH → Prop} (h : Sep ro σ → f_wire_NewReader B ro a0 σ Q) : c_wire_NewReader B ro a0 σ Q := by
  refine ACalls.of_sep fun hsep => ?_
  replace h := h hsep
  refine ACalls.of_body (args := [Sl.v a0]) Tryz.func53 rfl (by rw [Tryz.ntmps53]; simp) ?_
  rw [Tryz.ntmps53]
  unfold f_wire_NewReader at h
  refine AW.seq ?_
  refine AW.reg ?_
  refine Lp (V_asg rfl rfl) rfl rfl ?_
  refine Lnil ?_
  refine thenN ?_
  refine AW.seq ?_
  refine AW.reg ?_
  refine Lp (V_move rfl rfl) rfl rfl ?_
  refine Ls rfl rfl (X_call rfl Tryz.func80 rfl rfl rfl (ACalls.mono h ?_))
  rintro v σ ⟨x4_1, rfl, h⟩
  refine Lp (V_bld (vs := [(0, Sl.v x4_1)]) (cs := #[Sl.v x4_1, .int .i64 0]) rfl Tryz.underlying231 ty231 pl231 rfl rfl) rfl rfl ?_
  refine Ls rfl rfl (X_new (A_box rfl rfl) fun x6_2 g1 g2 => ?_)
  replace h := h x6_2 g1 g2
  refine Lp (V_asg rfl rfl) rfl rfl ?_
  refine Lnil ?_
  refine thenN ?_
  refine AW.ret ?_
  exact bR1 Tryz.results53 rfl ⟨_, rfl, h⟩

def f_wire_Reader_Num (B : World) (ro : AH) (a0 : Option Addr) (σ : AH) (Q : Int → AH → Prop) : Prop :=
 ∃ p7_1 : Addr, a0 = some p7_1 ∧
 ∃ (x9_2 : Int), acell ro σ (p7_1.add 1) = some (.int .i64 x9_2) ∧
 if ¬ (x9_2 = 0) then
  Q 0 σ
 else
 ∃ p13_3 : Addr, a0 = some p13_3 ∧
 ∃ (x15_4 : Sl), acell ro σ p13_3 = some (Sl.v x15_4) ∧
 c_wire_Number B ro x15_4 0 σ fun x16_5 x16_6 x16_7 σ =>
 ∃ p22_8 : Addr, a0 = some p22_8 ∧
 stN (p22_8.add 1) (fun σ =>
  ∃ p26_9 : Addr, a0 = some p26_9 ∧
  ∃ (x28_10 : Sl), acell ro σ p26_9 = some (Sl.v x28_10) ∧
  cutOk (some x16_6) none x28_10.len x28_10.cap ∧
  ∃ p31_11 : Addr, a0 = some p31_11 ∧
  stN p31_11 (fun σ =>
   Q x16_5 σ) [Sl.v (⟨cutA x28_10.a (Int.toNat x16_6) x28_10.cap 1, x28_10.len - Int.toNat x16_6, x28_10.cap - Int.toNat x16_6⟩ : Sl)] 0 σ) [.int .i64 x16_7] 0 σ

set_option maxRecDepth 100000 in
set_option maxHeartbeats 4000000 in
theorem wire_Reader_Num_ok {B : World} {ro : AH} {a0 : Option Addr} {σ : AH} {Q : Int → AH → Prop} (h : Sep ro σ → f_wire_Reader_Num B ro a0 σ Q) : c_wire_Reader_Num B ro a0 σ Q := by
  refine ACalls.of_sep fun hsep => ?_
  replace h := h hsep
  refine ACalls.of_body (args := [.pointer a0]) Tryz.func54 rfl (by rw [Tryz.ntmps54]; simp) ?_
  rw [Tryz.ntmps54]
  unfold f_wire_Reader_Num at h
  refine AW.seq ?_
  refine AW.reg ?_
  refine Lp (V_asg rfl rfl) rfl rfl ?_
  refine Lnil ?_
  refine thenN ?_
  refine AW.seq ?_
  refine AW.seq ?_
  refine AW.reg ?_
  refine Lp (V_move rfl rfl) rfl rfl ?_
  obtain ⟨p7_1, hc, h⟩ := h
  refine Lp (V_nil rfl (by rw [← hc]; rfl)) rfl rfl ?_
  refine Lp (V_fld rfl Tryz.underlying231 rfl ty22 (by decide) rfl) rfl rfl ?_
  obtain ⟨x9_2, hc, h⟩ := h
  refine Ls rfl rfl (X_ld rfl Tryz.underlying22 rfl rfl hc ?_)
  refine Lp (V_neq rfl rfl rfl) rfl rfl ?_
  refine Lnil ?_
  refine thenN ?_
  refine AW.iff rfl (bnot_iff decide_eq_true_iff) h (fun h => ?_) (fun h => ?_)
  · refine AW.seq ?_
    refine AW.reg ?_
    refine Lp (V_asg rfl rfl) rfl rfl ?_
    refine Lnil ?_
    refine thenN ?_
    refine AW.ret ?_
    refine thenR ?_
    exact bR1 Tryz.results54 rfl ⟨_, rfl, h⟩
  refine AW.skip ?_
  refine thenN ?_
  refine AW.seq ?_
  refine AW.reg ?_
  refine Lp (V_move rfl rfl) rfl rfl ?_
  obtain ⟨p13_3, hc, h⟩ := h
  refine Lp (V_nil rfl (by rw [← hc]; rfl)) rfl rfl ?_
  refine Lp (V_fld rfl Tryz.underlying231 rfl ty24 (by decide) rfl) rfl rfl ?_
  obtain ⟨x15_4, hc, h⟩ := h
  refine Ls rfl rfl (X_ld rfl Tryz.underlying24 rfl rfl hc ?_)
  refine Ls rfl rfl (X_call rfl Tryz.func119 rfl rfl rfl (ACalls.mono h ?_))
  rintro v σ ⟨x16_5, x16_6, x16_7, rfl, h⟩
  refine Lp (V_move rfl rfl) rfl rfl ?_
  refine Lp (V_ext rfl rfl rfl) rfl rfl ?_
  refine Lp (V_ext rfl rfl rfl) rfl rfl ?_
  refine Lp (V_ext rfl rfl rfl) rfl rfl ?_
  refine Lp (V_asg rfl rfl) rfl rfl ?_
  refine Lp (V_asg rfl rfl) rfl rfl ?_
  refine Lp (V_asg rfl rfl) rfl rfl ?_
  refine Lnil ?_
  refine thenN ?_
  refine AW.seq ?_
  refine AW.reg ?_
  refine Lp (V_move rfl rfl) rfl rfl ?_
  refine Lp (V_move rfl rfl) rfl rfl ?_
  obtain ⟨p22_8, hc, h⟩ := h
  refine Lp (V_nil rfl (by rw [← hc]; rfl)) rfl rfl ?_
  refine Lp (V_fld rfl Tryz.underlying231 rfl ty22 (by decide) rfl) rfl rfl ?_
  refine Ls rfl rfl (X_st rfl ty22 rfl rfl rfl rfl (stN_mono h fun σ h => ?_))
  refine Lnil ?_
  refine thenN ?_
  refine AW.seq ?_
  refine AW.reg ?_
  refine Lp (V_move rfl rfl) rfl rfl ?_
  refine Lp (V_move rfl rfl) rfl rfl ?_
  obtain ⟨p26_9, hc, h⟩ := h
  refine Lp (V_nil rfl (by rw [← hc]; rfl)) rfl rfl ?_
  refine Lp (V_fld rfl Tryz.underlying231 rfl ty24 (by decide) rfl) rfl rfl ?_
  obtain ⟨x28_10, hc, h⟩ := h
  refine Ls rfl rfl (X_ld rfl Tryz.underlying24 rfl rfl hc ?_)
  refine Lp (V_move rfl rfl) rfl rfl ?_
  obtain ⟨hc, h⟩ := h
  refine Lp (V_slL (lo := (some x16_6)) (hi := none) rfl Tryz.underlying24 ty5 rfl (optI_some rfl) optI_none hc) rfl rfl ?_
  obtain ⟨p31_11, hc, h⟩ := h
  refine Lp (V_nil rfl (by rw [← hc]; rfl)) rfl rfl ?_
  refine Lp (V_fld rfl Tryz.underlying231 rfl ty24 (by decide) rfl) rfl rfl ?_
  refine Ls rfl rfl (X_st rfl ty24 rfl rfl rfl rfl (stN_mono h fun σ h => ?_))
  refine Lnil ?_
  refine thenN ?_
  refine AW.seq ?_
  refine AW.reg ?_
  refine Lp (V_move rfl rfl) rfl rfl ?_
  refine Lp (V_asg rfl rfl) rfl rfl ?_
  refine Lnil ?_
  refine thenN ?_
  refine AW.ret ?_
  exact bR1 Tryz.results54 rfl ⟨_, rfl, h⟩

def f_wire_Reader_Text (B : World) (ro : AH) (a0 : Option Addr) (σ : AH) (Q : ByteArray → AH → Prop) : Prop :=
 c_wire_Reader_Blob B ro a0 σ fun x4_1 σ =>
 awp Tryz.prog ro (convert 24 9 (Sl.v x4_1)) (fun v σ =>
  (∃ (x5_2 : ByteArray), v = .string x5_2 ∧
   Q x5_2 σ)) σ

set_option maxRecDepth 100000 in
set_option maxHeartbeats 4000000 in
theorem wire_Reader_Text_ok {B : World} {ro : AH} {a0 : Option Addr} {σ : AH} {Q : ByteArray → AH → Prop} (h : Sep ro σ → f_wire_Reader_Text B ro a0 σ Q) : c_wire_Reader_Text B ro a0 σ Q := by
  refine ACalls.of_sep fun hsep => ?_
  replace h := h hsep
  refine ACalls.of_body (args := [.pointer a0]) Tryz.func55 rfl (by rw [Tryz.ntmps55]; simp) ?_
  rw [Tryz.ntmps55]
  unfold f_wire_Reader_Text at h
  refine AW.seq ?_
  refine AW.reg ?_
  refine Lp (V_asg rfl rfl) rfl rfl ?_
  refine Lnil ?_
  refine thenN ?_
  refine AW.seq ?_
  refine AW.reg ?_
  refine Lp (V_move rfl rfl) rfl rfl ?_
  refine Ls rfl rfl (X_call rfl Tryz.func56 rfl rfl rfl (ACalls.mono h ?_))
  rintro v σ ⟨x4_1, rfl, h⟩
  refine Ls rfl rfl (X_cvt rfl rfl (awp_mono _ h ?_))
  rintro v σ ⟨x5_2, rfl, h⟩
  refine Lp (V_asg rfl rfl) rfl rfl ?_
  refine Lnil ?_
  refine thenN ?_
  refine AW.ret ?_
  exact bR1 Tryz.results55 rfl ⟨_, rfl, h⟩

def f_wire_Reader_Blob (B : World) (ro : AH) (a0 : Option Addr) (σ : AH) (Q : Sl → AH → Prop) : Prop :=
 ∃ p7_1 : Addr, a0 = some p7_1 ∧
 ∃ (x9_2 : Sl), acell ro σ p7_1 = some (Sl.v x9_2) ∧
 c_wire_Reader_Num B ro a0 σ fun x11_3 σ =>
 ∃ p13_4 : Addr, a0 = some p13_4 ∧
 ∃ (x15_5 : Int), acell ro σ (p13_4.add 1) = some (.int .i64 x15_5) ∧
 if ¬ (x15_5 = 0) then
  Q (⟨none, 0, 0⟩ : Sl) σ
 else
 ∃ p19_6 : Addr, a0 = some p19_6 ∧
 ∃ (x21_7 : Sl), acell ro σ p19_6 = some (Sl.v x21_7) ∧
 if (x21_7.len : Int) < x11_3 then
  ∃ p27_8 : Addr, a0 = some p27_8 ∧
  stN (p27_8.add 1) (fun σ =>
   ∃ p29_9 : Addr, a0 = some p29_9 ∧
   stN p29_9 (fun σ =>
    Q (⟨none, 0, 0⟩ : Sl) σ) [Sl.v x9_2] 0 σ) [.int .i64 12] 0 σ
 else
 ∃ p32_10 : Addr, a0 = some p32_10 ∧
 ∃ (x34_11 : Sl), acell ro σ p32_10 = some (Sl.v x34_11) ∧
 cutOk none (some x11_3) x34_11.len x34_11.cap ∧
 c_bytes_Clone B ro (⟨cutA x34_11.a (0) x34_11.cap 1, Int.toNat x11_3 - 0, x34_11.cap - 0⟩ : Sl) σ fun x37_12 σ =>
 ∃ p40_13 : Addr, a0 = some p40_13 ∧
 ∃ (x42_14 : Sl), acell ro σ p40_13 = some (Sl.v x42_14) ∧
 cutOk (some x11_3) none x42_14.len x42_14.cap ∧
 ∃ p45_15 : Addr, a0 = some p45_15 ∧
 stN p45_15 (fun σ =>
  Q x37_12 σ) [Sl.v (⟨cutA x42_14.a (Int.toNat x11_3) x42_14.cap 1, x42_14.len - Int.toNat x11_3, x42_14.cap - Int.toNat x11_3⟩ : Sl)] 0 σ

set_option maxRecDepth 100000 in
set_option maxHeartbeats 4000000 in
theorem wire_Reader_Blob_ok {B : World} {ro : AH} {a0 : Option Addr} {σ : AH} {Q : Sl → AH → Prop} (h : Sep ro σ → f_wire_Reader_Blob B ro a0 σ Q) : c_wire_Reader_Blob B ro a0 σ Q := by
  refine ACalls.of_sep fun hsep => ?_
  replace h := h hsep
  refine ACalls.of_body (args := [.pointer a0]) Tryz.func56 rfl (by rw [Tryz.ntmps56]; simp) ?_
  rw [Tryz.ntmps56]
  unfold f_wire_Reader_Blob at h
  refine AW.seq ?_
  refine AW.reg ?_
  refine Lp (V_asg rfl rfl) rfl rfl ?_
  refine Lnil ?_
  refine thenN ?_
  refine AW.seq ?_
  refine AW.reg ?_
  refine Lp (V_move rfl rfl) rfl rfl ?_
  obtain ⟨p7_1, hc, h⟩ := h
  refine Lp (V_nil rfl (by rw [← hc]; rfl)) rfl rfl ?_
  refine Lp (V_fld rfl Tryz.underlying231 rfl ty24 (by decide) rfl) rfl rfl ?_
  obtain ⟨x9_2, hc, h⟩ := h
  refine Ls rfl rfl (X_ld rfl Tryz.underlying24 rfl rfl hc ?_)
  refine Lp (V_asg rfl rfl) rfl rfl ?_
  refine Lnil ?_
  refine thenN ?_
  refine AW.seq ?_
  refine AW.reg ?_
  refine Lp (V_move rfl rfl) rfl rfl ?_
  refine Ls rfl rfl (X_call rfl Tryz.func54 rfl rfl rfl (ACalls.mono h ?_))
  rintro v σ ⟨x11_3, rfl, h⟩
  refine Lp (V_asg rfl rfl) rfl rfl ?_
  refine Lnil ?_
  refine thenN ?_
  refine AW.seq ?_
  refine AW.seq ?_
  refine AW.reg ?_
  refine Lp (V_move rfl rfl) rfl rfl ?_
  obtain ⟨p13_4, hc, h⟩ := h
  refine Lp (V_nil rfl (by rw [← hc]; rfl)) rfl rfl ?_
  refine Lp (V_fld rfl Tryz.underlying231 rfl ty22 (by decide) rfl) rfl rfl ?_
  obtain ⟨x15_5, hc, h⟩ := h
  refine Ls rfl rfl (X_ld rfl Tryz.underlying22 rfl rfl hc ?_)
  refine Lp (V_neq rfl rfl rfl) rfl rfl ?_
  refine Lnil ?_
  refine thenN ?_
  refine AW.iff rfl (bnot_iff decide_eq_true_iff) h (fun h => ?_) (fun h => ?_)
  · refine AW.seq ?_
    refine AW.reg ?_
    refine Lp (V_asg rfl rfl) rfl rfl ?_
    refine Lnil ?_
    refine thenN ?_
    refine AW.ret ?_
    refine thenR ?_
    exact bR1 Tryz.results56 rfl ⟨_, rfl, h⟩
  refine AW.skip ?_
  refine thenN ?_
  refine AW.seq ?_
  refine AW.seq ?_
  refine AW.reg ?_
  refine Lp (V_move rfl rfl) rfl rfl ?_
  refine Lp (V_move rfl rfl) rfl rfl ?_
  obtain ⟨p19_6, hc, h⟩ := h
  refine Lp (V_nil rfl (by rw [← hc]; rfl)) rfl rfl ?_
  refine Lp (V_fld rfl Tryz.underlying231 rfl ty24 (by decide) rfl) rfl rfl ?_
  obtain ⟨x21_7, hc, h⟩ := h
  refine Ls rfl rfl (X_ld rfl Tryz.underlying24 rfl rfl hc ?_)
  refine Lp (V_lenL rfl rfl Tryz.underlying24 rfl rfl) rfl rfl ?_
  refine Lp (V_gtr rfl rfl rfl) rfl rfl ?_
  refine Lnil ?_
  refine thenN ?_
  refine AW.iff rfl decide_eq_true_iff h (fun h => ?_) (fun h => ?_)
  · refine AW.seq ?_
    refine AW.reg ?_
    refine Lp (V_move rfl rfl) rfl rfl ?_
    refine Lp (V_move rfl rfl) rfl rfl ?_
    refine Lp (V_move rfl rfl) rfl rfl ?_
    obtain ⟨p27_8, hc, h⟩ := h
    refine Lp (V_nil rfl (by rw [← hc]; rfl)) rfl rfl ?_
    refine Lp (V_fld rfl Tryz.underlying231 rfl ty22 (by decide) rfl) rfl rfl ?_
    refine Ls rfl rfl (X_st rfl ty22 rfl rfl rfl rfl (stN_mono h fun σ h => ?_))
    obtain ⟨p29_9, hc, h⟩ := h
    refine Lp (V_nil rfl (by rw [← hc]; rfl)) rfl rfl ?_
    refine Lp (V_fld rfl Tryz.underlying231 rfl ty24 (by decide) rfl) rfl rfl ?_
    refine Ls rfl rfl (X_st rfl ty24 rfl rfl rfl rfl (stN_mono h fun σ h => ?_))
    refine Lnil ?_
    refine thenN ?_
    refine AW.seq ?_
    refine AW.reg ?_
    refine Lp (V_asg rfl rfl) rfl rfl ?_
    refine Lnil ?_
    refine thenN ?_
    refine AW.ret ?_
    refine thenR ?_
    exact bR1 Tryz.results56 rfl ⟨_, rfl, h⟩
  refine AW.skip ?_
  refine thenN ?_
  refine AW.seq ?_
  refine AW.reg ?_
  refine Lp (V_move rfl rfl) rfl rfl ?_
  obtain ⟨p32_10, hc, h⟩ := h
  refine Lp (V_nil rfl (by rw [← hc]; rfl)) rfl rfl ?_
  refine Lp (V_fld rfl Tryz.underlying231 rfl ty24 (by decide) rfl) rfl rfl ?_
  obtain ⟨x34_11, hc, h⟩ := h
  refine Ls rfl rfl (X_ld rfl Tryz.underlying24 rfl rfl hc ?_)
  refine Lp (V_move rfl rfl) rfl rfl ?_
  obtain ⟨hc, h⟩ := h
  refine Lp (V_slL (lo := none) (hi := (some x11_3)) rfl Tryz.underlying24 ty5 rfl optI_none (optI_some rfl) hc) rfl rfl ?_
  refine Ls rfl rfl (X_call rfl Tryz.func80 rfl rfl rfl (ACalls.mono h ?_))
  rintro v σ ⟨x37_12, rfl, h⟩
  refine Lp (V_asg rfl rfl) rfl rfl ?_
  refine Lnil ?_
  refine thenN ?_
  refine AW.seq ?_
  refine AW.reg ?_
  refine Lp (V_move rfl rfl) rfl rfl ?_
  refine Lp (V_move rfl rfl) rfl rfl ?_
  obtain ⟨p40_13, hc, h⟩ := h
  refine Lp (V_nil rfl (by rw [← hc]; rfl)) rfl rfl ?_
  refine Lp (V_fld rfl Tryz.underlying231 rfl ty24 (by decide) rfl) rfl rfl ?_
  obtain ⟨x42_14, hc, h⟩ := h
  refine Ls rfl rfl (X_ld rfl Tryz.underlying24 rfl rfl hc ?_)
  refine Lp (V_move rfl rfl) rfl rfl ?_
  obtain ⟨hc, h⟩ := h
  refine Lp (V_slL (lo := (some x11_3)) (hi := none) rfl Tryz.underlying24 ty5 rfl (optI_some rfl) optI_none hc) rfl rfl ?_
  obtain ⟨p45_15, hc, h⟩ := h
  refine Lp (V_nil rfl (by rw [← hc]; rfl)) rfl rfl ?_
  refine Lp (V_fld rfl Tryz.underlying231 rfl ty24 (by decide) rfl) rfl rfl ?_
  refine Ls rfl rfl (X_st rfl ty24 rfl rfl rfl rfl (stN_mono h fun σ h => ?_))
  refine Lnil ?_
  refine thenN ?_
  refine AW.seq ?_
  refine AW.reg ?_
  refine Lp (V_move rfl rfl) rfl rfl ?_
  refine Lp (V_asg rfl rfl) rfl rfl ?_
  refine Lnil ?_
  refine thenN ?_
  refine AW.ret ?_
  exact bR1 Tryz.results56 rfl ⟨_, rfl, h⟩

def f_wire_Reader_Err (B : World) (ro : AH) (a0 : Option Addr) (σ : AH) (Q : Int → AH → Prop) : Prop :=
 ∃ p4_1 : Addr, a0 = some p4_1 ∧
 ∃ (x6_2 : Int), acell ro σ (p4_1.add 1) = some (.int .i64 x6_2) ∧
 Q x6_2 σ

set_option maxRecDepth 100000 in
set_option maxHeartbeats 4000000 in
theorem wire_Reader_Err_ok {B : World} {ro : AH} {a0 : Option Addr} {σ : AH} {Q : Int → AH → Prop} (h : Sep ro σ → f_wire_Reader_Err B ro a0 σ Q) : c_wire_Reader_Err B ro a0 σ Q := by
  refine ACalls.of_sep fun hsep => ?_
  replace h := h hsep
  refine ACalls.of_body (args := [.pointer a0]) Tryz.func57 rfl (by rw [Tryz.ntmps57]; simp) ?_
  rw [Tryz.ntmps57]
  unfold f_wire_Reader_Err at h
  refine AW.seq ?_
  refine AW.reg ?_
  refine Lp (V_asg rfl rfl) rfl rfl ?_
  refine Lnil ?_
  refine thenN ?_
  refine AW.seq ?_
  refine AW.reg ?_
  refine Lp (V_move rfl rfl) rfl rfl ?_
  obtain ⟨p4_1, hc, h⟩ := h
  refine Lp (V_nil rfl (by rw [← hc]; rfl)) rfl rfl ?_
  refine Lp (V_fld rfl Tryz.underlying231 rfl ty22 (by decide) rfl) rfl rfl ?_
  obtain ⟨x6_2, hc, h⟩ := h
  refine Ls rfl rfl (X_ld rfl Tryz.underlying22 rfl rfl hc ?_)
  refine Lp (V_asg rfl rfl) rfl rfl ?_
  refine Lnil ?_
  refine thenN ?_
  refine AW.ret ?_
  exact bR1 Tryz.results57 rfl ⟨_, rfl, h⟩

def f_wire_Reader_Left (B : World) (ro : AH) (a0 : Option Addr) (σ : AH) (Q : Int → AH → Prop) : Prop :=
 ∃ p4_1 : Addr, a0 = some p4_1 ∧
 ∃ (x6_2 : Sl), acell ro σ p4_1 = some (Sl.v x6_2) ∧
 Q (x6_2.len : Int) σ

set_option maxRecDepth 100000 in
set_option maxHeartbeats 4000000 in
theorem wire_Reader_Left_ok {B : World} {ro : AH} {a0 : Option Addr} {σ : AH} {Q : Int → AH → Prop} (h : Sep ro σ → f_wire_Reader_Left B ro a0 σ Q) : c_wire_Reader_Left B ro a0 σ Q := by
  refine ACalls.of_sep fun hsep => ?_
  replace h := h hsep
  refine ACalls.of_body (args := [.pointer a0]) Tryz.func58 rfl (by rw [Tryz.ntmps58]; simp) ?_
  rw [Tryz.ntmps58]
  unfold f_wire_Reader_Left at h
  refine AW.seq ?_
  refine AW.reg ?_
  refine Lp (V_asg rfl rfl) rfl rfl ?_
  refine Lnil ?_
  refine thenN ?_
  refine AW.seq ?_
  refine AW.reg ?_
  refine Lp (V_move rfl rfl) rfl rfl ?_
  obtain ⟨p4_1, hc, h⟩ := h
  refine Lp (V_nil rfl (by rw [← hc]; rfl)) rfl rfl ?_
  refine Lp (V_fld rfl Tryz.underlying231 rfl ty24 (by decide) rfl) rfl rfl ?_
  obtain ⟨x6_2, hc, h⟩ := h
  refine Ls rfl rfl (X_ld rfl Tryz.underlying24 rfl rfl hc ?_)
  refine Lp (V_lenL rfl rfl Tryz.underlying24 rfl rfl) rfl rfl ?_
  refine Lp (V_asg rfl rfl) rfl rfl ?_
  refine Lnil ?_
  refine thenN ?_
  refine AW.ret ?_
  exact bR1 Tryz.results58 rfl ⟨_, rfl, h⟩

def f_wire_buffer_num (B : World) (ro : AH) (a0 : Option Addr) (a1 : Int) (σ : AH) (Q : AH → Prop) : Prop :=
 c_wire_right B ro a1 σ fun x5_1 σ =>
 if ¬ (x5_1 = true) then
  ∃ p8_2 : Addr, a0 = some p8_2 ∧
  stN (p8_2.add 3) (fun σ =>
   Q σ) [.bool true] 0 σ
 else
 ∃ p11_3 : Addr, a0 = some p11_3 ∧
 c_wire_put B ro (⟨none, 0, 0⟩ : Sl) a1 σ fun x14_4 σ =>
 c_bytes_Buffer_Write B ro (some p11_3) x14_4 σ fun x15_5 x15_6 σ =>
 Q σ

set_option maxRecDepth 100000 in
set_option maxHeartbeats 4000000 in
theorem wire_buffer_num_ok {B : World} {ro : AH} {a0 : Option Addr} {a1 : Int} {σ : AH} {Q : AH → Prop} (h : Sep ro σ → f_wire_buffer_num B ro a0 a1 σ Q) : c_wire_buffer_num B ro a0 a1 σ Q := by
  refine ACalls.of_sep fun hsep => ?_
  replace h := h hsep
  refine ACalls.of_body (args := [.pointer a0, .int .i64 a1]) Tryz.func114 rfl (by rw [Tryz.ntmps114]; simp) ?_
  rw [Tryz.ntmps114]
  unfold f_wire_buffer_num at h
  refine AW.seq ?_
  refine AW.seq ?_
  refine AW.reg ?_
  refine Lp (V_move rfl rfl) rfl rfl ?_
  refine Ls rfl rfl (X_call rfl Tryz.func174 rfl rfl rfl (ACalls.mono h ?_))
  rintro v σ ⟨x5_1, rfl, h⟩
  refine Lp (V_not rfl rfl) rfl rfl ?_
  refine Lnil ?_
  refine thenN ?_
  refine AW.iff rfl (bnot_iff Iff.rfl) h (fun h => ?_) (fun h => ?_)
  · refine AW.seq ?_
    refine AW.reg ?_
    refine Lp (V_move rfl rfl) rfl rfl ?_
    obtain ⟨p8_2, hc, h⟩ := h
    refine Lp (V_nil rfl (by rw [← hc]; rfl)) rfl rfl ?_
    refine Lp (V_fld rfl Tryz.underlying219 rfl ty4 (by decide) rfl) rfl rfl ?_
    refine Ls rfl rfl (X_st rfl ty4 rfl rfl rfl rfl (stN_mono h fun σ h => ?_))
    refine Lnil ?_
    refine thenN ?_
    refine AW.ret ?_
    refine thenR ?_
    exact bR0 Tryz.results114 ⟨rfl, h⟩
  refine AW.skip ?_
  refine thenN ?_
  refine AW.drawn0 (fun i => ([0, 0, 0, 0, 2, 2] : List Nat).getD i 2) [] [0, 1, 2, 3, 4, 5] Tryz.mixed (by decide +kernel) ?_
  refine Dp rfl rfl rfl rfl (V_move rfl rfl) ?_
  obtain ⟨p11_3, hc, h⟩ := h
  refine Dp rfl rfl rfl rfl (V_nil rfl (by rw [← hc]; rfl)) ?_
  refine Dp rfl rfl rfl rfl (V_fld rfl Tryz.underlying219 rfl ty217 (by decide) rfl) ?_
  refine Dp rfl rfl rfl rfl (V_move rfl rfl) ?_
  refine Dg rfl rfl rfl rfl (X_call rfl Tryz.func175 rfl rfl rfl (ACalls.mono h ?_))
  rintro v σ ⟨x14_4, rfl, h⟩
  refine Dg rfl rfl rfl rfl (X_call rfl Tryz.func116 rfl rfl rfl (ACalls.mono h ?_))
  rintro v σ ⟨x15_5, x15_6, rfl, h⟩
  refine Dend ?_
  exact bN0 Tryz.results114 ⟨rfl, h⟩

def j1_wire_Number (B : World) (ro : AH) (a0 : Sl) (a1 : Int) (Q : Int → Int → Int → AH → Prop) (σ : AH) : Prop :=
 if 9 ≤ (IntKind.i64.wrap ((a0.len : Int) - a1)) then
  Q 0 0 13 σ
 else
 Q 0 0 12 σ

def j7_wire_Number (B : World) (ro : AH) (a1 : Int) (x4_3 : Int) (x21_4 : Int) (x25_6 : Int) (Q : Int → Int → Int → AH → Prop) (Y2 : (Int × Int) → AH → Prop) (x48_8 : Bool) (σ : AH) : Prop :=
 if x48_8 = true then
  Q 0 0 13 σ
 else
 Q (bitOr .i64 x4_3 (IntKind.i64.wrap ((IntKind.i64.wrap (bitAnd .u8 x25_6 127)) * 2 ^ (min (Int.toNat (IntKind.i64.wrap (7 * x21_4))) 64)))) (IntKind.i64.wrap ((IntKind.i64.wrap (a1 + x21_4)) + 1)) 0 σ

def l2_wire_Number (B : World) (ro : AH) (a0 : Sl) (a1 : Int) (Q : Int → Int → Int → AH → Prop) : (Int × Int) → AH → ((Int × Int) → AH → Prop) → Prop := fun ⟨x4_3, x21_4⟩ σ Y2 =>
 if x21_4 < ((⟨cutA a0.a (Int.toNat a1) a0.cap 1, a0.len - Int.toNat a1, a0.cap - Int.toNat a1⟩ : Sl).len : Int) then
  ∃ p24_5 : Addr, (⟨cutA a0.a (Int.toNat a1) a0.cap 1, a0.len - Int.toNat a1, a0.cap - Int.toNat a1⟩ : Sl).a = some p24_5 ∧ (0 : Int) ≤ x21_4 ∧ x21_4 < ((⟨cutA a0.a (Int.toNat a1) a0.cap 1, a0.len - Int.toNat a1, a0.cap - Int.toNat a1⟩ : Sl).len : Int) ∧
  ∃ (x25_6 : Int), acell ro σ (p24_5.add (Int.toNat x21_4 * 1)) = some (.int .u8 x25_6) ∧
  if x21_4 = 9 then
   j1_wire_Number B ro a0 a1 Q σ
  else
  (0 : Int) ≤ (IntKind.i64.wrap (7 * x21_4)) ∧
  if x25_6 < 128 then
   if (x25_6 = 0) ∧ (0 < x21_4) then
    j7_wire_Number B ro a1 x4_3 x21_4 x25_6 Q Y2 true σ
   else
   c_wire_right B ro (bitOr .i64 x4_3 (IntKind.i64.wrap ((IntKind.i64.wrap (bitAnd .u8 x25_6 127)) * 2 ^ (min (Int.toNat (IntKind.i64.wrap (7 * x21_4))) 64)))) σ fun x46_9 σ =>
   j7_wire_Number B ro a1 x4_3 x21_4 x25_6 Q Y2 (!x46_9) σ
  else
  Y2 (bitOr .i64 x4_3 (IntKind.i64.wrap ((IntKind.i64.wrap (bitAnd .u8 x25_6 127)) * 2 ^ (min (Int.toNat (IntKind.i64.wrap (7 * x21_4))) 64))), IntKind.i64.wrap (x21_4 + 1)) σ
 else
 j1_wire_Number B ro a0 a1 Q σ

def f_wire_Number (B : World) (ro : AH) (a0 : Sl) (a1 : Int) (σ : AH) (Q : Int → Int → Int → AH → Prop) : Prop :=
 if (a1 < 0) ∨ ((a0.len : Int) < a1) then
  Q 0 0 11 σ
 else
 cutOk (some a1) none a0.len a0.cap ∧
 lfpD (l2_wire_Number B ro a0 a1 Q ) (0, 0) σ

set_option maxRecDepth 100000 in
set_option maxHeartbeats 4000000 in
theorem wire_Number_ok {B : World} {ro : AH} {a0 : Sl} {a1 : Int} {σ : AH} {Q : Int → Int → Int → AH → Prop} (h : Sep ro σ → f_wire_Number B ro a0 a1 σ Q) : c_wire_Number B ro a0 a1 σ Q := by
  refine ACalls.of_sep fun hsep => ?_
  replace h := h hsep
  refine ACalls.of_body (args := [Sl.v a0, .int .i64 a1]) Tryz.func119 rfl (by rw [Tryz.ntmps119]; simp) ?_
  rw [Tryz.ntmps119]
  unfold f_wire_Number at h
  refine AW.seq ?_
  refine AW.reg ?_
  refine Lp (V_asg rfl rfl) rfl rfl ?_
  refine Lp (V_asg rfl rfl) rfl rfl ?_
  refine Lp (V_asg rfl rfl) rfl rfl ?_
  refine Lnil ?_
  refine thenN ?_
  refine AW.seq ?_
  refine AW.seq ?_
  refine AW.reg ?_
  refine Lp (V_move rfl rfl) rfl rfl ?_
  refine Lp (V_lss rfl rfl rfl) rfl rfl ?_
  refine Lp (V_move rfl rfl) rfl rfl ?_
  refine Lsplit 5 (decide (a1 < 0)) [(0, Sl.v a0), (1, .int .i64 a1), (4, .int .i64 0), (16, .bool ((decide (a1 < 0)) || (decide ((a0.len : Int) < a1))))] ?_ ?_ ?_
  · intro e2 hk2
    refine Ln rfl rfl rfl rfl (.inl (by rw [e2]; rfl)) ?_
    refine Ln rfl rfl rfl rfl (.inl (by rw [e2]; rfl)) ?_
    refine Ln rfl rfl rfl rfl (.inl (by rw [e2]; rfl)) ?_
    refine Ln rfl rfl rfl rfl (.inl (by rw [e2]; rfl)) ?_
    refine Lp (V_pickT rfl (evb e2) rfl) rfl rfl ?_
    exact hk2 _ (FrLe.cons rfl (FrLe.cons rfl (FrLe.cons rfl (FrLe.cons (by rw [e2]; rfl) (FrLe.nil _)))))
  · intro e2 hk2
    refine Lypb (V_move rfl rfl) rfl rfl rfl rfl e2 ?_
    refine Lypb (V_move rfl rfl) rfl rfl rfl rfl e2 ?_
    refine Lypb (V_lenL rfl rfl Tryz.underlying24 rfl rfl) rfl rfl rfl rfl e2 ?_
    refine Lypb (V_gtr rfl rfl rfl) rfl rfl rfl rfl e2 ?_
    refine Lp (V_pickF rfl (evb e2) rfl) rfl rfl ?_
    exact hk2 _ (FrLe.cons rfl (FrLe.cons rfl (FrLe.cons rfl (FrLe.cons (by rw [e2]; rfl) (FrLe.nil _)))))
  intro fr hl
  refine Lfr hl ?_
  refine Lnil ?_
  refine thenN ?_
  refine AW.iff rfl (bor_iff decide_eq_true_iff decide_eq_true_iff) h (fun h => ?_) (fun h => ?_)
  · refine AW.seq ?_
    refine AW.reg ?_
    refine Lp (V_asg rfl rfl) rfl rfl ?_
    refine Lp (V_asg rfl rfl) rfl rfl ?_
    refine Lp (V_asg rfl rfl) rfl rfl ?_
    refine Lnil ?_
    refine thenN ?_
    refine AW.ret ?_
    refine thenR ?_
    exact bR3 Tryz.results119 rfl rfl rfl ⟨_, _, _, rfl, h⟩
  refine AW.skip ?_
  refine thenN ?_
  refine AW.seqJ (fun fr σ => FrLe [(0, Sl.v a0), (1, .int .i64 a1)] fr ∧ j1_wire_Number B ro a0 a1 Q σ) ?_ ?_
  · rintro fr σ ⟨hl, h⟩
    refine AW.weaken ?_ hl (HLe.refl _)
    unfold j1_wire_Number at h
    refine AW.seq ?_
    refine AW.seq ?_
    refine AW.reg ?_
    refine Lp (V_move rfl rfl) rfl rfl ?_
    refine Lp (V_lenL rfl rfl Tryz.underlying24 rfl rfl) rfl rfl ?_
    refine Lp (V_move rfl rfl) rfl rfl ?_
    refine Lp (V_sub rfl rfl rfl) rfl rfl ?_
    refine Lp (V_geq rfl rfl rfl) rfl rfl ?_
    refine Lnil ?_
    refine thenN ?_
    refine AW.iff rfl decide_eq_true_iff h (fun h => ?_) (fun h => ?_)
    · refine AW.seq ?_
      refine AW.reg ?_
      refine Lp (V_asg rfl rfl) rfl rfl ?_
      refine Lp (V_asg rfl rfl) rfl rfl ?_
      refine Lp (V_asg rfl rfl) rfl rfl ?_
      refine Lnil ?_
      refine thenN ?_
      refine AW.ret ?_
      refine thenR ?_
      exact bR3 Tryz.results119 rfl rfl rfl ⟨_, _, _, rfl, h⟩
    refine AW.skip ?_
    refine thenN ?_
    refine AW.seq ?_
    refine AW.reg ?_
    refine Lp (V_asg rfl rfl) rfl rfl ?_
    refine Lp (V_asg rfl rfl) rfl rfl ?_
    refine Lp (V_asg rfl rfl) rfl rfl ?_
    refine Lnil ?_
    refine thenN ?_
    refine AW.ret ?_
    exact bR3 Tryz.results119 rfl rfl rfl ⟨_, _, _, rfl, h⟩
  refine AW.seq ?_
  refine AW.reg ?_
  refine Lp (V_move rfl rfl) rfl rfl ?_
  refine Lp (V_move rfl rfl) rfl rfl ?_
  obtain ⟨hc, h⟩ := h
  refine Lp (V_slL (lo := (some a1)) (hi := none) rfl Tryz.underlying24 ty5 rfl (optI_some rfl) optI_none hc) rfl rfl ?_
  refine Lp (V_lenL rfl rfl Tryz.underlying24 rfl rfl) rfl rfl ?_
  refine Lp (V_move rfl rfl) rfl rfl ?_
  refine Lnil ?_
  refine thenN ?_
  refine AW.block ?_
  refine ARound.loop (fr' := [(0, Sl.v a0), (1, .int .i64 a1), (19, Sl.v (⟨cutA a0.a (Int.toNat a1) a0.cap 1, a0.len - Int.toNat a1, a0.cap - Int.toNat a1⟩ : Sl)), (20, .int .i64 ((⟨cutA a0.a (Int.toNat a1) a0.cap 1, a0.len - Int.toNat a1, a0.cap - Int.toNat a1⟩ : Sl).len : Int)), (4, .int .i64 0), (21, .int .i64 0)]) ?_ (FrLe.cons rfl (FrLe.cons rfl (FrLe.cons rfl (FrLe.cons rfl (FrLe.cons rfl (FrLe.cons rfl (FrLe.nil _)))))))
  refine h (fun ⟨x4_3, x21_4⟩ σ => ARound _ _ _ _ _ _ [(0, Sl.v a0), (1, .int .i64 a1), (19, Sl.v (⟨cutA a0.a (Int.toNat a1) a0.cap 1, a0.len - Int.toNat a1, a0.cap - Int.toNat a1⟩ : Sl)), (20, .int .i64 ((⟨cutA a0.a (Int.toNat a1) a0.cap 1, a0.len - Int.toNat a1, a0.cap - Int.toNat a1⟩ : Sl).len : Int)), (4, .int .i64 x4_3), (21, .int .i64 x21_4)] σ) ?_
  rintro ⟨x4_3, x21_4⟩ σ Y2 hY2 h
  show AW _ _ _ _ _ _ _ _
  unfold l2_wire_Number at h
  dsimp only at h
  refine AW.seq ?_
  refine AW.reg ?_
  refine Lp (V_lss rfl rfl rfl) rfl rfl ?_
  refine Lnil ?_
  refine thenN ?_
  refine AW.seq ?_
  refine AW.iff rfl decide_eq_true_iff h (fun h => ?_) (fun h => ?_)
  rotate_left
  · refine AW.exit ?_
    refine thenE ?_
    refine thenE ?_
    refine blockE ?_
    refine thenN ?_
    exact ⟨(FrLe.cons rfl (FrLe.cons rfl (FrLe.nil _))), h⟩
  refine AW.skip ?_
  refine thenN ?_
  refine AW.seq ?_
  refine AW.block ?_
  refine AW.seq ?_
  refine AW.reg ?_
  refine Lp (V_move rfl rfl) rfl rfl ?_
  obtain ⟨p24_5, ha, h0, h1, h⟩ := h
  refine Lp (V_ixA rfl Tryz.underlying24 ty5 (ixL rfl ha) rfl h0 h1) rfl rfl ?_
  obtain ⟨x25_6, hc, h⟩ := h
  refine Ls rfl rfl (X_ld rfl Tryz.underlying5 rfl rfl hc ?_)
  refine Lp (V_asg rfl rfl) rfl rfl ?_
  refine Lp (V_asg rfl rfl) rfl rfl ?_
  refine Lnil ?_
  refine thenN ?_
  refine AW.seq ?_
  refine AW.seq ?_
  refine AW.reg ?_
  refine Lp (V_move rfl rfl) rfl rfl ?_
  refine Lp (V_eql rfl rfl rfl) rfl rfl ?_
  refine Lnil ?_
  refine thenN ?_
  refine AW.iff rfl decide_eq_true_iff h (fun h => ?_) (fun h => ?_)
  · refine AW.exit ?_
    refine thenE ?_
    refine blockO rfl ?_
    refine thenE ?_
    refine thenE ?_
    refine blockE ?_
    refine thenN ?_
    exact ⟨(FrLe.cons rfl (FrLe.cons rfl (FrLe.nil _))), h⟩
  refine AW.skip ?_
  refine thenN ?_
  refine AW.seq ?_
  refine AW.reg ?_
  refine Lp (V_move rfl rfl) rfl rfl ?_
  refine Lp (V_move rfl rfl) rfl rfl ?_
  refine Lp (V_and rfl rfl rfl) rfl rfl ?_
  refine Lp (V_cvt rfl rfl Tryz.underlying5 Tryz.underlying3) rfl rfl ?_
  refine Lp (V_move rfl rfl) rfl rfl ?_
  refine Lp (V_mul rfl rfl rfl) rfl rfl ?_
  obtain ⟨hc, h⟩ := h
  refine Lp (V_shl rfl rfl rfl hc) rfl rfl ?_
  refine Lp (V_or rfl rfl rfl) rfl rfl ?_
  refine Lp (V_asg rfl rfl) rfl rfl ?_
  refine Lnil ?_
  refine thenN ?_
  refine AW.seq ?_
  refine AW.reg ?_
  refine Lp (V_move rfl rfl) rfl rfl ?_
  refine Lp (V_lss rfl rfl rfl) rfl rfl ?_
  refine Lnil ?_
  refine thenN ?_
  refine AW.iff rfl decide_eq_true_iff h (fun h => ?_) (fun h => ?_)
  rotate_left
  · refine AW.skip ?_
    refine blockN ?_
    refine thenN ?_
    refine AW.reg ?_
    refine Lp (V_add rfl rfl rfl) rfl rfl ?_
    refine Lp (V_move rfl rfl) rfl rfl ?_
    refine Lnil ?_
    refine thenN ?_
    refine ARound.head (fr' := [(0, Sl.v a0), (1, .int .i64 a1), (19, Sl.v (⟨cutA a0.a (Int.toNat a1) a0.cap 1, a0.len - Int.toNat a1, a0.cap - Int.toNat a1⟩ : Sl)), (20, .int .i64 ((⟨cutA a0.a (Int.toNat a1) a0.cap 1, a0.len - Int.toNat a1, a0.cap - Int.toNat a1⟩ : Sl).len : Int)), (4, .int .i64 (bitOr .i64 x4_3 (IntKind.i64.wrap ((IntKind.i64.wrap (bitAnd .u8 x25_6 127)) * 2 ^ (min (Int.toNat (IntKind.i64.wrap (7 * x21_4))) 64))))), (21, .int .i64 (IntKind.i64.wrap (x21_4 + 1)))]) ?_ (FrLe.cons rfl (FrLe.cons rfl (FrLe.cons rfl (FrLe.cons rfl (FrLe.cons rfl (FrLe.cons rfl (FrLe.nil _)))))))
    exact hY2 _ _ h
  refine AW.seq ?_
  refine AW.seq ?_
  refine AW.reg ?_
  refine Lp (V_move rfl rfl) rfl rfl ?_
  refine Lp (V_eql rfl rfl rfl) rfl rfl ?_
  refine Lp (V_move rfl rfl) rfl rfl ?_
  refine Lsplit 3 (decide (x25_6 = 0)) [(1, .int .i64 a1), (4, .int .i64 (bitOr .i64 x4_3 (IntKind.i64.wrap ((IntKind.i64.wrap (bitAnd .u8 x25_6 127)) * 2 ^ (min (Int.toNat (IntKind.i64.wrap (7 * x21_4))) 64))))), (7, .int .i64 x21_4), (43, .bool ((decide (x25_6 = 0)) && (decide (0 < x21_4))))] ?_ ?_ ?_
  · intro e2 hk2
    refine Lypb (V_move rfl rfl) rfl rfl rfl rfl e2 ?_
    refine Lypb (V_gtr rfl rfl rfl) rfl rfl rfl rfl e2 ?_
    refine Lp (V_pickT rfl (evb e2) rfl) rfl rfl ?_
    exact hk2 _ (FrLe.cons rfl (FrLe.cons rfl (FrLe.cons rfl (FrLe.cons (by rw [e2]; rfl) (FrLe.nil _)))))
  · intro e2 hk2
    refine Ln rfl rfl rfl rfl (.inl (by rw [e2]; rfl)) ?_
    refine Ln rfl rfl rfl rfl (.inl (by rw [e2]; rfl)) ?_
    refine Lp (V_pickF rfl (evb e2) rfl) rfl rfl ?_
    exact hk2 _ (FrLe.cons rfl (FrLe.cons rfl (FrLe.cons rfl (FrLe.cons (by rw [e2]; rfl) (FrLe.nil _)))))
  intro fr hl
  refine Lfr hl ?_
  refine Lp (V_move rfl rfl) rfl rfl ?_
  refine LsplitJ 4 ((decide (x25_6 = 0)) && (decide (0 < x21_4))) (band_iff decide_eq_true_iff decide_eq_true_iff) h (fun fr σ => ∃ (x48_8 : Bool), FrLe [(1, .int .i64 a1), (4, .int .i64 (bitOr .i64 x4_3 (IntKind.i64.wrap ((IntKind.i64.wrap (bitAnd .u8 x25_6 127)) * 2 ^ (min (Int.toNat (IntKind.i64.wrap (7 * x21_4))) 64))))), (7, .int .i64 x21_4), (48, .bool x48_8)] fr ∧ j7_wire_Number B ro a1 x4_3 x21_4 x25_6 Q Y2 x48_8 σ) ?_ ?_ ?_
  · intro h e6 hk6
    refine Ln rfl rfl rfl rfl (.inl (by rw [e6]; rfl)) ?_
    refine Ln rfl rfl rfl rfl (.inl (by rw [e6]; rfl)) ?_
    refine Ln rfl rfl rfl rfl (.inl (by rw [e6]; rfl)) ?_
    refine Lp (V_pickT rfl (evb e6) rfl) rfl rfl ?_
    exact hk6 _ _ ⟨_, (FrLe.cons rfl (FrLe.cons rfl (FrLe.cons rfl (FrLe.cons rfl (FrLe.nil _))))), h⟩
  · intro h e6 hk6
    refine Lypb (V_move rfl rfl) rfl rfl rfl rfl e6 ?_
    refine Lyb rfl rfl rfl rfl e6 (X_call rfl Tryz.func174 rfl rfl rfl (ACalls.mono h ?_))
    rintro v σ ⟨x46_9, rfl, h⟩
    refine Lypb (V_not rfl rfl) rfl rfl rfl rfl e6 ?_
    refine Lp (V_pickF rfl (evb e6) rfl) rfl rfl ?_
    exact hk6 _ _ ⟨_, (FrLe.cons rfl (FrLe.cons rfl (FrLe.cons rfl (FrLe.cons rfl (FrLe.nil _))))), h⟩
  rintro fr σ ⟨x48_8, hl, h⟩
  unfold j7_wire_Number at h
  refine Lfr hl ?_
  refine Lnil ?_
  refine thenN ?_
  refine AW.iff rfl Iff.rfl h (fun h => ?_) (fun h => ?_)
  · refine AW.seq ?_
    refine AW.reg ?_
    refine Lp (V_asg rfl rfl) rfl rfl ?_
    refine Lp (V_asg rfl rfl) rfl rfl ?_
    refine Lp (V_asg rfl rfl) rfl rfl ?_
    refine Lnil ?_
    refine thenN ?_
    refine AW.ret ?_
    refine thenR ?_
    refine blockR ?_
    refine thenR ?_
    refine thenR ?_
    refine blockR ?_
    refine thenR ?_
    exact bR3 Tryz.results119 rfl rfl rfl ⟨_, _, _, rfl, h⟩
  refine AW.skip ?_
  refine thenN ?_
  refine AW.seq ?_
  refine AW.reg ?_
  refine Lp (V_move rfl rfl) rfl rfl ?_
  refine Lp (V_move rfl rfl) rfl rfl ?_
  refine Lp (V_move rfl rfl) rfl rfl ?_
  refine Lp (V_add rfl rfl rfl) rfl rfl ?_
  refine Lp (V_add rfl rfl rfl) rfl rfl ?_
  refine Lp (V_asg rfl rfl) rfl rfl ?_
  refine Lp (V_asg rfl rfl) rfl rfl ?_
  refine Lp (V_asg rfl rfl) rfl rfl ?_
  refine Lnil ?_
  refine thenN ?_
  refine AW.ret ?_
  refine blockR ?_
  refine thenR ?_
  refine thenR ?_
  refine blockR ?_
  refine thenR ?_
  exact bR3 Tryz.results119 rfl rfl rfl ⟨_, _, _, rfl, h⟩

def f_wire_right (B : World) (ro : AH) (a0 : Int) (σ : AH) (Q : Bool → AH → Prop) : Prop :=
 Q ((decide (0 ≤ a0)) && (decide (a0 ≤ 4611686018427387903))) σ

set_option maxRecDepth 100000 in
set_option maxHeartbeats 4000000 in
theorem wire_right_ok {B : World} {ro : AH} {a0 : Int} {σ : AH} {Q : Bool → AH → Prop} (h : Sep ro σ → f_wire_right B ro a0 σ Q) : c_wire_right B ro a0 σ Q := by
  refine ACalls.of_sep fun hsep => ?_
  replace h := h hsep
  refine ACalls.of_body (args := [.int .i64 a0]) Tryz.func174 rfl (by rw [Tryz.ntmps174]; simp) ?_
  rw [Tryz.ntmps174]
  unfold f_wire_right at h
  refine AW.seq ?_
  refine AW.reg ?_
  refine Lp (V_asg rfl rfl) rfl rfl ?_
  refine Lnil ?_
  refine thenN ?_
  refine AW.seq ?_
  refine AW.reg ?_
  refine Lp (V_move rfl rfl) rfl rfl ?_
  refine Lp (V_geq rfl rfl rfl) rfl rfl ?_
  refine Lp (V_move rfl rfl) rfl rfl ?_
  refine Lsplit 3 (decide (0 ≤ a0)) [(8, .bool ((decide (0 ≤ a0)) && (decide (a0 ≤ 4611686018427387903))))] ?_ ?_ ?_
  · intro e2 hk2
    refine Lypb (V_move rfl rfl) rfl rfl rfl rfl e2 ?_
    refine Lypb (V_leq rfl rfl rfl) rfl rfl rfl rfl e2 ?_
    refine Lp (V_pickT rfl (evb e2) rfl) rfl rfl ?_
    exact hk2 _ (FrLe.cons (by rw [e2]; rfl) (FrLe.nil _))
  · intro e2 hk2
    refine Ln rfl rfl rfl rfl (.inl (by rw [e2]; rfl)) ?_
    refine Ln rfl rfl rfl rfl (.inl (by rw [e2]; rfl)) ?_
    refine Lp (V_pickF rfl (evb e2) rfl) rfl rfl ?_
    exact hk2 _ (FrLe.cons (by rw [e2]; rfl) (FrLe.nil _))
  intro fr hl
  refine Lfr hl ?_
  refine Lp (V_asg rfl rfl) rfl rfl ?_
  refine Lnil ?_
  refine thenN ?_
  refine AW.ret ?_
  exact bR1 Tryz.results174 rfl ⟨_, rfl, h⟩

def j1_wire_put (B : World) (ro : AH) (Q : Sl → AH → Prop) (x0_2 : Sl) (x1_3 : Int) (σ : AH) : Prop :=
 nw ro σ (.cells #[.int .u8 (IntKind.u8.wrap x1_3)] 5) fun x18_4 σ =>
 awp Tryz.prog ro (Builtin.append_ #[24, 24] 24 #[Sl.v x0_2, Sl.v (⟨some ⟨x18_4, 0, none⟩, 1, 1⟩ : Sl)]) (fun v σ => ∃ (x19_5 : Sl), v = Sl.v x19_5 ∧
  Q x19_5 σ) σ

def l6_wire_put (B : World) (ro : AH) (Q : Sl → AH → Prop) : (Sl × Int) → AH → ((Sl × Int) → AH → Prop) → Prop := fun ⟨x0_7, x1_8⟩ σ Y6 =>
 if 128 ≤ x1_8 then
  nw ro σ (.cells #[.int .u8 (bitOr .u8 (IntKind.u8.wrap x1_8) 128)] 5) fun x13_9 σ =>
  awp Tryz.prog ro (Builtin.append_ #[24, 24] 24 #[Sl.v x0_7, Sl.v (⟨some ⟨x13_9, 0, none⟩, 1, 1⟩ : Sl)]) (fun v σ => ∃ (x14_10 : Sl), v = Sl.v x14_10 ∧
   Y6 (x14_10, Int.fdiv x1_8 (2 ^ (min (Int.toNat 7) 64))) σ) σ
 else
 j1_wire_put B ro Q x0_7 x1_8 σ

def f_wire_put (B : World) (ro : AH) (a0 : Sl) (a1 : Int) (σ : AH) (Q : Sl → AH → Prop) : Prop :=
 lfpD (l6_wire_put B ro Q ) (a0, a1) σ

set_option maxRecDepth 100000 in
set_option maxHeartbeats 4000000 in
theorem wire_put_ok {B : World} {ro : AH} {a0 : Sl} {a1 : Int} {σ : AH} {Q : Sl → AH → Prop} (h : Sep ro σ → f_wire_put B ro a0 a1 σ Q) : c_wire_put B ro a0 a1 σ Q := by
  refine ACalls.of_sep fun hsep => ?_
  replace h := h hsep
  refine ACalls.of_body (args := [Sl.v a0, .int .i64 a1]) Tryz.func175 rfl (by rw [Tryz.ntmps175]; simp) ?_
  rw [Tryz.ntmps175]
  unfold f_wire_put at h
  refine AW.seq ?_
  refine AW.reg ?_
  refine Lp (V_asg rfl rfl) rfl rfl ?_
  refine Lnil ?_
  refine thenN ?_
  refine AW.seqJ (fun fr σ => ∃ (x0_2 : Sl) (x1_3 : Int), FrLe [(0, Sl.v x0_2), (1, .int .i64 x1_3)] fr ∧ j1_wire_put B ro Q x0_2 x1_3 σ) ?_ ?_
  · rintro fr σ ⟨x0_2, x1_3, hl, h⟩
    refine AW.weaken ?_ hl (HLe.refl _)
    unfold j1_wire_put at h
    refine AW.seq ?_
    refine AW.reg ?_
    refine Lp (V_move rfl rfl) rfl rfl ?_
    refine Lp (V_move rfl rfl) rfl rfl ?_
    refine Lp (V_cvt rfl rfl Tryz.underlying3 Tryz.underlying5) rfl rfl ?_
    refine Ls rfl rfl (X_new (A_bsl (vs := [(0, .int .u8 (IntKind.u8.wrap x1_3))]) (cs := #[.int .u8 (IntKind.u8.wrap x1_3)]) rfl Tryz.underlying24 ty5 (by decide) rfl rfl) fun x18_4 g1 g2 => ?_)
    replace h := h x18_4 g1 g2
    refine Ls rfl rfl (X_bi (s := Builtin.append_ #[24, 24] 24 #[Sl.v x0_2, Sl.v (⟨some ⟨x18_4, 0, none⟩, 1, 1⟩ : Sl)]) rfl rfl (fun _ => rfl) (awp_mono _ h ?_))
    rintro v σ ⟨x19_5, rfl, h⟩
    refine Lp (V_asg rfl rfl) rfl rfl ?_
    refine Lnil ?_
    refine thenN ?_
    refine AW.ret ?_
    exact bR1 Tryz.results175 rfl ⟨_, rfl, h⟩
  refine AW.block ?_
  refine ARound.loop (fr' := [(0, Sl.v a0), (1, .int .i64 a1)]) ?_ (FrLe.cons rfl (FrLe.cons rfl (FrLe.nil _)))
  refine h (fun ⟨x0_7, x1_8⟩ σ => ARound _ _ _ _ _ _ [(0, Sl.v x0_7), (1, .int .i64 x1_8)] σ) ?_
  rintro ⟨x0_7, x1_8⟩ σ Y6 hY6 h
  show AW _ _ _ _ _ _ _ _
  unfold l6_wire_put at h
  dsimp only at h
  refine AW.seq ?_
  refine AW.seq ?_
  refine AW.reg ?_
  refine Lp (V_move rfl rfl) rfl rfl ?_
  refine Lp (V_geq rfl rfl rfl) rfl rfl ?_
  refine Lnil ?_
  refine thenN ?_
  refine AW.iff rfl decide_eq_true_iff h (fun h => ?_) (fun h => ?_)
  rotate_left
  · refine AW.exit ?_
    refine thenE ?_
    refine thenE ?_
    refine blockE ?_
    refine thenN ?_
    exact ⟨_, _, (FrLe.cons rfl (FrLe.cons rfl (FrLe.nil _))), h⟩
  refine AW.skip ?_
  refine thenN ?_
  refine AW.seq ?_
  refine AW.block ?_
  refine AW.reg ?_
  refine Lp (V_move rfl rfl) rfl rfl ?_
  refine Lp (V_move rfl rfl) rfl rfl ?_
  refine Lp (V_cvt rfl rfl Tryz.underlying3 Tryz.underlying5) rfl rfl ?_
  refine Lp (V_or rfl rfl rfl) rfl rfl ?_
  refine Ls rfl rfl (X_new (A_bsl (vs := [(0, .int .u8 (bitOr .u8 (IntKind.u8.wrap x1_8) 128))]) (cs := #[.int .u8 (bitOr .u8 (IntKind.u8.wrap x1_8) 128)]) rfl Tryz.underlying24 ty5 (by decide) rfl rfl) fun x13_9 g1 g2 => ?_)
  replace h := h x13_9 g1 g2
  refine Ls rfl rfl (X_bi (s := Builtin.append_ #[24, 24] 24 #[Sl.v x0_7, Sl.v (⟨some ⟨x13_9, 0, none⟩, 1, 1⟩ : Sl)]) rfl rfl (fun _ => rfl) (awp_mono _ h ?_))
  rintro v σ ⟨x14_10, rfl, h⟩
  refine Lp (V_asg rfl rfl) rfl rfl ?_
  refine Lnil ?_
  refine blockN ?_
  refine thenN ?_
  refine AW.reg ?_
  refine Lp (V_move rfl rfl) rfl rfl ?_
  refine Lp (V_shr rfl rfl rfl (by decide)) rfl rfl ?_
  refine Lp (V_asg rfl rfl) rfl rfl ?_
  refine Lnil ?_
  refine thenN ?_
  refine ARound.head (fr' := [(0, Sl.v x14_10), (1, .int .i64 (Int.fdiv x1_8 (2 ^ (min (Int.toNat 7) 64))))]) ?_ (FrLe.cons rfl (FrLe.cons rfl (FrLe.nil _)))
  exact hY6 _ _ h

end Go.Proofs.YtomdigihapdhnaaGreatDoor.G
