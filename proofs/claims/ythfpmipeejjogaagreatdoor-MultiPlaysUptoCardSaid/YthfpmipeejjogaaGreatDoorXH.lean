/- GBuf, BuA, GWire, WiB, WiC, ZtE -/
import Derived.Test.YthfpmipeejjogaaGreatDoorXG
set_option maxRecDepth 100000
set_option maxHeartbeats 4000000
set_option linter.unusedVariables false
set_option linter.unusedSimpArgs false
open Go.IntKind (i64)
open Go.Proofs.Tryz
namespace Go.Proofs.YthfpmipeejjogaaGreatDoor
namespace G
open Go SL
variable {B : World} {ro σ : AH}
def j4_bytes_Buffer_WriteString (B : World) (ro : AH) (a0 : Option Addr) (a1 : ByteArray) (Q : Int → Value → AH → Prop) (u0 : Int) (σ : AH) : Prop :=
 ∃ p1, a0 = some p1 ∧
 ∃ u2, acell ro σ p1 = some (Sl.v u2) ∧
 cutOk (some u0) none u2.len u2.cap ∧
 awp prog ro (Builtin.copy_ #[30, 9] 3 #[Sl.v (⟨cutA u2.a (Int.toNat u0) u2.cap 1, u2.len - Int.toNat u0, u2.cap - Int.toNat u0⟩ : Sl), .string a1]) (fun v σ => ∃ (u3 : Int), v = .int .i64 u3 ∧
 Q u3 .nilIface σ) σ
def f_bytes_Buffer_WriteString (B : World) (ro : AH) (a0 : Option Addr) (a1 : ByteArray) (σ : AH) (Q : Int → Value → AH → Prop) : Prop :=
 ∃ p0, a0 = some p0 ∧
 stN (p0.add 2) (fun σ =>
 c_bytes_Buffer_tryGrowByReslice B ro a0 (a1.size : Int) σ fun u1 u2 σ =>
 if ¬ (u2 = true) then
  c_bytes_Buffer_grow B ro a0 (a1.size : Int) σ fun u3 σ =>
  j4_bytes_Buffer_WriteString B ro a0 a1 Q u3 σ
 else
 j4_bytes_Buffer_WriteString B ro a0 a1 Q u1 σ) [.int .i8 0] 0 σ
theorem bytes_Buffer_WriteString_ok {a0 : Option Addr} {a1 : ByteArray} {Q : Int → Value → AH → Prop} (h : Sep ro σ → f_bytes_Buffer_WriteString B ro a0 a1 σ Q) : c_bytes_Buffer_WriteString B ro a0 a1 σ Q := by
 refine zb h func114 ntmps114 fun h => ?_; unfold f_bytes_Buffer_WriteString at h; refine z3 ?_; iterate 2 refine zp ?_
 refine z4 ?_; refine zp ?_; refine zN h fun p0 h => ?_; refine zf underlying198 ty196 ?_; refine zs ty196 h fun σ h => ?_; refine z4 ?_; iterate 2 refine zp ?_
 refine zm (V_lenS rfl rfl underlying9 rfl rfl) ?_; refine zc func137 h ?_; rintro v σ ⟨u1, u2, rfl, h⟩; iterate 5 refine zp ?_
 refine z2 ?_; refine AW.seqJ (fun fr σ => ∃ (u3 : Int), FrLe [(0, .pointer a0), (1, .string a1), (6, .int .i64 u3)] fr ∧ j4_bytes_Buffer_WriteString B ro a0 a1 Q u3 σ) ?_ ?_
 rotate_left
 ·refine z3 ?_; iterate 2 refine zp ?_
  refine z2 ?_; refine AW.iff rfl (bnot_iff Iff.rfl) h (fun h => ?_) (fun h => ?_)
  rotate_left
  ·refine AW.skip ?_; refine thenN ?_; exact ⟨_, FL, h⟩
  refine AW.reg ?_; iterate 2 refine zp ?_
  refine zm (V_lenS rfl rfl underlying9 rfl rfl) ?_; refine zc func138 h ?_; rintro v σ ⟨u4, rfl, h⟩; refine zp ?_; refine z2 ?_; exact ⟨_, FL, h⟩
 rintro fr σ ⟨u3, hl, h⟩; refine AW.weaken ?_ hl (HLe.refl _)
 unfold j4_bytes_Buffer_WriteString at h; refine z3 ?_; refine zp ?_; refine zN h fun p5 h => ?_; refine zf underlying198 ty30 ?_; refine zL underlying30 h fun u6 h => ?_; refine zp ?_; obtain ⟨hc, h⟩ := h
 refine zm (V_slL (lo := (some u3)) (hi := none) rfl underlying30 ty5 rfl (optI_some rfl) optI_none hc) ?_; refine zp ?_; refine zl (X_bi (s := Builtin.copy_ #[30, 9] 3 #[Sl.v (⟨cutA u6.a (Int.toNat u3) u6.cap 1, u6.len - Int.toNat u3, u6.cap - Int.toNat u3⟩ : Sl), .string a1]) rfl rfl (fun _ => rfl) (awp_mono _ h ?_))
 rintro v σ ⟨u7, rfl, h⟩; iterate 2 refine zp ?_
 refine z2 ?_; refine AW.ret ?_; exact bR2 results114 rfl rfl ⟨_, _, rfl, h⟩
def j4_bytes_Buffer_Write (B : World) (ro : AH) (a0 : Option Addr) (a1 : Sl) (Q : Int → Value → AH → Prop) (u0 : Int) (σ : AH) : Prop :=
 ∃ p1, a0 = some p1 ∧
 ∃ u2, acell ro σ p1 = some (Sl.v u2) ∧
 cutOk (some u0) none u2.len u2.cap ∧
 awp prog ro (Builtin.copy_ #[30, 30] 3 #[Sl.v (⟨cutA u2.a (Int.toNat u0) u2.cap 1, u2.len - Int.toNat u0, u2.cap - Int.toNat u0⟩ : Sl), Sl.v a1]) (fun v σ => ∃ (u3 : Int), v = .int .i64 u3 ∧
 Q u3 .nilIface σ) σ
def f_bytes_Buffer_Write (B : World) (ro : AH) (a0 : Option Addr) (a1 : Sl) (σ : AH) (Q : Int → Value → AH → Prop) : Prop :=
 ∃ p0, a0 = some p0 ∧
 stN (p0.add 2) (fun σ =>
 c_bytes_Buffer_tryGrowByReslice B ro a0 (a1.len : Int) σ fun u1 u2 σ =>
 if ¬ (u2 = true) then
  c_bytes_Buffer_grow B ro a0 (a1.len : Int) σ fun u3 σ =>
  j4_bytes_Buffer_Write B ro a0 a1 Q u3 σ
 else
 j4_bytes_Buffer_Write B ro a0 a1 Q u1 σ) [.int .i8 0] 0 σ
theorem bytes_Buffer_Write_ok {a0 : Option Addr} {a1 : Sl} {Q : Int → Value → AH → Prop} (h : Sep ro σ → f_bytes_Buffer_Write B ro a0 a1 σ Q) : c_bytes_Buffer_Write B ro a0 a1 σ Q := by
 refine zb h func115 ntmps115 fun h => ?_; unfold f_bytes_Buffer_Write at h; refine z3 ?_; iterate 2 refine zp ?_
 refine z4 ?_; refine zp ?_; refine zN h fun p0 h => ?_; refine zf underlying198 ty196 ?_; refine zs ty196 h fun σ h => ?_; refine z4 ?_; iterate 2 refine zp ?_
 refine zm (V_lenL rfl rfl underlying30 rfl rfl) ?_; refine zc func137 h ?_; rintro v σ ⟨u1, u2, rfl, h⟩; iterate 5 refine zp ?_
 refine z2 ?_; refine AW.seqJ (fun fr σ => ∃ (u3 : Int), FrLe [(0, .pointer a0), (1, Sl.v a1), (6, .int .i64 u3)] fr ∧ j4_bytes_Buffer_Write B ro a0 a1 Q u3 σ) ?_ ?_
 rotate_left
 ·refine z3 ?_; iterate 2 refine zp ?_
  refine z2 ?_; refine AW.iff rfl (bnot_iff Iff.rfl) h (fun h => ?_) (fun h => ?_)
  rotate_left
  ·refine AW.skip ?_; refine thenN ?_; exact ⟨_, FL, h⟩
  refine AW.reg ?_; iterate 2 refine zp ?_
  refine zm (V_lenL rfl rfl underlying30 rfl rfl) ?_; refine zc func138 h ?_; rintro v σ ⟨u4, rfl, h⟩; refine zp ?_; refine z2 ?_; exact ⟨_, FL, h⟩
 rintro fr σ ⟨u3, hl, h⟩; refine AW.weaken ?_ hl (HLe.refl _)
 unfold j4_bytes_Buffer_Write at h; refine z3 ?_; refine zp ?_; refine zN h fun p5 h => ?_; refine zf underlying198 ty30 ?_; refine zL underlying30 h fun u6 h => ?_; refine zp ?_; obtain ⟨hc, h⟩ := h
 refine zm (V_slL (lo := (some u3)) (hi := none) rfl underlying30 ty5 rfl (optI_some rfl) optI_none hc) ?_; refine zp ?_; refine zl (X_bi (s := Builtin.copy_ #[30, 30] 3 #[Sl.v (⟨cutA u6.a (Int.toNat u3) u6.cap 1, u6.len - Int.toNat u3, u6.cap - Int.toNat u3⟩ : Sl), Sl.v a1]) rfl rfl (fun _ => rfl) (awp_mono _ h ?_))
 rintro v σ ⟨u7, rfl, h⟩; iterate 2 refine zp ?_
 refine z2 ?_; refine AW.ret ?_; exact bR2 results115 rfl rfl ⟨_, _, rfl, h⟩
def f_bytes_Buffer_Bytes (B : World) (ro : AH) (a0 : Option Addr) (σ : AH) (Q : Sl → AH → Prop) : Prop :=
 ∃ p0, a0 = some p0 ∧
 ∃ p1, a0 = some p1 ∧
 ∃ u2, acell ro σ p0 = some (Sl.v u2) ∧
 ∃ u3, acell ro σ (p1.add 1) = some (.int .i64 u3) ∧
 cutOk (some u3) none u2.len u2.cap ∧
 Q (⟨cutA u2.a (Int.toNat u3) u2.cap 1, u2.len - Int.toNat u3, u2.cap - Int.toNat u3⟩ : Sl) σ
theorem bytes_Buffer_Bytes_ok {a0 : Option Addr} {Q : Sl → AH → Prop} (h : Sep ro σ → f_bytes_Buffer_Bytes B ro a0 σ Q) : c_bytes_Buffer_Bytes B ro a0 σ Q := by
 refine zb h func116 ntmps116 fun h => ?_; unfold f_bytes_Buffer_Bytes at h; refine z3 ?_; refine zp ?_; refine z2 (AW.seq ?_)
 refine AW.drawn0 (fun i => ([0, 0, 0, 3, 0, 0, 0, 3, 0, 0] : List Nat).getD i 2) [] [0, 1, 2, 4, 5, 6, 3, 7, 8, 9] mixed (by decide +kernel) ?_
 refine zq ?_; obtain ⟨p0, hc, h⟩ := h
 refine Dp rfl rfl rfl rfl (V_nil rfl (by rw [← hc]; rfl)) ?_
 refine zg underlying198 ty30 ?_; refine zq ?_; obtain ⟨p1, hc, h⟩ := h
 refine Dp rfl rfl rfl rfl (V_nil rfl (by rw [← hc]; rfl)) ?_
 refine zg underlying198 ty3 ?_; obtain ⟨u2, hc, h⟩ := h
 refine Dr rfl rfl rfl rfl (R_ld rfl underlying30 rfl rfl hc) ?_
 obtain ⟨u3, hc, h⟩ := h
 refine Dr rfl rfl rfl rfl (R_ld rfl underlying3 rfl rfl hc) ?_
 obtain ⟨hc, h⟩ := h
 refine Dp rfl rfl rfl rfl (V_slL (lo := (some u3)) (hi := none) rfl underlying30 ty5 rfl (optI_some rfl) optI_none hc) ?_
 refine zq ?_; refine Dend ?_
 refine thenN ?_; refine AW.ret ?_; exact bR1 results116 rfl ⟨_, rfl, h⟩
def f_bytes_Buffer_tryGrowByReslice (B : World) (ro : AH) (a0 : Option Addr) (a1 : Int) (σ : AH) (Q : Int → Bool → AH → Prop) : Prop :=
 ∃ p0, a0 = some p0 ∧
 ∃ u1, acell ro σ p0 = some (Sl.v u1) ∧
 ∃ p2, a0 = some p2 ∧
 ∃ u3, acell ro σ p2 = some (Sl.v u3) ∧
 awp prog ro (Builtin.cap_ #[30] 3 #[Sl.v u3]) (fun v σ => ∃ (u4 : Int), v = .int .i64 u4 ∧
 if a1 ≤ (i64.wrap (u4 - (u1.len : Int))) then
  ∃ p5, a0 = some p5 ∧
  ∃ u6, acell ro σ p5 = some (Sl.v u6) ∧
  cutOk none (some (i64.wrap ((u1.len : Int) + a1))) u6.len u6.cap ∧
  ∃ p7, a0 = some p7 ∧
  stN p7 (fun σ =>
  Q (u1.len : Int) true σ) [Sl.v (⟨cutA u6.a (0) u6.cap 1, Int.toNat (i64.wrap ((u1.len : Int) + a1)) - 0, u6.cap - 0⟩ : Sl)] 0 σ
 else
 Q 0 false σ) σ
theorem bytes_Buffer_tryGrowByReslice_ok {a0 : Option Addr} {a1 : Int} {Q : Int → Bool → AH → Prop} (h : Sep ro σ → f_bytes_Buffer_tryGrowByReslice B ro a0 a1 σ Q) : c_bytes_Buffer_tryGrowByReslice B ro a0 a1 σ Q := by
 refine zb h func137 ntmps137 fun h => ?_; unfold f_bytes_Buffer_tryGrowByReslice at h; refine z3 ?_; iterate 2 refine zp ?_
 refine z2 (AW.seq (z3 ?_))
 refine zp ?_; refine zN h fun p0 h => ?_; refine zf underlying198 ty30 ?_; refine zL underlying30 h fun u1 h => ?_; refine zm (V_lenL rfl rfl underlying30 rfl rfl) ?_; refine zp ?_; refine z4 ?_; iterate 2 refine zp ?_
 refine zN h fun p2 h => ?_; refine zf underlying198 ty30 ?_; refine zL underlying30 h fun u3 h => ?_; refine zl (X_bi (s := Builtin.cap_ #[30] 3 #[Sl.v u3]) rfl rfl (fun _ => rfl) (awp_mono _ h ?_))
 rintro v σ ⟨u4, rfl, h⟩; iterate 3 refine zp ?_
 refine z2 ?_; refine zi h (fun h => ?_) fun h => ?_
 rotate_left
 ·refine AW.skip ?_; refine thenN (z3 ?_); iterate 2 refine zp ?_
  refine z2 ?_; refine AW.ret ?_; exact bR2 results137 rfl rfl ⟨_, _, rfl, h⟩
 refine z3 ?_; iterate 2 refine zp ?_
 refine zN h fun p5 h => ?_; refine zf underlying198 ty30 ?_; refine zL underlying30 h fun u6 h => ?_; iterate 3 refine zp ?_
 obtain ⟨hc, h⟩ := h
 refine zm (V_slL (lo := none) (hi := (some (i64.wrap ((u1.len : Int) + a1)))) rfl underlying30 ty5 rfl optI_none (optI_some rfl) hc) ?_; refine zN h fun p7 h => ?_; refine zf underlying198 ty30 ?_; refine zs ty30 h fun σ h => ?_; refine z4 ?_; iterate 3 refine zp ?_
 refine z2 ?_; refine AW.ret ?_; refine thenR ?_; exact bR2 results137 rfl rfl ⟨_, _, rfl, h⟩
def j12_bytes_Buffer_grow (B : World) (ro : AH) (a0 : Option Addr) (a1 : Int) (u0 : Int) (Q : Int → AH → Prop) (σ : AH) : Prop :=
 ∃ p1, a0 = some p1 ∧
 stN (p1.add 1) (fun σ =>
 ∃ p2, a0 = some p2 ∧
 ∃ u3, acell ro σ p2 = some (Sl.v u3) ∧
 cutOk none (some (i64.wrap (u0 + a1))) u3.len u3.cap ∧
 ∃ p4, a0 = some p4 ∧
 stN p4 (fun σ =>
  Q u0 σ) [Sl.v (⟨cutA u3.a (0) u3.cap 1, Int.toNat (i64.wrap (u0 + a1)) - 0, u3.cap - 0⟩ : Sl)] 0 σ) [.int .i64 0] 0 σ
def j2_bytes_Buffer_grow (B : World) (ro : AH) (a0 : Option Addr) (a1 : Int) (u0 : Int) (Q : Int → AH → Prop) (σ : AH) : Prop :=
 c_bytes_Buffer_tryGrowByReslice B ro a0 a1 σ fun u1 u2 σ =>
 if u2 = true then
 Q u1 σ
 else
 ∃ p3, a0 = some p3 ∧
 ∃ u4, acell ro σ p3 = some (Sl.v u4) ∧
 if (u4.a = none) ∧ (a1 ≤ 64) then
 ((0 : Int) ≤ a1 ∧ a1 ≤ 64 ∧ (64 : Int) ≤ 281474976710656 ∧ 1 * (64 : Int) ≤ 281474976710656) ∧
 nw ro σ (.cells (zeros (.int .u8 0) (Int.toNat 64 * 1)) 5) fun u5 σ =>
 ∃ p6, a0 = some p6 ∧
 stN p6 (fun σ =>
  Q 0 σ) [Sl.v (⟨some ⟨u5, 0, none⟩, Int.toNat a1, Int.toNat 64⟩ : Sl)] 0 σ
 else
 ∃ p7, a0 = some p7 ∧
 ∃ u8, acell ro σ p7 = some (Sl.v u8) ∧
 awp prog ro (Builtin.cap_ #[30] 3 #[Sl.v u8]) (fun v σ => ∃ (u9 : Int), v = .int .i64 u9 ∧
 if a1 ≤ (i64.wrap ((i64.wrap (Int.tdiv u9 2)) - u0)) then
  ∃ p10, a0 = some p10 ∧
  ∃ p11, a0 = some p11 ∧
  ∃ p12, a0 = some p12 ∧
  ∃ u13, acell ro σ p10 = some (Sl.v u13) ∧
  ∃ u14, acell ro σ p11 = some (Sl.v u14) ∧
  ∃ u15, acell ro σ (p12.add 1) = some (.int .i64 u15) ∧
  cutOk (some u15) none u14.len u14.cap ∧
  awp prog ro (Builtin.copy_ #[30, 30] 3 #[Sl.v u13, Sl.v (⟨cutA u14.a (Int.toNat u15) u14.cap 1, u14.len - Int.toNat u15, u14.cap - Int.toNat u15⟩ : Sl)]) (fun v σ => ∃ (u16 : Int), v = .int .i64 u16 ∧
  j12_bytes_Buffer_grow B ro a0 a1 u0 Q σ) σ
 else
 if (i64.wrap ((i64.wrap (9223372036854775807 - u9)) - a1)) < u9 then
  False
 else
 ∃ p17, a0 = some p17 ∧
 ∃ p18, a0 = some p18 ∧
 ∃ p19, a0 = some p19 ∧
 ∃ u20, acell ro σ p17 = some (Sl.v u20) ∧
 ∃ u21, acell ro σ (p18.add 1) = some (.int .i64 u21) ∧
 cutOk (some u21) none u20.len u20.cap ∧
 ∃ u22, acell ro σ (p19.add 1) = some (.int .i64 u22) ∧
 c_bytes_growSlice B ro (⟨cutA u20.a (Int.toNat u21) u20.cap 1, u20.len - Int.toNat u21, u20.cap - Int.toNat u21⟩ : Sl) (i64.wrap (u22 + a1)) σ fun u23 σ =>
 ∃ p24, a0 = some p24 ∧
 stN p24 (fun σ =>
  j12_bytes_Buffer_grow B ro a0 a1 u0 Q σ) [Sl.v u23] 0 σ) σ
def j32_bytes_Buffer_grow (B : World) (ro : AH) (a0 : Option Addr) (a1 : Int) (u0 : Int) (Q : Int → AH → Prop) (u1 : Bool) (σ : AH) : Prop :=
 if u1 = true then
 c_bytes_Buffer_Reset B ro a0 σ fun σ =>
 j2_bytes_Buffer_grow B ro a0 a1 u0 Q σ
 else
 j2_bytes_Buffer_grow B ro a0 a1 u0 Q σ
def f_bytes_Buffer_grow (B : World) (ro : AH) (a0 : Option Addr) (a1 : Int) (σ : AH) (Q : Int → AH → Prop) : Prop :=
 c_bytes_Buffer_Len B ro a0 σ fun u0 σ =>
 if u0 = 0 then
 ∃ p1, a0 = some p1 ∧
 ∃ u2, acell ro σ (p1.add 1) = some (.int .i64 u2) ∧
 j32_bytes_Buffer_grow B ro a0 a1 u0 Q (!(decide (u2 = 0))) σ
 else
 j32_bytes_Buffer_grow B ro a0 a1 u0 Q false σ
theorem bytes_Buffer_grow_ok {a0 : Option Addr} {a1 : Int} {Q : Int → AH → Prop} (h : Sep ro σ → f_bytes_Buffer_grow B ro a0 a1 σ Q) : c_bytes_Buffer_grow B ro a0 a1 σ Q := by
 refine zb h func138 ntmps138 fun h => ?_; unfold f_bytes_Buffer_grow at h; refine z3 ?_; refine zp ?_; refine z4 ?_; refine zp ?_; refine zc func150 h ?_; rintro v σ ⟨u0, rfl, h⟩; refine zp ?_; refine z2 ?_; refine AW.seqJ (fun fr σ => FrLe [(0, .pointer a0), (1, .int .i64 a1), (5, .int .i64 u0)] fr ∧ j2_bytes_Buffer_grow B ro a0 a1 u0 Q σ) ?_ ?_
 rotate_left
 ·refine z3 ?_; iterate 3 refine zp ?_
  refine LsplitJ 6 (decide (u0 = 0)) decide_eq_true_iff h (fun fr σ => ∃ (u1 : Bool), FrLe [(0, .pointer a0), (1, .int .i64 a1), (5, .int .i64 u0), (19, .bool u1)] fr ∧ j32_bytes_Buffer_grow B ro a0 a1 u0 Q u1 σ) ?_ ?_ ?_
  ·intro h e2 hk2; refine zy e2 ?_; obtain ⟨p2, hc, h⟩ := h
   refine Lypb (V_nil rfl (by rw [← hc]; rfl)) rfl rfl rfl rfl e2 ?_
   refine Lypb (V_fld rfl underlying198 rfl ty3 (by decide) rfl) rfl rfl rfl rfl e2 ?_
   obtain ⟨u3, hc, h⟩ := h
   refine Lyb rfl rfl rfl rfl e2 (X_ld rfl underlying3 rfl rfl hc ?_)
   refine zy e2 ?_; refine zk e2 ?_; exact hk2 _ _ ⟨_, FL, h⟩
  ·intro h e2 hk2; iterate 5 refine zn e2 ?_
   refine zk e2 ?_; exact hk2 _ _ ⟨_, FL, h⟩
  rintro fr σ ⟨u1, hl, h⟩; unfold j32_bytes_Buffer_grow at h; refine Lfr hl ?_
  refine z2 ?_; refine zj h (fun h => ?_) fun h => ?_
  rotate_left
  ·refine AW.skip ?_; refine thenN ?_; exact ⟨FL, h⟩
  refine AW.reg ?_; refine zp ?_; refine zc func151 h ?_; rintro v σ ⟨rfl, h⟩; refine z2 ?_; exact ⟨FL, h⟩
 rintro fr σ ⟨hl, h⟩; refine AW.weaken ?_ hl (HLe.refl _)
 unfold j2_bytes_Buffer_grow at h; refine AW.seq (z3 ?_); iterate 2 refine zp ?_
 refine zc func137 h ?_; rintro v σ ⟨u4, u5, rfl, h⟩; iterate 5 refine zp ?_
 refine z4 ?_; refine zp ?_; refine z2 ?_; refine zj h (fun h => ?_) fun h => ?_
 ·refine z3 ?_; iterate 2 refine zp ?_
  refine z2 ?_; refine AW.ret ?_; refine thenR ?_; exact bR1 results138 rfl ⟨_, rfl, h⟩
 refine AW.skip ?_; refine thenN (AW.seq (z3 ?_)); refine zp ?_; refine zN h fun p6 h => ?_; refine zf underlying198 ty30 ?_; refine zL underlying30 h fun u7 h => ?_; refine zm (V_eqL rfl underlying30 rfl rfl) ?_; refine zp ?_; refine Lsplit 3 u7.a.isNone [(0, .pointer a0), (1, .int .i64 a1), (5, .int .i64 u0), (38, .bool (u7.a.isNone && (decide (a1 ≤ 64))))] ?_ ?_ ?_
 ·intro e5 hk5
  refine zy e5 ?_; refine zy e5 ?_; refine zk e5 ?_; exact hk5 _ (Fe e5)
 ·intro e5 hk5
  iterate 2 refine zn e5 ?_
  refine zk e5 ?_; exact hk5 _ (Fe e5)
 intro fr hl
 refine Lfr hl ?_
 refine z2 ?_; refine AW.iff rfl (band_iff isNone_iff decide_eq_true_iff) h (fun h => ?_) (fun h => ?_)
 ·refine z3 ?_; iterate 2 refine zp ?_
  obtain ⟨⟨h0, h1, h2, h3⟩, h⟩ := h
  refine zA (A_mks rfl underlying30 ty5 rfl rfl h0 h1 h2 h3) h fun u8 h => ?_; refine zN h fun p9 h => ?_; refine zf underlying198 ty30 ?_; refine zs ty30 h fun σ h => ?_; refine z4 ?_; refine zp ?_; refine z2 ?_; refine AW.ret ?_; refine thenR ?_; exact bR1 results138 rfl ⟨_, rfl, h⟩
 refine AW.skip ?_; refine thenN (z3 ?_); refine zp ?_; refine zN h fun p10 h => ?_; refine zf underlying198 ty30 ?_; refine zL underlying30 h fun u11 h => ?_; refine zl (X_bi (s := Builtin.cap_ #[30] 3 #[Sl.v u11]) rfl rfl (fun _ => rfl) (awp_mono _ h ?_))
 rintro v σ ⟨u12, rfl, h⟩; refine zp ?_; refine z2 ?_; refine AW.seqJ (fun fr σ => FrLe [(0, .pointer a0), (1, .int .i64 a1), (5, .int .i64 u0)] fr ∧ j12_bytes_Buffer_grow B ro a0 a1 u0 Q σ) ?_ ?_
 ·rintro fr σ ⟨hl, h⟩; refine AW.weaken ?_ hl (HLe.refl _)
  unfold j12_bytes_Buffer_grow at h; refine z3 ?_; refine zp ?_; refine zN h fun p13 h => ?_; refine zf underlying198 ty3 ?_; refine zs ty3 h fun σ h => ?_; refine z4 ?_; iterate 2 refine zp ?_
  refine zN h fun p14 h => ?_; refine zf underlying198 ty30 ?_; refine zL underlying30 h fun u15 h => ?_; iterate 3 refine zp ?_
  obtain ⟨hc, h⟩ := h
  refine zm (V_slL (lo := none) (hi := (some (i64.wrap (u0 + a1)))) rfl underlying30 ty5 rfl optI_none (optI_some rfl) hc) ?_; refine zN h fun p16 h => ?_; refine zf underlying198 ty30 ?_; refine zs ty30 h fun σ h => ?_; refine z4 ?_; iterate 2 refine zp ?_
  refine z2 ?_; refine AW.ret ?_; exact bR1 results138 rfl ⟨_, rfl, h⟩
 refine z3 ?_; iterate 2 refine zp ?_
 refine zm (V_quo rfl rfl rfl (by decide)) ?_; iterate 3 refine zp ?_
 refine z2 ?_; refine zi h (fun h => ?_) fun h => ?_
 ·refine AW.drawn0 (fun i => ([0, 0, 0, 3, 0, 0, 0, 3, 0, 0, 0, 3, 0, 2] : List Nat).getD i 2) [(7, 12), (7, 13), (11, 12), (11, 13)] [0, 1, 2, 4, 5, 6, 8, 9, 10, 3, 7, 11, 12, 13] mixed (by decide +kernel) ?_
  refine zq ?_; obtain ⟨p17, hc, h⟩ := h
  refine Dp rfl rfl rfl rfl (V_nil rfl (by rw [← hc]; rfl)) ?_
  refine zg underlying198 ty30 ?_; refine zq ?_; obtain ⟨p18, hc, h⟩ := h
  refine Dp rfl rfl rfl rfl (V_nil rfl (by rw [← hc]; rfl)) ?_
  refine zg underlying198 ty30 ?_; refine zq ?_; obtain ⟨p19, hc, h⟩ := h
  refine Dp rfl rfl rfl rfl (V_nil rfl (by rw [← hc]; rfl)) ?_
  refine zg underlying198 ty3 ?_; obtain ⟨u20, hc, h⟩ := h
  refine Dr rfl rfl rfl rfl (R_ld rfl underlying30 rfl rfl hc) ?_
  obtain ⟨u21, hc, h⟩ := h
  refine Dr rfl rfl rfl rfl (R_ld rfl underlying30 rfl rfl hc) ?_
  obtain ⟨u22, hc, h⟩ := h
  refine Dr rfl rfl rfl rfl (R_ld rfl underlying3 rfl rfl hc) ?_
  obtain ⟨hc, h⟩ := h
  refine Dp rfl rfl rfl rfl (V_slL (lo := (some u22)) (hi := none) rfl underlying30 ty5 rfl (optI_some rfl) optI_none hc) ?_
  refine Dg rfl rfl rfl rfl (X_bi (s := Builtin.copy_ #[30, 30] 3 #[Sl.v u20, Sl.v (⟨cutA u21.a (Int.toNat u22) u21.cap 1, u21.len - Int.toNat u22, u21.cap - Int.toNat u22⟩ : Sl)]) rfl rfl (fun _ => rfl) (awp_mono _ h ?_))
  rintro v σ ⟨u23, rfl, h⟩; refine Dend ?_
  refine thenN ?_; exact ⟨FL, h⟩
 refine z3 ?_; iterate 6 refine zp ?_
 refine z2 ?_; refine zi h (fun h => ?_) fun h => ?_
 ·exact h.elim
 refine AW.drawn0 (fun i => ([0, 0, 0, 0, 3, 0, 0, 0, 3, 0, 0, 0, 0, 3, 0, 0, 2, 0, 0, 2] : List Nat).getD i 2) [(4, 9), (4, 16), (8, 9), (8, 16), (13, 15), (13, 16)] [0, 1, 2, 3, 5, 6, 7, 10, 11, 12, 14, 4, 8, 9, 13, 15, 16, 17, 18, 19] mixed (by decide +kernel) ?_
 iterate 2 refine zq ?_
 obtain ⟨p24, hc, h⟩ := h
 refine Dp rfl rfl rfl rfl (V_nil rfl (by rw [← hc]; rfl)) ?_
 refine zg underlying198 ty30 ?_; refine zq ?_; obtain ⟨p25, hc, h⟩ := h
 refine Dp rfl rfl rfl rfl (V_nil rfl (by rw [← hc]; rfl)) ?_
 refine zg underlying198 ty3 ?_; refine zq ?_; obtain ⟨p26, hc, h⟩ := h
 refine Dp rfl rfl rfl rfl (V_nil rfl (by rw [← hc]; rfl)) ?_
 refine zg underlying198 ty3 ?_; refine zq ?_; obtain ⟨u27, hc, h⟩ := h
 refine Dr rfl rfl rfl rfl (R_ld rfl underlying30 rfl rfl hc) ?_
 obtain ⟨u28, hc, h⟩ := h
 refine Dr rfl rfl rfl rfl (R_ld rfl underlying3 rfl rfl hc) ?_
 obtain ⟨hc, h⟩ := h
 refine Dp rfl rfl rfl rfl (V_slL (lo := (some u28)) (hi := none) rfl underlying30 ty5 rfl (optI_some rfl) optI_none hc) ?_
 obtain ⟨u29, hc, h⟩ := h
 refine Dr rfl rfl rfl rfl (R_ld rfl underlying3 rfl rfl hc) ?_
 refine zq ?_; refine Dg rfl rfl rfl rfl (X_call rfl func152 rfl rfl rfl (ACalls.mono h ?_))
 rintro v σ ⟨u30, rfl, h⟩; obtain ⟨p31, hc, h⟩ := h
 refine Dp rfl rfl rfl rfl (V_nil rfl (by rw [← hc]; rfl)) ?_
 refine zg underlying198 ty30 ?_; refine Dg rfl rfl rfl rfl (X_st rfl ty30 rfl rfl rfl rfl (stN_mono h fun σ h => ?_))
 refine Dend ?_
 refine thenN ?_; exact ⟨FL, h⟩
def f_bytes_Buffer_Len (B : World) (ro : AH) (a0 : Option Addr) (σ : AH) (Q : Int → AH → Prop) : Prop :=
 ∃ p0, a0 = some p0 ∧
 ∃ p1, a0 = some p1 ∧
 ∃ u2, acell ro σ p0 = some (Sl.v u2) ∧
 ∃ u3, acell ro σ (p1.add 1) = some (.int .i64 u3) ∧
 Q (i64.wrap ((u2.len : Int) - u3)) σ
theorem bytes_Buffer_Len_ok {a0 : Option Addr} {Q : Int → AH → Prop} (h : Sep ro σ → f_bytes_Buffer_Len B ro a0 σ Q) : c_bytes_Buffer_Len B ro a0 σ Q := by
 refine zb h func150 ntmps150 fun h => ?_; unfold f_bytes_Buffer_Len at h; refine z3 ?_; refine zp ?_; refine z2 (AW.seq ?_)
 refine AW.drawn0 (fun i => ([0, 0, 0, 3, 0, 0, 0, 0, 3, 0, 0] : List Nat).getD i 2) [] [0, 1, 2, 5, 6, 7, 3, 4, 8, 9, 10] mixed (by decide +kernel) ?_
 refine zq ?_; obtain ⟨p0, hc, h⟩ := h
 refine Dp rfl rfl rfl rfl (V_nil rfl (by rw [← hc]; rfl)) ?_
 refine zg underlying198 ty30 ?_; refine zq ?_; obtain ⟨p1, hc, h⟩ := h
 refine Dp rfl rfl rfl rfl (V_nil rfl (by rw [← hc]; rfl)) ?_
 refine zg underlying198 ty3 ?_; obtain ⟨u2, hc, h⟩ := h
 refine Dr rfl rfl rfl rfl (R_ld rfl underlying30 rfl rfl hc) ?_
 refine Dp rfl rfl rfl rfl (V_lenL rfl rfl underlying30 rfl rfl) ?_
 obtain ⟨u3, hc, h⟩ := h
 refine Dr rfl rfl rfl rfl (R_ld rfl underlying3 rfl rfl hc) ?_
 iterate 2 refine zq ?_
 refine Dend ?_
 refine thenN ?_; refine AW.ret ?_; exact bR1 results150 rfl ⟨_, rfl, h⟩
end G
namespace Wi
open Go SL G Zt
variable {B : World} {ro σ σ' : AH} {tag tag' : Nat → Nat}
theorem vU_one (d : Str) : ∀ v ∈ d.map vU, v.oneCell' = true := fun v hv => by
 obtain ⟨c, _, rfl⟩ := List.mem_map.1 hv; rfl
theorem vU_st (d : Str) : ∀ v ∈ d.map vU, storable v = true := fun v hv => by
 obtain ⟨c, _, rfl⟩ := List.mem_map.1 hv; rfl
theorem growSlice_ok {q n : Nat} {s : Sl} {l : List Value} {Q : Sl → AH → Prop} (h : Row tag σ q 5 s l) (hn : 1 ≤ n) (hl : l.length + n ≤ 140737488355328) (hc : s.cap ≤ 140737488355328) (h1 : ∀ v ∈ l, v.oneCell' = true)
  (hQ : ∀ s' tag' σ', (∀ R, Step R ro tag σ tag' σ') → Row tag' σ' q 5 s' l → l.length + n ≤ s'.cap → s'.cap ≤ 9223372036854775807 → Q s' σ') : c_bytes_growSlice B ro s (n : Int) σ Q := by
 refine ACalls.of_calls fun w hw hsep => ?_
 rcases h with ⟨rfl, rfl⟩ | ⟨b, cs, ha, htg, hbk, hln, hcp, hle, hg⟩
 ·refine (Tryz.bytes_growSlice_nil n w hn (by simpa using hl)).mono ?_
  rintro e w' ⟨cap2, cells, he, hw', hsz, hroom, hmx, hb⟩
  obtain ⟨N, tag', hN, hst, hrow⟩ := new_row (tag := tag) q hw hsep (Nat.le_refl _) hw'
  exact ⟨_, N, he, hb, hN, ⟨some ⟨w.heap.size, 0, none⟩, 0, cap2⟩, rfl, hQ _ tag' _ hst (hrow 0 cap2 [] rfl hsz.symm (Nat.zero_le _) (by simp)) (by simpa using hroom) (by simpa [maxLen] using hmx)⟩
 ·have hcur : w.heap[b]? = some (.cells cs 5 (0, 0)) := hw b _ (by unfold rd; rw [hsep b _ hbk]; exact hbk)
  have htake : cs.toList.take s.len = l := by
   apply List.ext_getElem?
   intro i
   rw [List.getElem?_take]
   split
   ·rw [Array.getElem?_toList]; exact hg i (by omega)
   ·rw [List.getElem?_eq_none (by omega)]
  have := Tryz.bytes_growSlice_row b s.len s.cap n cs w hcur hcp.symm hle hn (by rw [hln]; exact hl) hc (by rw [htake]; exact h1)
  unfold Sl.v
  rw [ha]
  refine this.mono ?_
  rintro e w' ⟨cap2, cells, he, hw', hsz, htk, hroom, hmx, hb⟩
  obtain ⟨N, tag', hN, hst, hrow⟩ := new_row (tag := tag) q hw hsep (Nat.le_refl _) hw'
  exact ⟨_, N, he, hb, hN, ⟨some ⟨w.heap.size, 0, none⟩, s.len, cap2⟩, rfl, hQ _ tag' _ hst (hrow s.len cap2 l hln hsz.symm (by omega) (by rw [htk, htake])) (by simp only; omega) (by simpa [maxLen] using hmx)⟩
def BufV (tag : Nat → Nat) (σ : AH) (r W : Nat) (s : Sl) (l : List Value) (bad : Bool) : Prop :=
 s.cap ≤ 9223372036854775807 ∧ ∃ lr : Int, Row tag σ r 202 ⟨some ⟨W, 0, none⟩, 4, 4⟩ [Sl.v s, .int .i64 0, .int .i8 lr, .bool bad] ∧ Row tag σ (r + 64) 5 s l
def BufAt (tag : Nat → Nat) (σ : AH) (r W : Nat) (acc : Str) (bad : Bool) : Prop := ∃ s, BufV tag σ r W s (acc.map vU) bad
theorem BufV.keep {R : List Nat} {r W : Nat} {s : Sl} {l : List Value} {bad : Bool} (h : BufV tag σ r W s l bad) (k : Step R ro tag σ tag' σ') (h1 : r ∉ R := by simp) (h2 : r + 64 ∉ R := by simp) : BufV tag' σ' r W s l bad := by
 obtain ⟨hc, lr, a, b⟩ := h
 exact ⟨hc, lr, a.keep k h1, b.keep k h2⟩
theorem BufAt.keep {R : List Nat} {r W : Nat} {acc : Str} {bad : Bool} (h : BufAt tag σ r W acc bad) (k : Step R ro tag σ tag' σ') (h1 : r ∉ R := by simp) (h2 : r + 64 ∉ R := by simp) : BufAt tag' σ' r W acc bad := by
 obtain ⟨s, h⟩ := h
 exact ⟨s, h.keep k h1 h2⟩
theorem tryGrow_ok {r W n : Nat} {s : Sl} {l : List Value} {bad : Bool} {Q : Int → Bool → AH → Prop} (h : BufV tag σ r W s l bad) (hs : SL.Sep ro σ) (hl : l.length + n ≤ 140737488355328)
  (hyes : l.length + n ≤ s.cap → ∀ s' xs σ', Step [r] ro tag σ tag σ' → xs.length = n → BufV tag σ' r W s' (l ++ xs) bad → Q l.length true σ') (hno : s.cap < l.length + n → Q 0 false σ) :
  c_bytes_Buffer_tryGrowByReslice B ro (some ⟨W, 0, none⟩) (n : Int) σ Q := by
 refine bytes_Buffer_tryGrowByReslice_ok fun _ => ?_
 unfold f_bytes_Buffer_tryGrowByReslice
 obtain ⟨hcap, lr, h1, h2⟩ := h
 obtain ⟨p, hp, hg⟩ := h1.ptr hs (by simp)
 cases hp
 have hln := h2.len
 have hc := h2.capAt
 refine ⟨_, rfl, s, hg 0 _ rfl, _, rfl, s, hg 0 _ rfl, ?_⟩
 refine awp_cap u30 ⟨_, rfl, ?_⟩
 rw [w64_eq (by omega) (by omega)]
 by_cases hroom : l.length + n ≤ s.cap
 ·rw [if_pos (by omega)]
  have e : (⟨cutA s.a 0 s.cap 1, Int.toNat (i64.wrap ((s.len : Int) + (n : Int))) - 0, s.cap - 0⟩ : Sl) = ⟨s.a, l.length + n, s.cap⟩ := by
   rw [cutA_zero, hln, w64_eq (by omega) (by omega)]
   simp only [Nat.sub_zero, Sl.mk.injEq, true_and, and_true]; omega
  refine ⟨_, rfl, s, hg 0 _ rfl, ⟨?_, trivial⟩, _, rfl, ?_⟩
  ·simp only
   rw [w64_eq (by omega) (by omega)]; omega
  rw [e, hln]
  refine h1.st (i := 0) hs rfl (by simp) rfl fun σ2 st2 r2 => ?_
  obtain ⟨xs, hx, h3⟩ := h2.more hroom
  exact hyes hroom ⟨s.a, l.length + n, s.cap⟩ xs σ2 st2 hx ⟨hcap, lr, r2, h3.keep st2⟩
 ·rw [if_neg (by omega)]
  exact hno (by omega)
theorem grow_ok {r W n : Nat} {s : Sl} {l : List Value} {bad : Bool} {Q : Int → AH → Prop} (h : BufV tag σ r W s l bad) (hs : SL.Sep ro σ) (hl : l.length + n ≤ 140737488355328) (hfull : s.cap < l.length + n) (h1c : ∀ v ∈ l, v.oneCell' = true)
  (hQ : ∀ s' xs tag' σ', Step [r, r + 64] ro tag σ tag' σ' → xs.length = n → BufV tag' σ' r W s' (l ++ xs) bad → Q l.length σ') :
  c_bytes_Buffer_grow B ro (some ⟨W, 0, none⟩) (n : Int) σ Q := by
 refine bytes_Buffer_grow_ok fun _ => ?_
 unfold f_bytes_Buffer_grow
 obtain ⟨hcap, lr, h1, h2⟩ := id h
 obtain ⟨p, hp, hg⟩ := h1.ptr hs (by simp)
 cases hp
 have hln := h2.len
 have hc := h2.capAt
 refine bytes_Buffer_Len_ok fun _ => ?_
 unfold f_bytes_Buffer_Len
 refine ⟨_, rfl, _, rfl, s, hg 0 _ rfl, 0, hg 1 _ rfl, ?_⟩
 rw [Int.sub_zero, w64_eq (by omega) (by omega), hln]
 dsimp only
 suffices hj : j2_bytes_Buffer_grow B ro (some ⟨W, 0, none⟩) (n : Int) (l.length : Int) Q σ by
  by_cases h0 : (l.length : Int) = 0
  ·rw [if_pos h0]
   refine ⟨_, rfl, 0, hg 1 _ rfl, ?_⟩
   unfold j32_bytes_Buffer_grow
   rw [if_neg (by decide)]
   exact hj
  ·rw [if_neg h0]
   unfold j32_bytes_Buffer_grow
   rw [if_neg (by decide)]
   exact hj
 unfold j2_bytes_Buffer_grow
 refine tryGrow_ok h hs hl (fun hroom => absurd hroom (by omega)) fun _ => ?_
 rw [if_neg (by decide)]
 refine ⟨_, rfl, s, hg 0 _ rfl, ?_⟩
 by_cases hsmall : s.a = none ∧ (n : Int) ≤ 64
 ·rw [if_pos hsmall]
  have hnil : s = ⟨none, 0, 0⟩ ∧ l = [] := by
   rcases h2 with h | ⟨b, cs, ha, _⟩
   ·exact h
   ·rw [hsmall.1] at ha; cases ha
  obtain ⟨rfl, rfl⟩ := hnil
  have hn64 := hsmall.2
  refine ⟨⟨by omega, hn64, by decide, by decide⟩, ?_⟩
  refine nw_row (tag := tag) (r + 64) (zv := .int .u8 0) (n := 64) hs rfl fun x tag1 σ1 st1 r1 => ?_
  refine ⟨_, rfl, ?_⟩
  have r1' : Row tag1 σ1 (r + 64) 5 ⟨some ⟨x, 0, none⟩, n, 64⟩ ([] ++ (List.replicate 64 (Value.int .u8 0)).take n) := r1.take (n := n) (by simp; omega)
  have hx64 : (64 : Nat) ≤ 9223372036854775807 := by decide
  rw [Int.toNat_natCast]
  refine (h1.keep (st1 [])).st (i := 0) (st1 []).sep rfl (by simp) rfl fun σ2 st2 r2 => ?_
  refine hQ ⟨some ⟨x, 0, none⟩, n, 64⟩ ((List.replicate 64 (Value.int .u8 0)).take n) tag1 σ2 (((st1 _).trans (st2.mono (by simp)))) (by simp; omega) ⟨hx64, lr, r2, r1'.keep st2⟩
 ·rw [if_neg hsmall]
  refine ⟨_, rfl, s, hg 0 _ rfl, ?_⟩
  refine awp_cap u30 ⟨_, rfl, ?_⟩
  have hd : Int.tdiv (s.cap : Int) 2 = ((s.cap / 2 : Nat) : Int) := by
   rw [Int.tdiv_eq_ediv_of_nonneg (by omega)]; omega
  rw [hd, w64_eq (n := ((s.cap / 2 : Nat) : Int)) (by omega) (by omega), w64_eq (n := ((s.cap / 2 : Nat) : Int) - (l.length : Int)) (by omega) (by omega), if_neg (by omega), w64_eq (n := 9223372036854775807 - (s.cap : Int)) (by omega) (by omega), w64_eq (n := 9223372036854775807 - (s.cap : Int) - (n : Int)) (by omega) (by omega), if_neg (by omega)]
  refine ⟨_, rfl, _, rfl, _, rfl, s, hg 0 _ rfl, 0, hg 1 _ rfl, ?_, 0, hg 1 _ rfl, ?_⟩
  ·exact ⟨trivial, by decide, by simp only [cutHi]; omega⟩
  rw [Int.zero_add, w64_eq (by omega) (by omega), show (⟨cutA s.a (Int.toNat 0) s.cap 1, s.len - Int.toNat 0, s.cap - Int.toNat 0⟩ : Sl) = s from by rw [show Int.toNat 0 = 0 from rfl, cutA_zero]; rfl]
  refine growSlice_ok h2 (by omega) hl (by omega) h1c fun s1 tag1 σ1 st1 r1 hc1 hc2 => ?_
  refine ⟨_, rfl, ?_⟩
  refine (h1.keep (st1 [])).st (i := 0) (st1 []).sep rfl (by simp) rfl fun σ2 st2 r2 => ?_
  unfold j12_bytes_Buffer_grow
  refine ⟨_, rfl, ?_⟩
  refine r2.st (i := 1) st2.sep rfl (by simp) rfl fun σ3 st3 r3 => ?_
  obtain ⟨p3, hp3, hg3⟩ := r3.ptr st3.sep (by simp)
  cases hp3
  have e : (⟨cutA s1.a 0 s1.cap 1, Int.toNat (i64.wrap ((l.length : Int) + (n : Int))) - 0, s1.cap - 0⟩ : Sl) = ⟨s1.a, l.length + n, s1.cap⟩ := by
   rw [cutA_zero, w64_eq (by omega) (by omega)]
   simp only [Nat.sub_zero, Sl.mk.injEq, true_and, and_true]; omega
  refine ⟨_, rfl, s1, hg3 0 _ rfl, ⟨?_, trivial⟩, _, rfl, ?_⟩
  ·simp only
   rw [w64_eq (by omega) (by omega)]; omega
  rw [e]
  refine r3.st (i := 0) st3.sep rfl (by simp) rfl fun σ4 st4 r4 => ?_
  obtain ⟨xs, hx, r5⟩ := r1.more (n := n) hc1
  refine hQ ⟨s1.a, l.length + n, s1.cap⟩ xs tag1 σ4 ((st1 _).trans ((st2.mono (by simp)).trans ((st3.mono (by simp)).trans (st4.mono (by simp))))) hx ⟨hc2, lr, r4, ((r5.keep st2).keep st3).keep st4⟩
theorem ty5' : TyIs prog 5 (.int .u8 0) 1 1 := TyIs.of (by kernel_rfl)
theorem bufCopy {r W : Nat} {s : Sl} {acc d : Str} {xs : List Value} {bad : Bool} {x : Value} {t2 : TypeId} {Q : Int → AH → Prop} (h : BufV tag σ r W s (acc.map vU ++ xs) bad) (hs : SL.Sep ro σ) (hx : xs.length = d.length) (hsrc : Src prog ro σ x (d.map vU))
  (hQ : ∀ n σ', Step [r + 64] ro tag σ tag σ' → BufAt tag σ' r W (acc ++ d) bad → Q n σ') :
  ∃ p25_6 : Addr, (some ⟨W, 0, none⟩ : Option Addr) = some p25_6 ∧ ∃ (x27_7 : Sl), acell ro σ p25_6 = some (Sl.v x27_7) ∧ cutOk (some (acc.length : Int)) none x27_7.len x27_7.cap ∧
   awp prog ro (Builtin.copy_ #[30, t2] 3 #[Sl.v (⟨cutA x27_7.a (Int.toNat (acc.length : Int)) x27_7.cap 1, x27_7.len - Int.toNat (acc.length : Int), x27_7.cap - Int.toNat (acc.length : Int)⟩ : Sl), x]) (fun v σ => ∃ (x31_8 : Int), v = .int .i64 x31_8 ∧ Q x31_8 σ) σ := by
 obtain ⟨hcap, lr, h1, h2⟩ := h
 obtain ⟨p, hp, hg⟩ := h1.ptr hs (by simp)
 cases hp
 have hln := h2.len
 simp only [List.length_append, List.length_map] at hln
 refine ⟨_, rfl, s, hg 0 _ rfl, ⟨trivial, by omega, by simp only [cutHi]; omega⟩, ?_⟩
 rw [Int.toNat_natCast]
 refine awp_copyTail h2 hs u30 ty5' hsrc (by simp; omega) (vU_st d) fun σ1 st1 r1 => ?_
 refine ⟨_, rfl, hQ _ σ1 st1 ⟨s, hcap, lr, h1.keep st1, ?_⟩⟩
 rw [List.take_left' (by simp)] at r1
 rw [List.map_append]; exact r1
theorem bufWrite_ok {r W : Nat} {acc d : Str} {s : Sl} {bad : Bool} {Q : Int → Value → AH → Prop} (h : BufAt tag σ r W acc bad) (hs : SL.Sep ro σ) (hl : acc.length + d.length ≤ 140737488355328) (hd : s.len = d.length)
  (hsrc : ∀ tag' σ', Step [r, r + 64] ro tag σ tag' σ' → SL.Read ro σ' s (d.map vU)) (hQ : ∀ n v tag' σ', Step [r, r + 64] ro tag σ tag' σ' → BufAt tag' σ' r W (acc ++ d) bad → Q n v σ') :
  c_bytes_Buffer_Write B ro (some ⟨W, 0, none⟩) s σ Q := by
 refine bytes_Buffer_Write_ok fun _ => ?_
 unfold f_bytes_Buffer_Write
 obtain ⟨s0, hcap, lr, h1, h2⟩ := h
 refine ⟨_, rfl, ?_⟩
 refine h1.st (i := 2) hs rfl (by simp) rfl fun σ1 st1 r1 => ?_
 have hb : BufV tag σ1 r W s0 (acc.map vU) bad := ⟨hcap, 0, r1, h2.keep st1⟩
 rw [hd]
 refine tryGrow_ok hb st1.sep (by simpa using hl) (fun hroom s2 xs σ2 st2 hx hb2 => ?_) fun hno => ?_
 ·rw [if_neg (by simp)]
  unfold j4_bytes_Buffer_Write
  have st12 : Step [r, r + 64] ro tag σ tag σ2 := (st1.mono (by simp)).trans (st2.mono (by simp))
  rw [List.length_map]
  exact bufCopy (t2 := 30) (Q := fun n σ => Q n .nilIface σ) hb2 st2.sep hx (hsrc _ _ st12).src fun n σ3 st3 h3 => hQ n _ tag σ3 (st12.trans (st3.mono (by simp))) h3
 ·rw [if_pos (by simp)]
  refine grow_ok hb st1.sep (by simpa using hl) hno (vU_one acc) fun s2 xs tag2 σ2 st2 hx hb2 => ?_
  unfold j4_bytes_Buffer_Write
  have st12 : Step [r, r + 64] ro tag σ tag2 σ2 := (st1.mono (by simp)).trans st2
  rw [List.length_map]
  exact bufCopy (t2 := 30) (Q := fun n σ => Q n .nilIface σ) hb2 st2.sep hx (hsrc _ _ st12).src fun n σ3 st3 h3 => hQ n _ tag2 σ3 (st12.trans (st3.mono (by simp))) h3
theorem bufWriteStr_ok {r W : Nat} {acc : Str} {b : ByteArray} {bad : Bool} {Q : Int → Value → AH → Prop} (h : BufAt tag σ r W acc bad) (hs : SL.Sep ro σ) (hl : acc.length + (L b).length ≤ 140737488355328)
  (hQ : ∀ n v tag' σ', Step [r, r + 64] ro tag σ tag' σ' → BufAt tag' σ' r W (acc ++ L b) bad → Q n v σ') :
  c_bytes_Buffer_WriteString B ro (some ⟨W, 0, none⟩) b σ Q := by
 refine bytes_Buffer_WriteString_ok fun _ => ?_
 unfold f_bytes_Buffer_WriteString
 obtain ⟨s0, hcap, lr, h1, h2⟩ := h
 refine ⟨_, rfl, ?_⟩
 refine h1.st (i := 2) hs rfl (by simp) rfl fun σ1 st1 r1 => ?_
 have hb : BufV tag σ1 r W s0 (acc.map vU) bad := ⟨hcap, 0, r1, h2.keep st1⟩
 rw [show (b.size : Int) = ((L b).length : Nat) from rfl]
 refine tryGrow_ok hb st1.sep (by simpa using hl) (fun hroom s2 xs σ2 st2 hx hb2 => ?_) fun hno => ?_
 ·rw [if_neg (by simp)]
  unfold j4_bytes_Buffer_WriteString
  have st12 : Step [r, r + 64] ro tag σ tag σ2 := (st1.mono (by simp)).trans (st2.mono (by simp))
  rw [List.length_map]
  exact bufCopy (t2 := 9) (Q := fun n σ => Q n .nilIface σ) hb2 st2.sep hx (str_src b) fun n σ3 st3 h3 => hQ n _ tag σ3 (st12.trans (st3.mono (by simp))) h3
 ·rw [if_pos (by simp)]
  refine grow_ok hb st1.sep (by simpa using hl) hno (vU_one acc) fun s2 xs tag2 σ2 st2 hx hb2 => ?_
  unfold j4_bytes_Buffer_WriteString
  have st12 : Step [r, r + 64] ro tag σ tag2 σ2 := (st1.mono (by simp)).trans st2
  rw [List.length_map]
  exact bufCopy (t2 := 9) (Q := fun n σ => Q n .nilIface σ) hb2 st2.sep hx (str_src b) fun n σ3 st3 h3 => hQ n _ tag2 σ3 (st12.trans (st3.mono (by simp))) h3
end Wi
namespace G
open Go SL
variable {B : World} {ro σ : AH}
def f_wire_NewWriter (B : World) (ro : AH) (σ : AH) (Q : Option Addr → AH → Prop) : Prop :=
 nw ro σ (.cells #[Sl.v (⟨none, 0, 0⟩ : Sl), .int .i64 0, .int .i8 0, .bool false] 202) fun u0 σ =>
 Q (some ⟨u0, 0, none⟩) σ
theorem wire_NewWriter_ok {Q : Option Addr → AH → Prop} (h : Sep ro σ → f_wire_NewWriter B ro σ Q) : c_wire_NewWriter B ro σ Q := by
 refine zb h func66 ntmps66 fun h => ?_; unfold f_wire_NewWriter at h; refine z3 ?_; refine zp ?_; refine z4 ?_; refine zm (V_bld (vs := []) (cs := #[Sl.v (⟨none, 0, 0⟩ : Sl), .int .i64 0, .int .i8 0, .bool false]) rfl underlying202 ty202 pl202 rfl rfl) ?_; refine zA (A_box rfl rfl) h fun u0 h => ?_; refine zp ?_; refine z2 ?_; refine AW.ret ?_; exact bR1 results66 rfl ⟨_, rfl, h⟩
def l1_wire_Writer_Texts (B : World) (ro : AH) (a0 : Option Addr) (a1 : Sl) (Q : AH → Prop) : (Int) → AH → ((Int) → AH → Prop) → Prop := fun u0 σ Y1 =>
 if u0 < (a1.len : Int) then
 ∃ p1, a1.a = some p1 ∧ (0 : Int) ≤ u0 ∧ u0 < (a1.len : Int) ∧
 ∃ u2, acell ro σ (p1.add (Int.toNat u0 * 1)) = some (.string u2) ∧
 ∃ p3, a0 = some p3 ∧
 c_wire_buffer_num B ro (some p3) (u2.size : Int) σ fun σ =>
 ∃ p4, a0 = some p4 ∧
 c_bytes_Buffer_WriteString B ro (some p4) u2 σ fun u5 u6 σ =>
 Y1 (i64.wrap (u0 + 1)) σ
 else
 Q σ
def f_wire_Writer_Texts (B : World) (ro : AH) (a0 : Option Addr) (a1 : Sl) (σ : AH) (Q : AH → Prop) : Prop :=
 lfpD (l1_wire_Writer_Texts B ro a0 a1 Q ) (0) σ
theorem wire_Writer_Texts_ok {a0 : Option Addr} {a1 : Sl} {Q : AH → Prop} (h : Sep ro σ → f_wire_Writer_Texts B ro a0 a1 σ Q) : c_wire_Writer_Texts B ro a0 a1 σ Q := by
 refine zb h func67 ntmps67 fun h => ?_; unfold f_wire_Writer_Texts at h; refine z3 ?_; refine zp ?_; refine zm (V_lenL rfl rfl underlying25 rfl rfl) ?_; refine zp ?_; refine z2 (AW.block ?_)
 refine ARound.loop (fr' := [(0, .pointer a0), (6, Sl.v a1), (7, .int .i64 (a1.len : Int)), (8, .int .i64 0)]) ?_ FL
 refine h (fun u0 σ => ARound _ _ _ _ _ _ [(0, .pointer a0), (6, Sl.v a1), (7, .int .i64 (a1.len : Int)), (8, .int .i64 u0)] σ) ?_
 rintro u0 σ Y1 hY1 h
 show AW _ _ _ _ _ _ _ _
 unfold l1_wire_Writer_Texts at h; refine z3 ?_; refine zp ?_; refine z2 (AW.seq ?_)
 refine zi h (fun h => ?_) fun h => ?_
 rotate_left
 ·refine AW.exit ?_; refine thenE (thenE ?_); refine blockE ?_
  exact bN0 results67 ⟨rfl, h⟩
 refine AW.skip ?_; refine thenN (AW.seq (AW.block (z3 ?_))); obtain ⟨p1, ha, h0, h1, h⟩ := h
 refine zm (V_ixA rfl underlying25 ty9 (ixL rfl ha) rfl h0 h1) ?_; refine zL underlying9 h fun u2 h => ?_; refine zp ?_; refine z4 ?_; refine zp ?_; refine zN h fun p3 h => ?_; refine zf underlying202 ty200 ?_; refine zp ?_; refine zm (V_lenS rfl rfl underlying9 rfl rfl) ?_; refine zc func113 h ?_; rintro v σ ⟨rfl, h⟩; refine z2 (AW.reg ?_)
 refine zp ?_; refine zN h fun p4 h => ?_; refine zf underlying202 ty200 ?_; refine zf underlying200 ty198 ?_; refine zp ?_; refine zc func114 h ?_; rintro v σ ⟨u5, u6, rfl, h⟩; refine Lnil (blockN (thenN (AW.reg ?_))); iterate 2 refine zp ?_
 refine z2 ?_; refine ARound.head (fr' := [(0, .pointer a0), (6, Sl.v a1), (7, .int .i64 (a1.len : Int)), (8, .int .i64 (i64.wrap (u0 + 1)))]) ?_ FL
 exact hY1 _ _ h
def l1_wire_Writer_Blobs (B : World) (ro : AH) (a0 : Option Addr) (a1 : Sl) (Q : AH → Prop) : (Int) → AH → ((Int) → AH → Prop) → Prop := fun u0 σ Y1 =>
 if u0 < (a1.len : Int) then
 ∃ p1, a1.a = some p1 ∧ (0 : Int) ≤ u0 ∧ u0 < (a1.len : Int) ∧
 ∃ u2, acell ro σ (p1.add (Int.toNat u0 * 1)) = some (Sl.v u2) ∧
 ∃ p3, a0 = some p3 ∧
 c_wire_buffer_num B ro (some p3) (u2.len : Int) σ fun σ =>
 ∃ p4, a0 = some p4 ∧
 c_bytes_Buffer_Write B ro (some p4) u2 σ fun u5 u6 σ =>
 Y1 (i64.wrap (u0 + 1)) σ
 else
 Q σ
def f_wire_Writer_Blobs (B : World) (ro : AH) (a0 : Option Addr) (a1 : Sl) (σ : AH) (Q : AH → Prop) : Prop :=
 lfpD (l1_wire_Writer_Blobs B ro a0 a1 Q ) (0) σ
theorem wire_Writer_Blobs_ok {a0 : Option Addr} {a1 : Sl} {Q : AH → Prop} (h : Sep ro σ → f_wire_Writer_Blobs B ro a0 a1 σ Q) : c_wire_Writer_Blobs B ro a0 a1 σ Q := by
 refine zb h func68 ntmps68 fun h => ?_; unfold f_wire_Writer_Blobs at h; refine z3 ?_; refine zp ?_; refine zm (V_lenL rfl rfl underlying208 rfl rfl) ?_; refine zp ?_; refine z2 (AW.block ?_)
 refine ARound.loop (fr' := [(0, .pointer a0), (6, Sl.v a1), (7, .int .i64 (a1.len : Int)), (8, .int .i64 0)]) ?_ FL
 refine h (fun u0 σ => ARound _ _ _ _ _ _ [(0, .pointer a0), (6, Sl.v a1), (7, .int .i64 (a1.len : Int)), (8, .int .i64 u0)] σ) ?_
 rintro u0 σ Y1 hY1 h
 show AW _ _ _ _ _ _ _ _
 unfold l1_wire_Writer_Blobs at h; refine z3 ?_; refine zp ?_; refine z2 (AW.seq ?_)
 refine zi h (fun h => ?_) fun h => ?_
 rotate_left
 ·refine AW.exit ?_; refine thenE (thenE ?_); refine blockE ?_
  exact bN0 results68 ⟨rfl, h⟩
 refine AW.skip ?_; refine thenN (AW.seq (AW.block (z3 ?_))); obtain ⟨p1, ha, h0, h1, h⟩ := h
 refine zm (V_ixA rfl underlying208 ty30 (ixL rfl ha) rfl h0 h1) ?_; refine zL underlying30 h fun u2 h => ?_; refine zp ?_; refine z4 ?_; refine zp ?_; refine zN h fun p3 h => ?_; refine zf underlying202 ty200 ?_; refine zp ?_; refine zm (V_lenL rfl rfl underlying30 rfl rfl) ?_; refine zc func113 h ?_; rintro v σ ⟨rfl, h⟩; refine z2 (AW.reg ?_)
 refine zp ?_; refine zN h fun p4 h => ?_; refine zf underlying202 ty200 ?_; refine zf underlying200 ty198 ?_; refine zp ?_; refine zc func115 h ?_; rintro v σ ⟨u5, u6, rfl, h⟩; refine Lnil (blockN (thenN (AW.reg ?_))); iterate 2 refine zp ?_
 refine z2 ?_; refine ARound.head (fr' := [(0, .pointer a0), (6, Sl.v a1), (7, .int .i64 (a1.len : Int)), (8, .int .i64 (i64.wrap (u0 + 1)))]) ?_ FL
 exact hY1 _ _ h
def l1_wire_Writer_Nums (B : World) (ro : AH) (a0 : Option Addr) (a1 : Sl) (Q : AH → Prop) : (Int) → AH → ((Int) → AH → Prop) → Prop := fun u0 σ Y1 =>
 if u0 < (a1.len : Int) then
 ∃ p1, a1.a = some p1 ∧ (0 : Int) ≤ u0 ∧ u0 < (a1.len : Int) ∧
 ∃ u2, acell ro σ (p1.add (Int.toNat u0 * 1)) = some (.int .i64 u2) ∧
 ∃ p3, a0 = some p3 ∧
 c_wire_buffer_num B ro (some p3) u2 σ fun σ =>
 Y1 (i64.wrap (u0 + 1)) σ
 else
 Q σ
def f_wire_Writer_Nums (B : World) (ro : AH) (a0 : Option Addr) (a1 : Sl) (σ : AH) (Q : AH → Prop) : Prop :=
 lfpD (l1_wire_Writer_Nums B ro a0 a1 Q ) (0) σ
theorem wire_Writer_Nums_ok {a0 : Option Addr} {a1 : Sl} {Q : AH → Prop} (h : Sep ro σ → f_wire_Writer_Nums B ro a0 a1 σ Q) : c_wire_Writer_Nums B ro a0 a1 σ Q := by
 refine zb h func69 ntmps69 fun h => ?_; unfold f_wire_Writer_Nums at h; refine z3 ?_; refine zp ?_; refine zm (V_lenL rfl rfl underlying58 rfl rfl) ?_; refine zp ?_; refine z2 (AW.block ?_)
 refine ARound.loop (fr' := [(0, .pointer a0), (6, Sl.v a1), (7, .int .i64 (a1.len : Int)), (8, .int .i64 0)]) ?_ FL
 refine h (fun u0 σ => ARound _ _ _ _ _ _ [(0, .pointer a0), (6, Sl.v a1), (7, .int .i64 (a1.len : Int)), (8, .int .i64 u0)] σ) ?_
 rintro u0 σ Y1 hY1 h
 show AW _ _ _ _ _ _ _ _
 unfold l1_wire_Writer_Nums at h; refine z3 ?_; refine zp ?_; refine z2 (AW.seq ?_)
 refine zi h (fun h => ?_) fun h => ?_
 rotate_left
 ·refine AW.exit ?_; refine thenE (thenE ?_); refine blockE ?_
  exact bN0 results69 ⟨rfl, h⟩
 refine AW.skip ?_; refine thenN (AW.seq (AW.block (z3 ?_))); obtain ⟨p1, ha, h0, h1, h⟩ := h
 refine zm (V_ixA rfl underlying58 ty3 (ixL rfl ha) rfl h0 h1) ?_; refine zL underlying3 h fun u2 h => ?_; refine zp ?_; refine z2 (AW.reg ?_)
 refine zp ?_; refine zN h fun p3 h => ?_; refine zf underlying202 ty200 ?_; refine zp ?_; refine zc func113 h ?_; rintro v σ ⟨rfl, h⟩; refine Lnil (blockN (thenN (AW.reg ?_))); iterate 2 refine zp ?_
 refine z2 ?_; refine ARound.head (fr' := [(0, .pointer a0), (6, Sl.v a1), (7, .int .i64 (a1.len : Int)), (8, .int .i64 (i64.wrap (u0 + 1)))]) ?_ FL
 exact hY1 _ _ h
def f_wire_Writer_Out (B : World) (ro : AH) (a0 : Option Addr) (σ : AH) (Q : Sl → Int → AH → Prop) : Prop :=
 ∃ p0, a0 = some p0 ∧
 ∃ u1, acell ro σ (p0.add 3) = some (.bool u1) ∧
 if u1 = true then
 Q (⟨none, 0, 0⟩ : Sl) 10 σ
 else
 ∃ p2, a0 = some p2 ∧
 c_bytes_Buffer_Bytes B ro (some p2) σ fun u3 σ =>
 c_bytes_Clone B ro u3 σ fun u4 σ =>
 Q u4 0 σ
theorem wire_Writer_Out_ok {a0 : Option Addr} {Q : Sl → Int → AH → Prop} (h : Sep ro σ → f_wire_Writer_Out B ro a0 σ Q) : c_wire_Writer_Out B ro a0 σ Q := by
 refine zb h func70 ntmps70 fun h => ?_; unfold f_wire_Writer_Out at h; refine z3 ?_; iterate 2 refine zp ?_
 refine z2 (AW.seq (z3 ?_))
 refine zp ?_; refine zN h fun p0 h => ?_; refine zf underlying202 ty200 ?_; refine zf underlying200 ty4 ?_; refine zL underlying4 h fun u1 h => ?_; refine z2 ?_; refine zj h (fun h => ?_) fun h => ?_
 ·refine z3 ?_; iterate 2 refine zp ?_
  refine z2 ?_; refine AW.ret ?_; refine thenR ?_; exact bR2 results70 rfl rfl ⟨_, _, rfl, h⟩
 refine AW.skip ?_; refine thenN (z3 ?_); refine zp ?_; refine zN h fun p2 h => ?_; refine zf underlying202 ty200 ?_; refine zf underlying200 ty198 ?_; refine zc func116 h ?_; rintro v σ ⟨u3, rfl, h⟩; refine zc func61 h ?_; rintro v σ ⟨u4, rfl, h⟩; iterate 2 refine zp ?_
 refine z2 ?_; refine AW.ret ?_; exact bR2 results70 rfl rfl ⟨_, _, rfl, h⟩
def f_wire_NewReader (B : World) (ro : AH) (a0 : Sl) (σ : AH) (Q : Option Addr → AH → Prop) : Prop :=
 c_bytes_Clone B ro a0 σ fun u0 σ =>
 nw ro σ (.cells #[Sl.v u0, .int .i64 0] 213) fun u1 σ =>
 Q (some ⟨u1, 0, none⟩) σ
theorem wire_NewReader_ok {a0 : Sl} {Q : Option Addr → AH → Prop} (h : Sep ro σ → f_wire_NewReader B ro a0 σ Q) : c_wire_NewReader B ro a0 σ Q := by
 refine zb h func74 ntmps74 fun h => ?_; unfold f_wire_NewReader at h; refine z3 ?_; refine zp ?_; refine z4 ?_; refine zp ?_; refine zc func61 h ?_; rintro v σ ⟨u0, rfl, h⟩; refine zm (V_bld (vs := [(0, Sl.v u0)]) (cs := #[Sl.v u0, .int .i64 0]) rfl underlying213 ty213 pl213 rfl rfl) ?_; refine zA (A_box rfl rfl) h fun u1 h => ?_; refine zp ?_; refine z2 ?_; refine AW.ret ?_; exact bR1 results74 rfl ⟨_, rfl, h⟩
def f_wire_Reader_Left (B : World) (ro : AH) (a0 : Option Addr) (σ : AH) (Q : Int → AH → Prop) : Prop :=
 ∃ p0, a0 = some p0 ∧
 ∃ u1, acell ro σ p0 = some (Sl.v u1) ∧
 Q (u1.len : Int) σ
theorem wire_Reader_Left_ok {a0 : Option Addr} {Q : Int → AH → Prop} (h : Sep ro σ → f_wire_Reader_Left B ro a0 σ Q) : c_wire_Reader_Left B ro a0 σ Q := by
 refine zb h func75 ntmps75 fun h => ?_; unfold f_wire_Reader_Left at h; refine z3 ?_; refine zp ?_; refine z4 ?_; refine zp ?_; refine zN h fun p0 h => ?_; refine zf underlying213 ty30 ?_; refine zL underlying30 h fun u1 h => ?_; refine zm (V_lenL rfl rfl underlying30 rfl rfl) ?_; refine zp ?_; refine z2 ?_; refine AW.ret ?_; exact bR1 results75 rfl ⟨_, rfl, h⟩
def f_wire_Reader_Text (B : World) (ro : AH) (a0 : Option Addr) (σ : AH) (Q : ByteArray → AH → Prop) : Prop :=
 c_wire_Reader_Blob B ro a0 σ fun u0 σ =>
 awp prog ro (convert 30 9 (Sl.v u0)) (fun v σ =>
 (∃ (u1 : ByteArray), v = .string u1 ∧
  Q u1 σ)) σ
theorem wire_Reader_Text_ok {a0 : Option Addr} {Q : ByteArray → AH → Prop} (h : Sep ro σ → f_wire_Reader_Text B ro a0 σ Q) : c_wire_Reader_Text B ro a0 σ Q := by
 refine zb h func76 ntmps76 fun h => ?_; unfold f_wire_Reader_Text at h; refine z3 ?_; refine zp ?_; refine z4 ?_; refine zp ?_; refine zc func77 h ?_; rintro v σ ⟨u0, rfl, h⟩; refine zl (X_cvt rfl rfl (awp_mono _ h ?_))
 rintro v σ ⟨u1, rfl, h⟩; refine zp ?_; refine z2 ?_; refine AW.ret ?_; exact bR1 results76 rfl ⟨_, rfl, h⟩
def f_wire_Reader_Blob (B : World) (ro : AH) (a0 : Option Addr) (σ : AH) (Q : Sl → AH → Prop) : Prop :=
 ∃ p0, a0 = some p0 ∧
 ∃ u1, acell ro σ p0 = some (Sl.v u1) ∧
 c_wire_Reader_Num B ro a0 σ fun u2 σ =>
 ∃ p3, a0 = some p3 ∧
 ∃ u4, acell ro σ (p3.add 1) = some (.int .i64 u4) ∧
 if ¬ (u4 = 0) then
 Q (⟨none, 0, 0⟩ : Sl) σ
 else
 ∃ p5, a0 = some p5 ∧
 ∃ u6, acell ro σ p5 = some (Sl.v u6) ∧
 if (u6.len : Int) < u2 then
 ∃ p7, a0 = some p7 ∧
 stN (p7.add 1) (fun σ =>
  ∃ p8, a0 = some p8 ∧
  stN p8 (fun σ =>
  Q (⟨none, 0, 0⟩ : Sl) σ) [Sl.v u1] 0 σ) [.int .i64 12] 0 σ
 else
 ∃ p9, a0 = some p9 ∧
 ∃ u10, acell ro σ p9 = some (Sl.v u10) ∧
 cutOk none (some u2) u10.len u10.cap ∧
 c_bytes_Clone B ro (⟨cutA u10.a (0) u10.cap 1, Int.toNat u2 - 0, u10.cap - 0⟩ : Sl) σ fun u11 σ =>
 ∃ p12, a0 = some p12 ∧
 ∃ u13, acell ro σ p12 = some (Sl.v u13) ∧
 cutOk (some u2) none u13.len u13.cap ∧
 ∃ p14, a0 = some p14 ∧
 stN p14 (fun σ =>
 Q u11 σ) [Sl.v (⟨cutA u13.a (Int.toNat u2) u13.cap 1, u13.len - Int.toNat u2, u13.cap - Int.toNat u2⟩ : Sl)] 0 σ
theorem wire_Reader_Blob_ok {a0 : Option Addr} {Q : Sl → AH → Prop} (h : Sep ro σ → f_wire_Reader_Blob B ro a0 σ Q) : c_wire_Reader_Blob B ro a0 σ Q := by
 refine zb h func77 ntmps77 fun h => ?_; unfold f_wire_Reader_Blob at h; refine z3 ?_; refine zp ?_; refine z4 ?_; refine zp ?_; refine zN h fun p0 h => ?_; refine zf underlying213 ty30 ?_; refine zL underlying30 h fun u1 h => ?_; refine zp ?_; refine z4 ?_; refine zp ?_; refine zc func78 h ?_; rintro v σ ⟨u2, rfl, h⟩; refine zp ?_; refine z2 (AW.seq (z3 ?_))
 refine zp ?_; refine zN h fun p3 h => ?_; refine zf underlying213 ty26 ?_; refine zL underlying26 h fun u4 h => ?_; refine zp ?_; refine z2 ?_; refine AW.iff rfl (bnot_iff decide_eq_true_iff) h (fun h => ?_) (fun h => ?_)
 ·refine z3 ?_; refine zp ?_; refine z2 ?_; refine AW.ret ?_; refine thenR ?_; exact bR1 results77 rfl ⟨_, rfl, h⟩
 refine AW.skip ?_; refine thenN (AW.seq (z3 ?_)); iterate 2 refine zp ?_
 refine zN h fun p5 h => ?_; refine zf underlying213 ty30 ?_; refine zL underlying30 h fun u6 h => ?_; refine zm (V_lenL rfl rfl underlying30 rfl rfl) ?_; refine zp ?_; refine z2 ?_; refine zi h (fun h => ?_) fun h => ?_
 ·refine z3 ?_; iterate 3 refine zp ?_
  refine zN h fun p7 h => ?_; refine zf underlying213 ty26 ?_; refine zs ty26 h fun σ h => ?_; refine zN h fun p8 h => ?_; refine zf underlying213 ty30 ?_; refine zs ty30 h fun σ h => ?_; refine z4 ?_; refine zp ?_; refine z2 ?_; refine AW.ret ?_; refine thenR ?_; exact bR1 results77 rfl ⟨_, rfl, h⟩
 refine AW.skip ?_; refine thenN (z3 ?_); refine zp ?_; refine zN h fun p9 h => ?_; refine zf underlying213 ty30 ?_; refine zL underlying30 h fun u10 h => ?_; refine zp ?_; obtain ⟨hc, h⟩ := h
 refine zm (V_slL (lo := none) (hi := (some u2)) rfl underlying30 ty5 rfl optI_none (optI_some rfl) hc) ?_; refine zc func61 h ?_; rintro v σ ⟨u11, rfl, h⟩; refine zp ?_; refine z4 ?_; iterate 2 refine zp ?_
 refine zN h fun p12 h => ?_; refine zf underlying213 ty30 ?_; refine zL underlying30 h fun u13 h => ?_; refine zp ?_; obtain ⟨hc, h⟩ := h
 refine zm (V_slL (lo := (some u2)) (hi := none) rfl underlying30 ty5 rfl (optI_some rfl) optI_none hc) ?_; refine zN h fun p14 h => ?_; refine zf underlying213 ty30 ?_; refine zs ty30 h fun σ h => ?_; refine z4 ?_; iterate 2 refine zp ?_
 refine z2 ?_; refine AW.ret ?_; exact bR1 results77 rfl ⟨_, rfl, h⟩
def f_wire_Reader_Num (B : World) (ro : AH) (a0 : Option Addr) (σ : AH) (Q : Int → AH → Prop) : Prop :=
 ∃ p0, a0 = some p0 ∧
 ∃ u1, acell ro σ (p0.add 1) = some (.int .i64 u1) ∧
 if ¬ (u1 = 0) then
 Q 0 σ
 else
 ∃ p2, a0 = some p2 ∧
 ∃ u3, acell ro σ p2 = some (Sl.v u3) ∧
 c_wire_Number B ro u3 0 σ fun u4 u5 u6 σ =>
 ∃ p7, a0 = some p7 ∧
 stN (p7.add 1) (fun σ =>
 ∃ p8, a0 = some p8 ∧
 ∃ u9, acell ro σ p8 = some (Sl.v u9) ∧
 cutOk (some u5) none u9.len u9.cap ∧
 ∃ p10, a0 = some p10 ∧
 stN p10 (fun σ =>
  Q u4 σ) [Sl.v (⟨cutA u9.a (Int.toNat u5) u9.cap 1, u9.len - Int.toNat u5, u9.cap - Int.toNat u5⟩ : Sl)] 0 σ) [.int .i64 u6] 0 σ
theorem wire_Reader_Num_ok {a0 : Option Addr} {Q : Int → AH → Prop} (h : Sep ro σ → f_wire_Reader_Num B ro a0 σ Q) : c_wire_Reader_Num B ro a0 σ Q := by
 refine zb h func78 ntmps78 fun h => ?_; unfold f_wire_Reader_Num at h; refine z3 ?_; refine zp ?_; refine z2 (AW.seq (z3 ?_))
 refine zp ?_; refine zN h fun p0 h => ?_; refine zf underlying213 ty26 ?_; refine zL underlying26 h fun u1 h => ?_; refine zp ?_; refine z2 ?_; refine AW.iff rfl (bnot_iff decide_eq_true_iff) h (fun h => ?_) (fun h => ?_)
 ·refine z3 ?_; refine zp ?_; refine z2 ?_; refine AW.ret ?_; refine thenR ?_; exact bR1 results78 rfl ⟨_, rfl, h⟩
 refine AW.skip ?_; refine thenN (z3 ?_); refine zp ?_; refine zN h fun p2 h => ?_; refine zf underlying213 ty30 ?_; refine zL underlying30 h fun u3 h => ?_; refine zc func119 h ?_; rintro v σ ⟨u4, u5, u6, rfl, h⟩; iterate 7 refine zp ?_
 refine z4 ?_; iterate 2 refine zp ?_
 refine zN h fun p7 h => ?_; refine zf underlying213 ty26 ?_; refine zs ty26 h fun σ h => ?_; refine z4 ?_; iterate 2 refine zp ?_
 refine zN h fun p8 h => ?_; refine zf underlying213 ty30 ?_; refine zL underlying30 h fun u9 h => ?_; refine zp ?_; obtain ⟨hc, h⟩ := h
 refine zm (V_slL (lo := (some u5)) (hi := none) rfl underlying30 ty5 rfl (optI_some rfl) optI_none hc) ?_; refine zN h fun p10 h => ?_; refine zf underlying213 ty30 ?_; refine zs ty30 h fun σ h => ?_; refine z4 ?_; iterate 2 refine zp ?_
 refine z2 ?_; refine AW.ret ?_; exact bR1 results78 rfl ⟨_, rfl, h⟩
def f_wire_Reader_Err (B : World) (ro : AH) (a0 : Option Addr) (σ : AH) (Q : Int → AH → Prop) : Prop :=
 ∃ p0, a0 = some p0 ∧
 ∃ u1, acell ro σ (p0.add 1) = some (.int .i64 u1) ∧
 Q u1 σ
theorem wire_Reader_Err_ok {a0 : Option Addr} {Q : Int → AH → Prop} (h : Sep ro σ → f_wire_Reader_Err B ro a0 σ Q) : c_wire_Reader_Err B ro a0 σ Q := by
 refine zb h func79 ntmps79 fun h => ?_; unfold f_wire_Reader_Err at h; refine z3 ?_; refine zp ?_; refine z4 ?_; refine zp ?_; refine zN h fun p0 h => ?_; refine zf underlying213 ty26 ?_; refine zL underlying26 h fun u1 h => ?_; refine zp ?_; refine z2 ?_; refine AW.ret ?_; exact bR1 results79 rfl ⟨_, rfl, h⟩
def f_wire_buffer_num (B : World) (ro : AH) (a0 : Option Addr) (a1 : Int) (σ : AH) (Q : AH → Prop) : Prop :=
 c_wire_right B ro a1 σ fun u0 σ =>
 if ¬ (u0 = true) then
 ∃ p1, a0 = some p1 ∧
 stN (p1.add 3) (fun σ =>
  Q σ) [.bool true] 0 σ
 else
 ∃ p2, a0 = some p2 ∧
 c_wire_put B ro (⟨none, 0, 0⟩ : Sl) a1 σ fun u3 σ =>
 c_bytes_Buffer_Write B ro (some p2) u3 σ fun u4 u5 σ =>
 Q σ
theorem wire_buffer_num_ok {a0 : Option Addr} {a1 : Int} {Q : AH → Prop} (h : Sep ro σ → f_wire_buffer_num B ro a0 a1 σ Q) : c_wire_buffer_num B ro a0 a1 σ Q := by
 refine zb h func113 ntmps113 fun h => ?_; unfold f_wire_buffer_num at h; refine AW.seq (z3 ?_); refine zp ?_; refine zc func135 h ?_; rintro v σ ⟨u0, rfl, h⟩; refine zp ?_; refine z2 ?_; refine AW.iff rfl (bnot_iff Iff.rfl) h (fun h => ?_) (fun h => ?_)
 ·refine z3 ?_; refine zp ?_; refine zN h fun p1 h => ?_; refine zf underlying200 ty4 ?_; refine zs ty4 h fun σ h => ?_; refine z2 ?_; refine AW.ret ?_; refine thenR ?_; exact bR0 results113 ⟨rfl, h⟩
 refine AW.skip ?_; refine thenN ?_; refine AW.drawn0 (fun i => ([0, 0, 0, 0, 2, 2] : List Nat).getD i 2) [] [0, 1, 2, 3, 4, 5] mixed (by decide +kernel) ?_
 refine zq ?_; obtain ⟨p2, hc, h⟩ := h
 refine Dp rfl rfl rfl rfl (V_nil rfl (by rw [← hc]; rfl)) ?_
 refine zg underlying200 ty198 ?_; refine zq ?_; refine Dg rfl rfl rfl rfl (X_call rfl func136 rfl rfl rfl (ACalls.mono h ?_))
 rintro v σ ⟨u3, rfl, h⟩; refine Dg rfl rfl rfl rfl (X_call rfl func115 rfl rfl rfl (ACalls.mono h ?_))
 rintro v σ ⟨u4, u5, rfl, h⟩; refine Dend ?_
 exact bN0 results113 ⟨rfl, h⟩
def j1_wire_Number (B : World) (ro : AH) (a0 : Sl) (a1 : Int) (Q : Int → Int → Int → AH → Prop) (σ : AH) : Prop :=
 if 9 ≤ (i64.wrap ((a0.len : Int) - a1)) then
 Q 0 0 13 σ
 else
 Q 0 0 12 σ
def j7_wire_Number (B : World) (ro : AH) (a1 : Int) (u0 : Int) (u1 : Int) (u2 : Int) (Q : Int → Int → Int → AH → Prop) (Y2 : (Int × Int) → AH → Prop) (u3 : Bool) (σ : AH) : Prop :=
 if u3 = true then
 Q 0 0 13 σ
 else
 Q (bitOr .i64 u0 (i64.wrap ((i64.wrap (bitAnd .u8 u2 127)) * 2 ^ (min (Int.toNat (i64.wrap (7 * u1))) 64)))) (i64.wrap ((i64.wrap (a1 + u1)) + 1)) 0 σ
def l2_wire_Number (B : World) (ro : AH) (a0 : Sl) (a1 : Int) (Q : Int → Int → Int → AH → Prop) : (Int × Int) → AH → ((Int × Int) → AH → Prop) → Prop := fun ⟨u0, u1⟩ σ Y2 =>
 if u1 < ((⟨cutA a0.a (Int.toNat a1) a0.cap 1, a0.len - Int.toNat a1, a0.cap - Int.toNat a1⟩ : Sl).len : Int) then
 ∃ p2 : Addr, (⟨cutA a0.a (Int.toNat a1) a0.cap 1, a0.len - Int.toNat a1, a0.cap - Int.toNat a1⟩ : Sl).a = some p2 ∧ (0 : Int) ≤ u1 ∧ u1 < ((⟨cutA a0.a (Int.toNat a1) a0.cap 1, a0.len - Int.toNat a1, a0.cap - Int.toNat a1⟩ : Sl).len : Int) ∧
 ∃ u3, acell ro σ (p2.add (Int.toNat u1 * 1)) = some (.int .u8 u3) ∧
 if u1 = 9 then
  j1_wire_Number B ro a0 a1 Q σ
 else
 (0 : Int) ≤ (i64.wrap (7 * u1)) ∧
 if u3 < 128 then
  if (u3 = 0) ∧ (0 < u1) then
  j7_wire_Number B ro a1 u0 u1 u3 Q Y2 true σ
  else
  c_wire_right B ro (bitOr .i64 u0 (i64.wrap ((i64.wrap (bitAnd .u8 u3 127)) * 2 ^ (min (Int.toNat (i64.wrap (7 * u1))) 64)))) σ fun u4 σ =>
  j7_wire_Number B ro a1 u0 u1 u3 Q Y2 (!u4) σ
 else
 Y2 (bitOr .i64 u0 (i64.wrap ((i64.wrap (bitAnd .u8 u3 127)) * 2 ^ (min (Int.toNat (i64.wrap (7 * u1))) 64))), i64.wrap (u1 + 1)) σ
 else
 j1_wire_Number B ro a0 a1 Q σ
def f_wire_Number (B : World) (ro : AH) (a0 : Sl) (a1 : Int) (σ : AH) (Q : Int → Int → Int → AH → Prop) : Prop :=
 if (a1 < 0) ∨ ((a0.len : Int) < a1) then
 Q 0 0 11 σ
 else
 cutOk (some a1) none a0.len a0.cap ∧
 lfpD (l2_wire_Number B ro a0 a1 Q ) (0, 0) σ
theorem wire_Number_ok {a0 : Sl} {a1 : Int} {Q : Int → Int → Int → AH → Prop} (h : Sep ro σ → f_wire_Number B ro a0 a1 σ Q) : c_wire_Number B ro a0 a1 σ Q := by
 refine zb h func119 ntmps119 fun h => ?_; unfold f_wire_Number at h; refine z3 ?_; iterate 3 refine zp ?_
 refine z2 (AW.seq (z3 ?_))
 iterate 3 refine zp ?_
 refine Lsplit 5 (decide (a1 < 0)) [(0, Sl.v a0), (1, .int .i64 a1), (4, .int .i64 0), (16, .bool ((decide (a1 < 0)) || (decide ((a0.len : Int) < a1))))] ?_ ?_ ?_
 ·intro e2 hk2
  iterate 4 refine zn e2 ?_
  refine zk e2 ?_; exact hk2 _ (Fe e2)
 ·intro e2 hk2
  refine zy e2 ?_; refine zy e2 ?_; refine Lypb (V_lenL rfl rfl underlying30 rfl rfl) rfl rfl rfl rfl e2 ?_
  refine zy e2 ?_; refine zk e2 ?_; exact hk2 _ (Fe e2)
 intro fr hl
 refine Lfr hl ?_
 refine z2 ?_; refine AW.iff rfl (bor_iff decide_eq_true_iff decide_eq_true_iff) h (fun h => ?_) (fun h => ?_)
 ·refine z3 ?_; iterate 3 refine zp ?_
  refine z2 ?_; refine AW.ret ?_; refine thenR ?_; exact bR3 results119 rfl rfl rfl ⟨_, _, _, rfl, h⟩
 refine AW.skip ?_; refine thenN ?_; refine AW.seqJ (fun fr σ => FrLe [(0, Sl.v a0), (1, .int .i64 a1)] fr ∧ j1_wire_Number B ro a0 a1 Q σ) ?_ ?_
 ·rintro fr σ ⟨hl, h⟩; refine AW.weaken ?_ hl (HLe.refl _)
  unfold j1_wire_Number at h; refine AW.seq (z3 ?_); refine zp ?_; refine zm (V_lenL rfl rfl underlying30 rfl rfl) ?_; iterate 3 refine zp ?_
  refine z2 ?_; refine zi h (fun h => ?_) fun h => ?_
  ·refine z3 ?_; iterate 3 refine zp ?_
   refine z2 ?_; refine AW.ret ?_; refine thenR ?_; exact bR3 results119 rfl rfl rfl ⟨_, _, _, rfl, h⟩
  refine AW.skip ?_; refine thenN (z3 ?_); iterate 3 refine zp ?_
  refine z2 ?_; refine AW.ret ?_; exact bR3 results119 rfl rfl rfl ⟨_, _, _, rfl, h⟩
 refine z3 ?_; iterate 2 refine zp ?_
 obtain ⟨hc, h⟩ := h
 refine zm (V_slL (lo := (some a1)) (hi := none) rfl underlying30 ty5 rfl (optI_some rfl) optI_none hc) ?_; refine zm (V_lenL rfl rfl underlying30 rfl rfl) ?_; refine zp ?_; refine z2 (AW.block ?_)
 refine ARound.loop (fr' := [(0, Sl.v a0), (1, .int .i64 a1), (19, Sl.v (⟨cutA a0.a (Int.toNat a1) a0.cap 1, a0.len - Int.toNat a1, a0.cap - Int.toNat a1⟩ : Sl)), (20, .int .i64 ((⟨cutA a0.a (Int.toNat a1) a0.cap 1, a0.len - Int.toNat a1, a0.cap - Int.toNat a1⟩ : Sl).len : Int)), (4, .int .i64 0), (21, .int .i64 0)]) ?_ FL
 refine h (fun ⟨u0, u1⟩ σ => ARound _ _ _ _ _ _ [(0, Sl.v a0), (1, .int .i64 a1), (19, Sl.v (⟨cutA a0.a (Int.toNat a1) a0.cap 1, a0.len - Int.toNat a1, a0.cap - Int.toNat a1⟩ : Sl)), (20, .int .i64 ((⟨cutA a0.a (Int.toNat a1) a0.cap 1, a0.len - Int.toNat a1, a0.cap - Int.toNat a1⟩ : Sl).len : Int)), (4, .int .i64 u0), (21, .int .i64 u1)] σ) ?_
 rintro ⟨u0, u1⟩ σ Y2 hY2 h
 show AW _ _ _ _ _ _ _ _
 unfold l2_wire_Number at h; dsimp only at h; refine z3 ?_; refine zp ?_; refine z2 (AW.seq ?_)
 refine zi h (fun h => ?_) fun h => ?_
 rotate_left
 ·refine AW.exit ?_; refine thenE (thenE ?_); refine blockE ?_
  refine thenN ?_; exact ⟨FL, h⟩
 refine AW.skip ?_; refine thenN (AW.seq (AW.block (z3 ?_))); refine zp ?_; obtain ⟨p2, ha, h0, h1, h⟩ := h
 refine zm (V_ixA rfl underlying30 ty5 (ixL rfl ha) rfl h0 h1) ?_; refine zL underlying5 h fun u3 h => ?_; iterate 2 refine zp ?_
 refine z2 (AW.seq (z3 ?_))
 iterate 2 refine zp ?_
 refine z2 ?_; refine zi h (fun h => ?_) fun h => ?_
 ·refine AW.exit ?_; refine thenE ?_; refine blockO rfl ?_
  refine thenE (thenE ?_); refine blockE ?_
  refine thenN ?_; exact ⟨FL, h⟩
 refine AW.skip ?_; refine thenN (z3 ?_); iterate 2 refine zp ?_
 refine zm (V_and rfl rfl rfl) ?_; refine zm (V_cvt rfl rfl underlying5 underlying3) ?_; iterate 2 refine zp ?_
 obtain ⟨hc, h⟩ := h
 refine zm (V_shl rfl rfl rfl hc) ?_; refine zm (V_or rfl rfl rfl) ?_; refine zp ?_; refine z4 ?_; iterate 2 refine zp ?_
 refine z2 ?_; refine zi h (fun h => ?_) fun h => ?_
 rotate_left
 ·refine AW.skip ?_; refine blockN (thenN (AW.reg ?_)); iterate 2 refine zp ?_
  refine z2 ?_; refine ARound.head (fr' := [(0, Sl.v a0), (1, .int .i64 a1), (19, Sl.v (⟨cutA a0.a (Int.toNat a1) a0.cap 1, a0.len - Int.toNat a1, a0.cap - Int.toNat a1⟩ : Sl)), (20, .int .i64 ((⟨cutA a0.a (Int.toNat a1) a0.cap 1, a0.len - Int.toNat a1, a0.cap - Int.toNat a1⟩ : Sl).len : Int)), (4, .int .i64 (bitOr .i64 u0 (i64.wrap ((i64.wrap (bitAnd .u8 u3 127)) * 2 ^ (min (Int.toNat (i64.wrap (7 * u1))) 64))))), (21, .int .i64 (i64.wrap (u1 + 1)))]) ?_ FL
  exact hY2 _ _ h
 refine AW.seq (z3 ?_); iterate 3 refine zp ?_
 refine Lsplit 3 (decide (u3 = 0)) [(1, .int .i64 a1), (4, .int .i64 (bitOr .i64 u0 (i64.wrap ((i64.wrap (bitAnd .u8 u3 127)) * 2 ^ (min (Int.toNat (i64.wrap (7 * u1))) 64))))), (7, .int .i64 u1), (43, .bool ((decide (u3 = 0)) && (decide (0 < u1))))] ?_ ?_ ?_
 ·intro e2 hk2
  refine zy e2 ?_; refine zy e2 ?_; refine zk e2 ?_; exact hk2 _ (Fe e2)
 ·intro e2 hk2
  iterate 2 refine zn e2 ?_
  refine zk e2 ?_; exact hk2 _ (Fe e2)
 intro fr hl
 refine Lfr hl ?_
 refine zp ?_; refine LsplitJ 4 ((decide (u3 = 0)) && (decide (0 < u1))) (band_iff decide_eq_true_iff decide_eq_true_iff) h (fun fr σ => ∃ (u4 : Bool), FrLe [(1, .int .i64 a1), (4, .int .i64 (bitOr .i64 u0 (i64.wrap ((i64.wrap (bitAnd .u8 u3 127)) * 2 ^ (min (Int.toNat (i64.wrap (7 * u1))) 64))))), (7, .int .i64 u1), (48, .bool u4)] fr ∧ j7_wire_Number B ro a1 u0 u1 u3 Q Y2 u4 σ) ?_ ?_ ?_
 ·intro h e6 hk6; iterate 3 refine zn e6 ?_
  refine zk e6 ?_; exact hk6 _ _ ⟨_, FL, h⟩
 ·intro h e6 hk6; refine zy e6 ?_; refine Lyb rfl rfl rfl rfl e6 (X_call rfl func135 rfl rfl rfl (ACalls.mono h ?_))
  rintro v σ ⟨u5, rfl, h⟩; refine zy e6 ?_; refine zk e6 ?_; exact hk6 _ _ ⟨_, FL, h⟩
 rintro fr σ ⟨u4, hl, h⟩; unfold j7_wire_Number at h; refine Lfr hl ?_
 refine z2 ?_; refine zj h (fun h => ?_) fun h => ?_
 ·refine z3 ?_; iterate 3 refine zp ?_
  refine z2 ?_; refine AW.ret ?_; refine thenR (blockR (thenR (thenR (blockR (thenR ?_))))); exact bR3 results119 rfl rfl rfl ⟨_, _, _, rfl, h⟩
 refine AW.skip ?_; refine thenN (z3 ?_); iterate 8 refine zp ?_
 refine z2 ?_; refine AW.ret ?_; refine blockR (thenR (thenR (blockR (thenR ?_)))); exact bR3 results119 rfl rfl rfl ⟨_, _, _, rfl, h⟩
def f_wire_right (B : World) (ro : AH) (a0 : Int) (σ : AH) (Q : Bool → AH → Prop) : Prop :=
 Q ((decide (0 ≤ a0)) && (decide (a0 ≤ 4611686018427387903))) σ
theorem wire_right_ok {a0 : Int} {Q : Bool → AH → Prop} (h : Sep ro σ → f_wire_right B ro a0 σ Q) : c_wire_right B ro a0 σ Q := by
 refine zb h func135 ntmps135 fun h => ?_; unfold f_wire_right at h; refine z3 ?_; refine zp ?_; refine z4 ?_; iterate 3 refine zp ?_
 refine Lsplit 3 (decide (0 ≤ a0)) [(8, .bool ((decide (0 ≤ a0)) && (decide (a0 ≤ 4611686018427387903))))] ?_ ?_ ?_
 ·intro e2 hk2
  refine zy e2 ?_; refine zy e2 ?_; refine zk e2 ?_; exact hk2 _ (Fe e2)
 ·intro e2 hk2
  iterate 2 refine zn e2 ?_
  refine zk e2 ?_; exact hk2 _ (Fe e2)
 intro fr hl
 refine Lfr hl ?_
 refine zp ?_; refine z2 ?_; refine AW.ret ?_; exact bR1 results135 rfl ⟨_, rfl, h⟩
def j1_wire_put (B : World) (ro : AH) (Q : Sl → AH → Prop) (u0 : Sl) (u1 : Int) (σ : AH) : Prop :=
 nw ro σ (.cells #[.int .u8 (IntKind.u8.wrap u1)] 5) fun u2 σ =>
 awp prog ro (Builtin.append_ #[30, 30] 30 #[Sl.v u0, Sl.v (⟨some ⟨u2, 0, none⟩, 1, 1⟩ : Sl)]) (fun v σ => ∃ (u3 : Sl), v = Sl.v u3 ∧
 Q u3 σ) σ
def l6_wire_put (B : World) (ro : AH) (Q : Sl → AH → Prop) : (Sl × Int) → AH → ((Sl × Int) → AH → Prop) → Prop := fun ⟨u0, u1⟩ σ Y6 =>
 if 128 ≤ u1 then
 nw ro σ (.cells #[.int .u8 (bitOr .u8 (IntKind.u8.wrap u1) 128)] 5) fun u2 σ =>
 awp prog ro (Builtin.append_ #[30, 30] 30 #[Sl.v u0, Sl.v (⟨some ⟨u2, 0, none⟩, 1, 1⟩ : Sl)]) (fun v σ => ∃ (u3 : Sl), v = Sl.v u3 ∧
  Y6 (u3, Int.fdiv u1 (2 ^ (min (Int.toNat 7) 64))) σ) σ
 else
 j1_wire_put B ro Q u0 u1 σ
def f_wire_put (B : World) (ro : AH) (a0 : Sl) (a1 : Int) (σ : AH) (Q : Sl → AH → Prop) : Prop :=
 lfpD (l6_wire_put B ro Q ) (a0, a1) σ
theorem wire_put_ok {a0 : Sl} {a1 : Int} {Q : Sl → AH → Prop} (h : Sep ro σ → f_wire_put B ro a0 a1 σ Q) : c_wire_put B ro a0 a1 σ Q := by
 refine zb h func136 ntmps136 fun h => ?_; unfold f_wire_put at h; refine z3 ?_; refine zp ?_; refine z2 ?_; refine AW.seqJ (fun fr σ => ∃ (u0 : Sl) (u1 : Int), FrLe [(0, Sl.v u0), (1, .int .i64 u1)] fr ∧ j1_wire_put B ro Q u0 u1 σ) ?_ ?_
 ·rintro fr σ ⟨u0, u1, hl, h⟩; refine AW.weaken ?_ hl (HLe.refl _)
  unfold j1_wire_put at h; refine z3 ?_; iterate 2 refine zp ?_
  refine zm (V_cvt rfl rfl underlying3 underlying5) ?_; refine zA (A_bsl (vs := [(0, .int .u8 (IntKind.u8.wrap u1))]) (cs := #[.int .u8 (IntKind.u8.wrap u1)]) rfl underlying30 ty5 (by decide) rfl rfl) h fun u2 h => ?_; refine zl (X_bi (s := Builtin.append_ #[30, 30] 30 #[Sl.v u0, Sl.v (⟨some ⟨u2, 0, none⟩, 1, 1⟩ : Sl)]) rfl rfl (fun _ => rfl) (awp_mono _ h ?_))
  rintro v σ ⟨u3, rfl, h⟩; refine zp ?_; refine z2 ?_; refine AW.ret ?_; exact bR1 results136 rfl ⟨_, rfl, h⟩
 refine AW.block ?_; refine ARound.loop (fr' := [(0, Sl.v a0), (1, .int .i64 a1)]) ?_ FL
 refine h (fun ⟨u4, u5⟩ σ => ARound _ _ _ _ _ _ [(0, Sl.v u4), (1, .int .i64 u5)] σ) ?_
 rintro ⟨u4, u5⟩ σ Y6 hY6 h
 show AW _ _ _ _ _ _ _ _
 unfold l6_wire_put at h; dsimp only at h; refine AW.seq (z3 ?_); iterate 2 refine zp ?_
 refine z2 ?_; refine zi h (fun h => ?_) fun h => ?_
 rotate_left
 ·refine AW.exit ?_; refine thenE (thenE ?_); refine blockE ?_
  refine thenN ?_; exact ⟨_, _, FL, h⟩
 refine AW.skip ?_; refine thenN (AW.seq (AW.block (AW.reg ?_))); iterate 2 refine zp ?_
 refine zm (V_cvt rfl rfl underlying3 underlying5) ?_; refine zm (V_or rfl rfl rfl) ?_; refine zA (A_bsl (vs := [(0, .int .u8 (bitOr .u8 (IntKind.u8.wrap u5) 128))]) (cs := #[.int .u8 (bitOr .u8 (IntKind.u8.wrap u5) 128)]) rfl underlying30 ty5 (by decide) rfl rfl) h fun u6 h => ?_; refine zl (X_bi (s := Builtin.append_ #[30, 30] 30 #[Sl.v u4, Sl.v (⟨some ⟨u6, 0, none⟩, 1, 1⟩ : Sl)]) rfl rfl (fun _ => rfl) (awp_mono _ h ?_))
 rintro v σ ⟨u7, rfl, h⟩; refine zp ?_; refine Lnil (blockN (thenN (AW.reg ?_))); refine zp ?_; refine zm (V_shr rfl rfl rfl (by decide)) ?_; refine zp ?_; refine z2 ?_; refine ARound.head (fr' := [(0, Sl.v u7), (1, .int .i64 (Int.fdiv u5 (2 ^ (min (Int.toNat 7) 64))))]) ?_ FL
 exact hY6 _ _ h
end G
namespace Wi
open Go SL G Zt
variable {B : World} {ro σ σ' : AH} {tag tag' : Nat → Nat}
theorem u8or (n : Nat) : bitOr .u8 (IntKind.u8.wrap (n : Int)) 128 = ((n % 128 + 128 : Nat) : Int) := by
 have h : ∀ c : Fin 256, bitOr .u8 ((c.val : Nat) : Int) 128 = ((c.val % 128 + 128 : Nat) : Int) := by decide +kernel
 have e : IntKind.u8.wrap (n : Int) = ((n % 256 : Nat) : Int) := by
  simp [IntKind.wrap, IntKind.bits, IntKind.signed]
 rw [e, h ⟨n % 256, Nat.mod_lt _ (by decide)⟩]
 simp only
 omega
theorem u8wrap {n : Nat} (h : n < 256) : IntKind.u8.wrap (n : Int) = (n : Int) := by
 simp [IntKind.wrap, IntKind.bits, IntKind.signed]; omega
theorem vU_of {n : Nat} (h : n < 256) : vU (UInt8.ofNat n) = .int .u8 (n : Int) := by
 unfold vU; rw [u8_of n h]
theorem right_ok {n : Int} {Q : Bool → AH → Prop} (hQ : Q (rightN n) σ) : c_wire_right B ro n σ Q := by
 refine wire_right_ok fun _ => ?_
 unfold f_wire_right
 exact hQ
theorem put_ok {n : Nat} {Q : Sl → AH → Prop} (hs : SL.Sep ro σ) (hn : n < 4611686018427387904) (hQ : ∀ s tag' σ', Step [1] ro tag σ tag' σ' → Row tag' σ' 1 5 s ((vput n).map vU) → Q s σ') : c_wire_put B ro ⟨none, 0, 0⟩ (n : Int) σ Q := by
 refine wire_put_ok fun _ => ?_
 unfold f_wire_put
 suffices ∀ (m k : Nat) (acc : Str) (s : Sl) (tag1 : Nat → Nat) (σ1 : AH), k < 128 ^ (m + 1) → acc.length + m < 20 → acc ++ vput k = vput n → Step [1] ro tag σ tag1 σ1 → Row tag1 σ1 1 5 s (acc.map vU) → lfpD (l6_wire_put B ro Q) (s, (k : Int)) σ1 from
  this 8 n [] ⟨none, 0, 0⟩ tag σ (by omega) (by decide) rfl (Step.refl hs) (Row.nil 1 5)
 intro m
 induction m with
 | zero =>
  intro k acc s tag1 σ1 hk ha he st r1
  have hk : k < 128 := by simpa using hk
  refine lfpD.intro ?_
  unfold l6_wire_put
  simp only
  rw [if_neg (by omega)]
  unfold j1_wire_put
  refine nw_cells (tag := tag1) 0 st.sep fun x tag2 σ2 st2 r2 => ?_
  rw [u8wrap (by omega)] at r2
  refine awp_appendN (l2 := [vU (UInt8.ofNat k)]) (r1.keep (st2 [])) (st2 []).sep (by rw [vU_of (by omega)]; exact r2.read (st2 []).sep) u30 ty5 rfl (by simp [storable]) (by simp; omega) (by decide) fun s' tag3 σ3 st3 r3 => ?_
  refine ⟨s', rfl, hQ s' tag3 σ3 (st.trans ((st2 _).trans (st3 _ (.inr (by simp))))) ?_⟩
  rw [← he]
  rw [vput, if_pos hk, List.map_append]
  exact r3
 | succ m ih =>
  intro k acc s tag1 σ1 hk ha he st r1
  refine lfpD.intro ?_
  unfold l6_wire_put
  simp only
  by_cases h128 : 128 ≤ k
  ·rw [if_pos (by omega)]
   refine nw_cells (tag := tag1) 0 st.sep fun x tag2 σ2 st2 r2 => ?_
   rw [u8or] at r2
   refine awp_appendN (l2 := [vU (UInt8.ofNat (k % 128 + 128))]) (r1.keep (st2 [])) (st2 []).sep (by rw [vU_of (by omega)]; exact r2.read (st2 []).sep) u30 ty5 rfl (by simp [storable]) (by simp; omega) (by decide) fun s' tag3 σ3 st3 r3 => ?_
   refine ⟨s', rfl, ?_⟩
   rw [show Int.fdiv (k : Int) (2 ^ (min (Int.toNat 7) 64)) = ((k / 128 : Nat) : Int) by
    rw [show (2 : Int) ^ (min (Int.toNat 7) 64) = 128 from by decide, Int.fdiv_eq_ediv_of_nonneg _ (by decide)]; omega]
   refine ih (k / 128) (acc ++ [UInt8.ofNat (k % 128 + 128)]) s' tag3 σ3 (by rw [Nat.pow_succ] at hk; exact Nat.div_lt_of_lt_mul (by rw [Nat.mul_comm]; exact hk)) (by simp; omega) ?_ (st.trans ((st2 _).trans (st3 _ (.inr (by simp))))) (by rw [List.map_append]; exact r3)
   rw [← he, List.append_assoc]
   conv => rhs; rw [vput, if_neg (by omega)]
   rfl
  ·rw [if_neg (by omega)]
   unfold j1_wire_put
   refine nw_cells (tag := tag1) 0 st.sep fun x tag2 σ2 st2 r2 => ?_
   rw [u8wrap (by omega)] at r2
   refine awp_appendN (l2 := [vU (UInt8.ofNat k)]) (r1.keep (st2 [])) (st2 []).sep (by rw [vU_of (by omega)]; exact r2.read (st2 []).sep) u30 ty5 rfl (by simp [storable]) (by simp; omega) (by decide) fun s' tag3 σ3 st3 r3 => ?_
   refine ⟨s', rfl, hQ s' tag3 σ3 (st.trans ((st2 _).trans (st3 _ (.inr (by simp))))) ?_⟩
   rw [← he]
   rw [vput, if_pos (by omega), List.map_append]
   exact r3
def wnum (a : Str × Bool) (n : Int) : Str × Bool := if rightN n then (a.1 ++ vput n.toNat, a.2) else (a.1, true)
theorem wnum_len (a : Str × Bool) (n : Int) : (wnum a n).1.length ≤ a.1.length + 9 := by
 unfold wnum
 split
 ·rename_i h
  unfold rightN at h
  simp only [Bool.and_eq_true, decide_eq_true_eq] at h
  have := (vput_len 8 n.toNat (by omega)).2
  simp; omega
 ·simp
theorem num_ok {r W : Nat} {a : Str × Bool} {n : Int} {Q : AH → Prop} (h : BufAt tag σ r W a.1 a.2) (hr : r ≠ 1) (hs : SL.Sep ro σ) (hl : a.1.length + 9 ≤ 140737488355328)
  (hQ : ∀ tag' σ', Step [r, r + 64, 1] ro tag σ tag' σ' → BufAt tag' σ' r W (wnum a n).1 (wnum a n).2 → Q σ') : c_wire_buffer_num B ro (some ⟨W, 0, none⟩) n σ Q := by
 refine wire_buffer_num_ok fun _ => ?_
 unfold f_wire_buffer_num
 refine right_ok ?_
 unfold wnum at hQ
 by_cases hn : rightN n = true
 ·rw [if_neg (by simp [hn])]
  simp only [hn, if_true] at hQ
  have hn' := hn
  unfold rightN at hn'
  simp only [Bool.and_eq_true, decide_eq_true_eq] at hn'
  refine ⟨_, rfl, ?_⟩
  obtain ⟨k, rfl⟩ := Int.eq_ofNat_of_zero_le hn'.1
  rw [Int.toNat_natCast] at hQ
  refine put_ok (tag := tag) hs (by omega) fun s tag1 σ1 st1 r1 => ?_
  have hk := (vput_len 8 k (by omega)).2
  refine bufWrite_ok (d := vput k) (h.keep st1 (by simpa using hr) (by simp)) st1.sep (by omega) (by rw [r1.len]; simp) (fun tag2 σ2 st2 => (r1.keep st2 (by simp; omega)).read st2.sep) fun _ _ tag2 σ2 st2 h2 => ?_
  exact hQ tag2 σ2 ((st1.mono (by simp)).trans (st2.mono (by simp))) h2
 ·rw [if_pos (by simpa using hn)]
  simp only [hn] at hQ
  obtain ⟨s0, hcap, lr, h1, h2⟩ := h
  refine ⟨_, rfl, ?_⟩
  refine h1.st (i := 3) hs rfl (by simp) rfl fun σ1 st1 r1 => ?_
  exact hQ tag σ1 (st1.mono (by simp)) ⟨s0, hcap, lr, r1, h2.keep st1⟩
theorem newWriter_ok {r : Nat} {Q : Option Addr → AH → Prop} (hQ : ∀ W tag' σ', (∀ R, Step R ro tag σ tag' σ') → BufAt tag' σ' r W [] false → Q (some ⟨W, 0, none⟩) σ') : c_wire_NewWriter B ro σ Q := by
 refine wire_NewWriter_ok fun hs => ?_
 unfold f_wire_NewWriter
 refine nw_cells (tag := tag) r hs fun W tag1 σ1 st1 r1 => ?_
 exact hQ W tag1 σ1 st1 ⟨⟨none, 0, 0⟩, by decide, 0, r1, Row.nil _ _⟩
theorem not1 : ¬ (i64.wrap (0 + 1) < ((1 : Nat) : Int)) := by decide
def wtext (a : Str × Bool) (p : Str) : Str × Bool := ((wnum a p.length).1 ++ p, (wnum a p.length).2)
theorem wtext_len (a : Str × Bool) (p : Str) : (wtext a p).1.length ≤ a.1.length + 9 + p.length := by
 have := wnum_len a p.length
 unfold wtext; simp; omega
theorem texts1_ok {r W x q : Nat} {a : Str × Bool} {p : Str} {Q : AH → Prop} (h : BufAt tag σ r W a.1 a.2) (hr : r ≠ 1) (hq : q ≠ r ∧ q ≠ r + 64 ∧ q ≠ 1) (hs : SL.Sep ro σ) (hl : a.1.length + 9 + p.length ≤ 140737488355328) (hx : Row tag σ q 9 ⟨some ⟨x, 0, none⟩, 1, 1⟩ [Pa.vS p])
  (hQ : ∀ tag' σ', Step [r, r + 64, 1] ro tag σ tag' σ' → BufAt tag' σ' r W (wtext a p).1 (wtext a p).2 → Q σ') : c_wire_Writer_Texts B ro (some ⟨W, 0, none⟩) ⟨some ⟨x, 0, none⟩, 1, 1⟩ σ Q := by
 refine wire_Writer_Texts_ok fun _ => ?_
 unfold f_wire_Writer_Texts
 refine lfpD.intro ?_
 unfold l1_wire_Writer_Texts
 rw [if_pos (by simp)]
 refine ⟨_, rfl, by decide, by simp, S p, hx.cell1 hs, _, rfl, ?_⟩
 have hlen := wnum_len a p.length
 rw [show ((S p).size : Int) = (p.length : Nat) from by rw [← L_len, L_S]]
 refine num_ok h hr hs (by omega) fun tag1 σ1 st1 h1 => ?_
 refine ⟨_, rfl, ?_⟩
 refine bufWriteStr_ok h1 st1.sep (by rw [L_S]; omega) fun _ _ tag2 σ2 st2 h2 => ?_
 rw [L_S] at h2
 refine lfpD.intro ?_
 rw [if_neg (show ¬ (i64.wrap (0 + 1) < ((⟨some ⟨x, 0, none⟩, 1, 1⟩ : Sl).len : Int)) from not1)]
 exact hQ tag2 σ2 (st1.trans (st2.mono (by simp))) h2
theorem blobs1_ok {r W x q : Nat} {a : Str × Bool} {s : Sl} {p : Str} {Q : AH → Prop} (h : BufAt tag σ r W a.1 a.2) (hr : r ≠ 1) (hq : q ≠ r ∧ q ≠ r + 64 ∧ q ≠ 1) (hs : SL.Sep ro σ) (hl : a.1.length + 9 + p.length ≤ 140737488355328) (hx : Row tag σ q 30 ⟨some ⟨x, 0, none⟩, 1, 1⟩ [Sl.v s]) (hsl : s.len = p.length)
  (hsrc : ∀ tag' σ', Step [r, r + 64, 1] ro tag σ tag' σ' → SL.Read ro σ' s (p.map vU)) (hQ : ∀ tag' σ', Step [r, r + 64, 1] ro tag σ tag' σ' → BufAt tag' σ' r W (wtext a p).1 (wtext a p).2 → Q σ') :
  c_wire_Writer_Blobs B ro (some ⟨W, 0, none⟩) ⟨some ⟨x, 0, none⟩, 1, 1⟩ σ Q := by
 refine wire_Writer_Blobs_ok fun _ => ?_
 unfold f_wire_Writer_Blobs
 refine lfpD.intro ?_
 unfold l1_wire_Writer_Blobs
 rw [if_pos (by simp)]
 refine ⟨_, rfl, by decide, by simp, s, hx.cell1 hs, _, rfl, ?_⟩
 have hlen := wnum_len a p.length
 rw [hsl]
 refine num_ok h hr hs (by omega) fun tag1 σ1 st1 h1 => ?_
 refine ⟨_, rfl, ?_⟩
 have wid : ∀ x ∈ [r, r + 64], x ∈ [r, r + 64, 1] := fun x hx => by
  simp only [List.mem_cons, List.not_mem_nil, or_false] at hx ⊢
  rcases hx with h | h <;> simp [h]
 refine bufWrite_ok (d := p) h1 st1.sep (by omega) hsl (fun tag2 σ2 st2 => hsrc tag2 σ2 (st1.trans (st2.mono wid))) fun _ _ tag2 σ2 st2 h2 => ?_
 refine lfpD.intro ?_
 rw [if_neg (show ¬ (i64.wrap (0 + 1) < ((⟨some ⟨x, 0, none⟩, 1, 1⟩ : Sl).len : Int)) from not1)]
 exact hQ tag2 σ2 (st1.trans (st2.mono wid)) h2
theorem nums_ok {r W q : Nat} {s : Sl} {Q : AH → Prop} (hr : r ≠ 1) (hq : q ≠ r ∧ q ≠ r + 64 ∧ q ≠ 1) {ns : List Int} {a : Str × Bool} (h : BufAt tag σ r W a.1 a.2) (hs : SL.Sep ro σ) (hl : a.1.length + 9 * ns.length ≤ 140737488355328) (hx : Row tag σ q 3 s (ns.map Zt.vI))
  (hQ : ∀ tag' σ', Step [r, r + 64, 1] ro tag σ tag' σ' → BufAt tag' σ' r W (ns.foldl wnum a).1 (ns.foldl wnum a).2 → Q σ') : c_wire_Writer_Nums B ro (some ⟨W, 0, none⟩) s σ Q := by
 refine wire_Writer_Nums_ok fun _ => ?_
 unfold f_wire_Writer_Nums
 have hsl : s.len = ns.length := by rw [hx.len, List.length_map]
 suffices ∀ (m j : Nat) (tag1 : Nat → Nat) (σ1 : AH), j + m = ns.length → Step [r, r + 64, 1] ro tag σ tag1 σ1 → ((ns.take j).foldl wnum a).1.length ≤ a.1.length + 9 * j → BufAt tag1 σ1 r W ((ns.take j).foldl wnum a).1 ((ns.take j).foldl wnum a).2 → lfpD (l1_wire_Writer_Nums B ro (some ⟨W, 0, none⟩) s Q) (j : Int) σ1 from
  this _ 0 tag σ (Nat.zero_add _) (Step.refl hs) (by simp) (by simpa using h)
 intro m
 induction m with
 | zero =>
  intro j tag1 σ1 hj st _ h1
  refine lfpD.intro ?_
  unfold l1_wire_Writer_Nums
  rw [if_neg (by omega)]
  rw [List.take_of_length_le (by omega)] at h1
  exact hQ tag1 σ1 st h1
 | succ m ih =>
  intro j tag1 σ1 hj st hln h1
  have hjl : j < ns.length := by omega
  have hx1 := hx.keep st (by simp; omega)
  obtain ⟨p, hp, hg⟩ := hx1.ptr st.sep (by simp; omega)
  refine lfpD.intro ?_
  unfold l1_wire_Writer_Nums
  rw [if_pos (by omega)]
  refine ⟨p, hp, by omega, by omega, ns[j], ?_, _, rfl, ?_⟩
  ·have := hg j (Zt.vI ns[j]) (by rw [List.getElem?_map, List.getElem?_eq_getElem hjl]; rfl)
   rw [Int.toNat_natCast]; exact this
  ·refine num_ok h1 hr st.sep (by omega) fun tag2 σ2 st2 h2 => ?_
   rw [Pa.inc j (by omega)]
   have e : (ns.take (j + 1)).foldl wnum a = wnum ((ns.take j).foldl wnum a) ns[j] := by
    rw [List.take_add_one, List.getElem?_eq_getElem hjl, List.foldl_append]; rfl
   have := wnum_len ((ns.take j).foldl wnum a) ns[j]
   exact ih (j + 1) tag2 σ2 (by omega) (st.trans st2) (by rw [e]; omega) (by rw [e]; exact h2)
theorem out_ok {r W : Nat} {a : Str × Bool} {Q : Sl → Int → AH → Prop} (h : BufAt tag σ r W a.1 a.2) (hs : SL.Sep ro σ) (hl : a.1.length ≤ 140737488355328)
  (hbad : a.2 = true → Q ⟨none, 0, 0⟩ 10 σ) (hgood : a.2 = false → ∀ s tag' σ', (∀ R, Step R ro tag σ tag' σ') → Row tag' σ' 6 5 s (a.1.map vU) → Q s 0 σ') : c_wire_Writer_Out B ro (some ⟨W, 0, none⟩) σ Q := by
 refine wire_Writer_Out_ok fun _ => ?_
 unfold f_wire_Writer_Out
 obtain ⟨s0, hcap, lr, h1, h2⟩ := h
 obtain ⟨p, hp, hg⟩ := h1.ptr hs (by simp)
 cases hp
 refine ⟨_, rfl, a.2, hg 3 _ rfl, ?_⟩
 by_cases hb : a.2 = true
 ·rw [if_pos hb]; exact hbad hb
 ·rw [if_neg hb]
  refine ⟨_, rfl, ?_⟩
  refine bytes_Buffer_Bytes_ok fun _ => ?_
  unfold f_bytes_Buffer_Bytes
  refine ⟨_, rfl, _, rfl, s0, hg 0 _ rfl, 0, hg 1 _ rfl, ⟨trivial, by decide, by simp only [cutHi]; omega⟩, ?_⟩
  rw [show (⟨cutA s0.a (Int.toNat 0) s0.cap 1, s0.len - Int.toNat 0, s0.cap - Int.toNat 0⟩ : Sl) = s0 from by rw [show Int.toNat 0 = 0 from rfl, cutA_zero]; rfl]
  refine clone_ok (tag := tag) (h2.read hs) hs (by simp; omega) (vU_st _) fun s' tag1 σ1 st1 r1 => ?_
  exact hgood (by simpa using hb) s' tag1 σ1 st1 r1
theorem u8and (c : UInt8) : bitAnd .u8 (c.toNat : Int) 127 = ((c.toNat % 128 : Nat) : Int) := by
 have h : ∀ c : Fin 256, bitAnd .u8 ((c.val : Nat) : Int) 127 = ((c.val % 128 : Nat) : Int) := by decide +kernel
 exact h ⟨c.toNat, u8_lt c⟩
theorem orshift {n i : Nat} (c : UInt8) (hi : i ≤ 8) (hn : n < 128 ^ i) :
  bitOr .i64 (n : Int) (i64.wrap ((i64.wrap (bitAnd .u8 (c.toNat : Int) 127)) * 2 ^ (min (Int.toNat (i64.wrap (7 * (i : Int)))) 64))) = ((n + 128 ^ i * (c.toNat % 128) : Nat) : Int) := by
 have hm : c.toNat % 128 < 128 := Nat.mod_lt _ (by decide)
 rw [u8and]
 generalize c.toNat % 128 = m at hm
 rw [w64_eq (n := (m : Int)) (by omega) (by omega), w64_eq (n := 7 * (i : Int)) (by omega) (by omega)]
 have hp : (2 : Int) ^ (min (Int.toNat (7 * (i : Int))) 64) = ((128 ^ i : Nat) : Int) := by
  have : i = 0 ∨ i = 1 ∨ i = 2 ∨ i = 3 ∨ i = 4 ∨ i = 5 ∨ i = 6 ∨ i = 7 ∨ i = 8 := by omega
  rcases this with rfl | rfl | rfl | rfl | rfl | rfl | rfl | rfl | rfl <;> decide
 rw [hp]
 have h8 : 128 ^ i ≤ 128 ^ 8 := Nat.pow_le_pow_right (by decide) hi
 have h9 : m * 128 ^ i ≤ 127 * 128 ^ 8 := Nat.mul_le_mul (by omega) h8
 have h9' : m * 128 ^ i ≤ 9151314442816847872 := by simpa using h9
 have hn' : n < 72057594037927936 := Nat.lt_of_lt_of_le hn (by simpa using h8)
 rw [← Int.natCast_mul, w64_eq (by omega) (by omega)]
 unfold bitOr
 have e : (BitVec.ofInt IntKind.i64.bits (n : Int) ||| BitVec.ofInt IntKind.i64.bits ((m * 128 ^ i : Nat) : Int)).toNat = n + 128 ^ i * m := by
  rw [BitVec.toNat_or, BitVec.ofInt_natCast, BitVec.ofInt_natCast, BitVec.toNat_ofNat, BitVec.toNat_ofNat]
  rw [show IntKind.i64.bits = 64 from rfl, Nat.mod_eq_of_lt (by omega), Nat.mod_eq_of_lt (by omega)]
  have e2 : 128 ^ i = 2 ^ (7 * i) := by rw [Nat.pow_mul]
  rw [Nat.or_comm, Nat.mul_comm m, e2, ← Nat.two_pow_add_eq_or_of_lt (by rw [← e2]; exact hn)]
  omega
 rw [e]
 have : 128 ^ i * m = m * 128 ^ i := Nat.mul_comm _ _
 rw [w64_eq (by omega) (by omega)]
theorem number_ok {s : Sl} {l : Str} {Q : Int → Int → Int → AH → Prop} (h : SL.Read ro σ s (l.map vU)) (hl : l.length ≤ 140737488355328) (hQ : Q (num l).1 (num l).2.1 (num l).2.2 σ) : c_wire_Number B ro s 0 σ Q := by
 refine wire_Number_ok fun _ => ?_
 unfold f_wire_Number
 have hln : s.len = l.length := by rw [h.1, List.length_map]
 rw [if_neg (by omega)]
 refine ⟨⟨trivial, by decide, by simp only [cutHi]; omega⟩, ?_⟩
 have e0 : (⟨cutA s.a (Int.toNat 0) s.cap 1, s.len - Int.toNat 0, s.cap - Int.toNat 0⟩ : Sl) = s := by rw [show Int.toNat 0 = 0 from rfl, cutA_zero]; rfl
 suffices ∀ (m i : Nat), i + m = 9 → i ≤ l.length → (∀ j c, j < i → l[j]? = some c → 128 ≤ c.toNat) → lfpD (l2_wire_Number B ro s 0 Q) (((val (l.take i) : Nat) : Int), (i : Int)) σ from
  this 9 0 rfl (Nat.zero_le _) (fun j c h => by omega)
 intro m
 induction m with
 | zero =>
  intro i hi hil hall
  have hi9 : i = 9 := by omega
  subst hi9
  refine lfpD.intro ?_
  unfold l2_wire_Number
  simp only [e0]
  have hnum : num l = (0, 0, if l.length < 9 then 12 else 13) := by unfold num; rw [scan_none_of 9 l hall]
  have hj : j1_wire_Number B ro s 0 Q σ := by
   unfold j1_wire_Number
   rw [Int.sub_zero, w64_eq (by omega) (by omega), if_pos (by omega)]
   rw [hnum, if_neg (by omega)] at hQ
   exact hQ
  by_cases hlt : 9 < l.length
  ·rw [if_pos (by omega)]
   have ha : s.a ≠ none := fun hn => by have := h.2.1 hn; simp at this; subst this; simp at hlt
   obtain ⟨p, hs⟩ : ∃ p, s.a = some p := by
    cases hs : s.a with
    | none => exact absurd hs ha
    | some p => exact ⟨p, rfl⟩
   ·skip
    refine ⟨p, by rw [show Int.toNat 0 = 0 from rfl, cutA_zero, hs], by decide, by omega, (l[9].toNat : Int), ?_, ?_⟩
    ·have := h.2.2 p hs 9 (vU l[9]) (by rw [List.getElem?_map, List.getElem?_eq_getElem hlt]; rfl)
     exact this
    ·rw [if_pos (by decide)]; exact hj
  ·rw [if_neg (by omega)]; exact hj
 | succ m ih =>
  intro i hi hil hall
  refine lfpD.intro ?_
  unfold l2_wire_Number
  simp only [e0]
  by_cases hlt : i < l.length
  ·rw [if_pos (by omega)]
   have ha : s.a ≠ none := fun hn => by have := h.2.1 hn; simp at this; subst this; simp at hlt
   obtain ⟨p, hs⟩ : ∃ p, s.a = some p := by
    cases hs : s.a with
    | none => exact absurd hs ha
    | some p => exact ⟨p, rfl⟩
   ·skip
    refine ⟨p, by rw [show Int.toNat 0 = 0 from rfl, cutA_zero, hs], by omega, by omega, (l[i].toNat : Int), ?_, ?_⟩
    ·have := h.2.2 p hs i (vU l[i]) (by rw [List.getElem?_map, List.getElem?_eq_getElem hlt]; rfl)
     rw [Int.toNat_natCast, Nat.mul_one]; exact this
    ·rw [if_neg (by omega)]
     refine ⟨by rw [w64_eq (by omega) (by omega)]; omega, ?_⟩
     rw [orshift l[i] (by omega) (val_take l i)]
     have hlen : (l.take i).length = i := by simp; omega
     have hval : val (l.take i) + 128 ^ i * (l[i].toNat % 128) = val (l.take (i + 1)) := by
      have e : l.take (i + 1) = l.take i ++ [l[i]] := by rw [List.take_add_one, List.getElem?_eq_getElem hlt]; rfl
      rw [e, val_snoc, hlen]
     rw [hval]
     by_cases hc : l[i].toNat < 128
     ·rw [if_pos (by omega)]
      have hscan : scan 9 l = some i := scan_of 9 l i l[i] (by omega) hall (List.getElem?_eq_getElem hlt) hc
      have hz : (l[i]? = some 0) ↔ l[i].toNat = 0 := by
       rw [List.getElem?_eq_getElem hlt]
       refine ⟨fun h => by rw [Option.some.inj h]; rfl, fun h => congrArg some (u8_eq h)⟩
      unfold num at hQ
      rw [hscan] at hQ
      simp only at hQ
      by_cases hz0 : ((l[i].toNat : Int) = 0) ∧ ((0 : Int) < (i : Int))
      ·rw [if_pos hz0]
       unfold j7_wire_Number
       rw [if_pos rfl]
       rw [if_pos (.inl ⟨by omega, hz.2 (by omega)⟩)] at hQ
       exact hQ
      ·rw [if_neg hz0]
       refine right_ok ?_
       unfold j7_wire_Number
       by_cases hr : 4611686018427387904 ≤ val (l.take (i + 1))
       ·rw [if_pos (by simp [rightN]; omega)]
        rw [if_pos (.inr hr)] at hQ
        exact hQ
       ·rw [if_neg (by simp [rightN]; omega)]
        rw [if_neg (fun h => by
         rcases h with ⟨h1, h2⟩ | h
         ·exact hz0 ⟨by rw [hz.1 h2]; rfl, by omega⟩
         ·exact hr h)] at hQ
        rw [Int.zero_add, orshift l[i] (by omega) (val_take l i), hval, w64_eq (n := (i : Int)) (by omega) (by omega), w64_eq (by omega) (by omega)]
        exact hQ
     ·rw [if_neg (by omega)]
      rw [Pa.inc i (by omega)]
      refine ih (i + 1) (by omega) (by omega) fun j c hj hjc => ?_
      rcases Nat.lt_or_ge j i with h1 | h1
      ·exact hall j c h1 hjc
      ·have : j = i := by omega
       subst this
       rw [List.getElem?_eq_getElem hlt] at hjc
       cases hjc; omega
  ·rw [if_neg (by omega)]
   have hnone : scan 9 l = none := scan_none_of 9 l fun j c _ hjc => hall j c (by
    rcases Nat.lt_or_ge j l.length with h | h
    ·omega
    ·rw [List.getElem?_eq_none h] at hjc; cases hjc) hjc
   unfold num at hQ
   rw [hnone] at hQ
   simp only at hQ
   unfold j1_wire_Number
   rw [Int.sub_zero, w64_eq (by omega) (by omega), if_neg (by omega)]
   rw [if_pos (by omega)] at hQ
   exact hQ
end Wi
namespace Zt
open Go SL G Pa Go.Maps Go.Sort Go.Shelf Go.RowKit
variable {B : World} {ro σ σ' : AH} {tag tag' : Nat → Nat}
theorem kv_keys : ∀ (st : St) (bs : List Nat), bs.length = st.length → (kv st bs).map (·.1) = st.map (·.1) := by
 intro st
 induction st with
 | nil => intro bs h; cases bs <;> rfl
 | cons p st ih =>
  intro bs h
  cases bs with
  | nil => simp at h
  | cons b bs => obtain ⟨p, n⟩ := p; unfold kv; rw [List.map_cons, ih bs (by simpa using h)]; rfl
theorem kv_length (st : St) (bs : List Nat) (h : bs.length = st.length) : (kv st bs).length = st.length := by
 have := congrArg List.length (kv_keys st bs h)
 simpa using this
abbrev RT : Value → Option (DataW Unit × List MemPlace) := fun _ => some (.nil, [])
theorem owns {w : World} {b c : Nat} {m : KV} (hm : MapIs tag σ c b m) (hw : Sees ro σ w) (hs : SL.Sep ro σ) (hnd : (m.map (·.1)).Nodup) (hl : ∀ p ∈ m, p.1.length ≤ 128) (hn : m.length ≤ 4398046511104) :
  ∃ D : DataW Unit, w.ownsMap prog 9 RT b m.length D ∧ Maps.size D = m.length ∧ (strKeys D).Perm (m.map (·.1)) := by
 obtain ⟨es, clock, hb, he, hbn⟩ := hm.obj
 have hwb := hw b _ (by unfold SL.rd; rw [hs b _ hb]; exact hb)
 have hsz : es.size = m.length := by have := congrArg List.length he; simpa using this
 have hkey : ∀ (i : Nat) (h1 : i < es.toList.length), ∃ h2 : i < m.length, (es.toList[i]).key = .string (S m[i].1) := fun i h1 => by
  have h2 : i < m.length := by rw [← hsz]; simpa using h1
  refine ⟨h2, ?_⟩
  have h := congrArg (·[i]?) he
  simp only [List.getElem?_map, List.getElem?_eq_getElem h1, List.getElem?_eq_getElem h2, Option.map_some] at h
  exact congrArg Prod.fst (Option.some.inj h)
 have hko : ∀ (i : Nat) (h1 : i < es.toList.length) (h2 : i < m.length), WideElems.rd prog 9 RT es.toList[i] = some (.string m[i].1, .nil) := fun i h1 h2 => by
  obtain ⟨_, hk⟩ := hkey i h1
  have hlen := hl _ (List.getElem_mem h2)
  unfold WideElems.rd
  rw [hk]
  have : keyOf prog 9 (.string (S m[i].1)) = some (.string m[i].1) := by
   unfold keyOf
   rw [u9]
   show mapKey prog 9 (.string (S m[i].1)) = _
   unfold mapKey
   rw [u9]
   show (if (S m[i].1).size ≤ maxLen then _ else _) = _
   rw [if_pos (by simp only [S_size, maxLen]; omega)]; rfl
  rw [this]; rfl
 refine ⟨.map ((es.toList.map (WideElems.rg prog 9 RT)).foldr DataW.insert []), ⟨es, clock, hwb, ⟨by rw [hsz]; simp only [maxLen]; omega, ⟨hbn.lt, hbn.nd, ?_⟩, ?_⟩, by omega, rfl⟩, ?_, ?_⟩
 ·have : es.toList.map (·.key) = (m.map (·.1)).map fun k => Value.string (S k) := by
   apply List.ext_getElem
   ·simp [hsz]
   ·intro i h1 h2
    simp only [List.getElem_map]
    obtain ⟨_, h⟩ := hkey i (by simpa using h1)
    exact h
  rw [this]
  refine List.Pairwise.map _ (fun a b hab e => hab ?_) hnd
  simpa [S_inj] using e
 ·intro x hx
  obtain ⟨i, hi, rfl⟩ := List.getElem_of_mem hx
  obtain ⟨h2, _⟩ := hkey i hi
  exact ⟨_, hko i hi h2⟩
 ·show ((es.toList.map (WideElems.rg prog 9 RT)).foldr DataW.insert []).length = m.length
  rw [DataW.length_sorted]; simp [hsz]
 ·show (((es.toList.map (WideElems.rg prog 9 RT)).foldr DataW.insert []).map fun p => strOf p.1).Perm _
  refine ((WideShapes.sorted_perm _).map _).trans ?_
  rw [List.map_map]
  have : es.toList.map ((fun p : Lit × DataW Unit => strOf p.1) ∘ WideElems.rg prog 9 RT) = m.map (·.1) := by
   apply List.ext_getElem
   ·simp [hsz]
   ·intro i h1 h2
    simp only [List.getElem_map, Function.comp]
    have h3 : i < es.toList.length := by simpa using h1
    obtain ⟨h4, _⟩ := hkey i h3
    unfold WideElems.rg
    rw [hko i h3 h4]; rfl
  rw [this]
theorem keys_ok {M : Nat} {Q : Value → AH → Prop} (hQ : ∀ gb tag' σ', (∀ R, Step R ro tag σ tag' σ') → Row tag' σ' 0 126 ⟨some ⟨gb, 0, none⟩, 1, 1⟩ [.map (some M)] → Q (.func (.func 132) #[] #[.pointer (some ⟨gb, 0, none⟩)]) σ') :
  c_maps_Keys_ztree_node B ro (some M) σ Q := by
 refine ACalls.of_calls fun w hw hsep => ?_
 refine (callsIn_wide.1 (Tryz.maps_Keys_109 (some M) w)).mono ?_
 rintro e w' ⟨he, rfl⟩
 obtain ⟨N, tag', hN, hst, hrow⟩ := new_row (tag := tag) (w' := w.alloc (.cells #[.map (some M)] 126)) 0 hw hsep (Nat.le_refl w.heap.size) (heap_alloc_new w _)
 exact ⟨_, N, he, (Below.refl _ w).alloc (Nat.le_refl _) _, hN, _, rfl, hQ _ tag' _ hst (hrow _ _ _ rfl rfl (Nat.le_refl _) rfl)⟩
theorem sorted_ok {gb b c : Nat} {m : KV} {Q : Sl → AH → Prop} (r : Nat) (hg : Row tag σ 0 126 ⟨some ⟨gb, 0, none⟩, 1, 1⟩ [.map (some b)]) (hm : MapIs tag σ c b m) (hnd : (m.map (·.1)).Nodup) (hl : ∀ p ∈ m, p.1.length ≤ 128) (hn : m.length ≤ 4398046511104)
  (hQ : ∀ (s : Sl) (tag' : Nat → Nat) (σ' : AH) (ks : List Str), (∀ R, Step R ro tag σ tag' σ') → ks.Perm (m.map (·.1)) → ks.Pairwise (· ≤ ·) → Row tag' σ' r 9 s (ks.map Pa.vS) → Q s σ') : c_slices_Sorted_string B ro (.func (.func 132) #[] #[.pointer (some ⟨gb, 0, none⟩)]) σ Q := by
 refine ACalls.of_calls fun w hw hsep => ?_
 obtain ⟨D, hown, hsz, hperm⟩ := owns hm hw hsep hnd hl hn
 have hcell : w.cell? ⟨gb, 0, none⟩ = some (.map (some b)) := by
  have h1 := Row.cell1 hg hsep
  unfold acell at h1
  rw [cell?_eq]
  cases hr : SL.rd ro σ gb with
  | none => simp only at h1; rw [hr] at h1; cases h1
  | some o => simp only at h1; rw [hw gb o hr]; rw [hr] at h1; exact h1
 have hlt : gb < w.heap.size := by
  rw [cell?_eq] at hcell
  cases hh : w.heap[gb]? with
  | none => simp only at hcell; rw [hh] at hcell; cases hcell
  | some o => exact lt_of_block hh
 have hseq : SeqGives Fence.wide 2 prog 132 #[.pointer (some ⟨gb, 0, none⟩)] encStr (fun ss => ss.Perm (strKeys D)) (Maps.size D) w :=
  AnyZ.keys_gives (ρ := keys109_ren) { keys109 with } Fence.wide _ trivial rfl (by omega) gb b m.length D w hlt hcell hown
 have hsort := AnyZ.sorted_in sorted108 Fence.wide 5 trivial trivial trivial trivial rfl (by omega) (Tryz.sorts108 _) (enters_of func131 (by kernel_rfl) rfl) 132 #[.pointer (some ⟨gb, 0, none⟩)] trivial (enters_of func132 (by kernel_rfl) rfl) _ _ (by rw [hsz]; simp only [maxLen]; omega) (by rw [hsz]; omega) _ hseq
 refine (callsIn_wide.1 hsort).mono ?_
 rintro e w' ⟨v, ss, he, hS, hrow, hnil, hb⟩
 have hpair : (ss.mergeSort (fun x y => decide (x ≤ y))).Pairwise (· ≤ ·) := by
  have := List.pairwise_mergeSort (le := fun x y : List UInt8 => decide (x ≤ y)) (fun a b c h1 h2 => by simp at *; exact List.le_trans h1 h2) (fun a b => by simp; exact List.le_total a b) ss
  simpa using this
 have hpm : (ss.mergeSort (fun x y => decide (x ≤ y))).Perm (m.map (·.1)) := (List.mergeSort_perm _ _).trans (hS.trans hperm)
 have henc : ∀ l : List (List UInt8), l.map encStr = l.map Pa.vS := fun l => rfl
 rcases hrow with ⟨hlen, ⟨rfl, h0⟩ | ⟨g, cap, cur, rfl, hbase, hgb, r1, r2, r3, r4⟩⟩
 ·have h0' : ss = [] := List.eq_nil_of_length_eq_zero h0
  subst h0'
  refine ⟨_, fun _ => none, he, hb, News.none _ _, ⟨none, 0, 0⟩, rfl, ?_⟩
  rw [join_none_right]
  exact hQ _ tag σ _ (fun _ => Step.refl hsep) hpm hpair (by simpa using Row.nil r 9)
 ·obtain ⟨N, tag', hN, hst, hrow⟩ := new_row (tag := tag) r hw hsep hbase hgb
  refine ⟨_, N, he, hb, hN, ⟨some ⟨g, 0, none⟩, ss.length, cap⟩, rfl, ?_⟩
  refine hQ _ tag' _ _ hst hpm hpair (hrow _ _ _ (by simp) (by rw [r3, Nat.mul_one]) r1 ?_)
  rw [Nat.mul_one] at r4
  rw [r4]; rfl
theorem paths_ok {r T M q : Nat} {bs : List Nat} {st : St} {Q : Sl → AH → Prop} (h : TreeAt tag σ r T M bs st) (hl : ∀ p ∈ st, p.1.length ≤ 128) (hn : st.length ≤ 4398046511104)
  (hQ : ∀ (s : Sl) (tag' : Nat → Nat) (σ' : AH) (ks : List Str), (∀ R, Step R ro tag σ tag' σ') → ks.Perm (st.map (·.1)) → ks.Pairwise (· ≤ ·) → Row tag' σ' q 9 s (ks.map Pa.vS) → Q s σ') : c_ztree_Tree_paths B ro (some ⟨T, 0, none⟩) σ Q := by
 refine ztree_Tree_paths_ok fun hs => ?_
 unfold f_ztree_Tree_paths
 refine ⟨_, rfl, _, Row.cell1 h.cell hs, ?_⟩
 refine keys_ok (tag := tag) fun gb tag1 σ1 st1 r1 => ?_
 have hk := kv_keys st bs h.len
 refine sorted_ok q r1 (h.map.keep (st1 [])) (by rw [hk]; exact h.keys) (fun p hp => ?_) (by rw [kv_length _ _ h.len]; exact hn) fun s tag' σ' ks st2 hp hs' hr => ?_
 ·have : p.1 ∈ (kv st bs).map (·.1) := List.mem_map.2 ⟨p, hp, rfl⟩
  rw [hk] at this
  obtain ⟨x, hx, e⟩ := List.mem_map.1 this
  rw [← e]; exact hl x hx
 ·rw [hk] at hp
  exact hQ s tag' σ' ks (fun R => (st1 R).trans (st2 R)) hp hs' hr
end Zt
end Go.Proofs.YthfpmipeejjogaaGreatDoor
