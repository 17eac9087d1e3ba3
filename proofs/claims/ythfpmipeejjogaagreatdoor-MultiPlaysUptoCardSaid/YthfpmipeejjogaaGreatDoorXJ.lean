/- GR7, R7A, Mem5, DelF, MuA, MuC -/
import Derived.Test.YthfpmipeejjogaaGreatDoorXI
set_option maxRecDepth 100000
set_option maxHeartbeats 4000000
set_option linter.unusedVariables false
set_option linter.unusedSimpArgs false
open Go.IntKind (i64)
open Go.Proofs.Tryz
namespace Go.Proofs.YthfpmipeejjogaaGreatDoor
namespace G
open Go SL
variable {B : World} {ro σ : AH}
def f_ref07_New (B : World) (ro : AH) (σ : AH) (Q : Option Addr → AH → Prop) : Prop :=
 nw ro σ (.cells #[.string (⟨#[47]⟩ : ByteArray), Sl.v (⟨none, 0, 0⟩ : Sl), .int .i64 0, .int .i64 0, .int .i64 0] 159) fun u0 σ =>
 nw ro σ (.cells #[Sl.v (⟨some ⟨u0, 0, none⟩, 1, 1⟩ : Sl)] 157) fun u1 σ =>
 Q (some ⟨u1, 0, none⟩) σ
theorem ref07_New_ok {Q : Option Addr → AH → Prop} (h : Sep ro σ → f_ref07_New B ro σ Q) : c_ref07_New B ro σ Q := by
 refine zb h func31 ntmps31 fun h => ?_; unfold f_ref07_New at h; refine z3 ?_; refine zp ?_; refine z4 ?_; refine zm (V_bld (vs := [(0, .string (⟨#[47]⟩ : ByteArray))]) (cs := #[.string (⟨#[47]⟩ : ByteArray), Sl.v (⟨none, 0, 0⟩ : Sl), .int .i64 0, .int .i64 0, .int .i64 0]) rfl underlying159 ty159 pl159 rfl rfl) ?_; refine zA (A_bsl (vs := [(0, .agg #[.string (⟨#[47]⟩ : ByteArray), Sl.v (⟨none, 0, 0⟩ : Sl), .int .i64 0, .int .i64 0, .int .i64 0])]) (cs := #[.string (⟨#[47]⟩ : ByteArray), Sl.v (⟨none, 0, 0⟩ : Sl), .int .i64 0, .int .i64 0, .int .i64 0]) rfl underlying155 ty159 (by decide) rfl rfl) h fun u0 h => ?_
 refine zm (V_bld (vs := [(0, Sl.v (⟨some ⟨u0, 0, none⟩, 1, 1⟩ : Sl))]) (cs := #[Sl.v (⟨some ⟨u0, 0, none⟩, 1, 1⟩ : Sl)]) rfl underlying157 ty157 pl157 rfl rfl) ?_; refine zA (A_box rfl rfl) h fun u1 h => ?_; refine zp ?_; refine z2 ?_; refine AW.ret ?_; exact bR1 results31 rfl ⟨_, rfl, h⟩
def j24_ref07_Tree_Create (B : World) (ro : AH) (a0 : Option Addr) (u0 : ByteArray) (Q : ByteArray → Int → AH → Prop) (u1 : Sl) (σ : AH) : Prop :=
 ∃ p2, a0 = some p2 ∧
 stN p2 (fun σ =>
 Q u0 0 σ) [Sl.v u1] 0 σ
def j21_ref07_Tree_Create (B : World) (ro : AH) (a0 : Option Addr) (a2 : Sl) (a3 : Int) (u0 : ByteArray) (Q : ByteArray → Int → AH → Prop) (u1 : Sl) (u2 : Bool) (σ : AH) : Prop :=
 if ¬ (u2 = true) then
 c_ref01_Copy B ro a2 σ fun u3 σ =>
 nw ro σ (.cells #[.string u0, Sl.v u3, .int .i64 0, .int .i64 0, .int .i64 a3] 159) fun u4 σ =>
 awp prog ro (Builtin.append_ #[155, 155] 155 #[Sl.v u1, Sl.v (⟨some ⟨u4, 0, none⟩, 1, 1⟩ : Sl)]) (fun v σ => ∃ (u5 : Sl), v = Sl.v u5 ∧
  j24_ref07_Tree_Create B ro a0 u0 Q u5 σ) σ
 else
 j24_ref07_Tree_Create B ro a0 u0 Q u1 σ
def j36_ref07_Tree_Create (B : World) (ro : AH) (a0 : Option Addr) (a2 : Sl) (a3 : Int) (u0 : ByteArray) (u1 : Int) (Q : ByteArray → Int → AH → Prop) (Y30 : (Sl × Bool × Int) → AH → Prop) (u2 : Sl) (u3 : Bool) (σ : AH) : Prop :=
 ∃ p4, a0 = some p4 ∧
 ∃ u5, acell ro σ p4 = some (Sl.v u5) ∧
 ∃ p6, u5.a = some p6 ∧ (0 : Int) ≤ u1 ∧ u1 < (u5.len : Int) ∧
 ∃ u7 u8 u9 u10 u11, cellsAt ro σ (p6.add (Int.toNat u1 * 5)) 0 [.string u7, Sl.v u8, .int .i64 u9, .int .i64 u10, .int .i64 u11] ∧
 nw ro σ (.cells #[.string u7, Sl.v u8, .int .i64 u9, .int .i64 u10, .int .i64 u11] 159) fun u12 σ =>
 awp prog ro (Builtin.append_ #[155, 155] 155 #[Sl.v u2, Sl.v (⟨some ⟨u12, 0, none⟩, 1, 1⟩ : Sl)]) (fun v σ => ∃ (u13 : Sl), v = Sl.v u13 ∧
 Y30 (u13, u3, i64.wrap (u1 + 1)) σ) σ
def j45_ref07_Tree_Create (B : World) (ro : AH) (a0 : Option Addr) (a2 : Sl) (a3 : Int) (u0 : ByteArray) (u1 : Sl) (u2 : Bool) (u3 : Int) (Q : ByteArray → Int → AH → Prop) (Y30 : (Sl × Bool × Int) → AH → Prop) (u4 : Bool) (σ : AH) : Prop :=
 if u4 = true then
 c_ref01_Copy B ro a2 σ fun u5 σ =>
 nw ro σ (.cells #[.string u0, Sl.v u5, .int .i64 0, .int .i64 0, .int .i64 a3] 159) fun u6 σ =>
 awp prog ro (Builtin.append_ #[155, 155] 155 #[Sl.v u1, Sl.v (⟨some ⟨u6, 0, none⟩, 1, 1⟩ : Sl)]) (fun v σ => ∃ (u7 : Sl), v = Sl.v u7 ∧
  j36_ref07_Tree_Create B ro a0 a2 a3 u0 u3 Q Y30 u7 true σ) σ
 else
 j36_ref07_Tree_Create B ro a0 a2 a3 u0 u3 Q Y30 u1 u2 σ
def l30_ref07_Tree_Create (B : World) (ro : AH) (a0 : Option Addr) (a2 : Sl) (a3 : Int) (u0 : ByteArray) (Q : ByteArray → Int → AH → Prop) : (Sl × Bool × Int) → AH → ((Sl × Bool × Int) → AH → Prop) → Prop := fun ⟨u1, u2, u3⟩ σ Y30 =>
 ∃ p4, a0 = some p4 ∧
 ∃ u5, acell ro σ p4 = some (Sl.v u5) ∧
 if u3 < (u5.len : Int) then
 if ¬ (u2 = true) then
  ∃ p6, a0 = some p6 ∧
  ∃ u7, acell ro σ p6 = some (Sl.v u7) ∧
  ∃ p8, u7.a = some p8 ∧ (0 : Int) ≤ u3 ∧ u3 < (u7.len : Int) ∧
  ∃ u9, acell ro σ (p8.add (Int.toNat u3 * 5)) = some (.string u9) ∧
  j45_ref07_Tree_Create B ro a0 a2 a3 u0 u1 u2 u3 Q Y30 (lessS u0 u9) σ
 else
 j45_ref07_Tree_Create B ro a0 a2 a3 u0 u1 u2 u3 Q Y30 false σ
 else
 j21_ref07_Tree_Create B ro a0 a2 a3 u0 Q u1 u2 σ
def j13_ref07_Tree_Create (B : World) (ro : AH) (a0 : Option Addr) (a2 : Sl) (a3 : Int) (u0 : Int) (Q : ByteArray → Int → AH → Prop) (u1 : ByteArray) (σ : AH) : Prop :=
 c_ref07_Tree_Find B ro a0 u1 σ fun u2 σ =>
 if 0 ≤ u2 then
 Q (⟨#[]⟩ : ByteArray) 71 σ
 else
 ∃ p3, a0 = some p3 ∧
 ∃ u4, acell ro σ p3 = some (Sl.v u4) ∧
 ∃ p5, u4.a = some p5 ∧ (0 : Int) ≤ u0 ∧ u0 < (u4.len : Int) ∧
 ∃ u6, acell ro σ ((p5.add (Int.toNat u0 * 5)).add 3) = some (.int .i64 u6) ∧
 ∃ p7, u4.a = some p7 ∧ (0 : Int) ≤ u0 ∧ u0 < (u4.len : Int) ∧
 stN ((p7.add (Int.toNat u0 * 5)).add 3) (fun σ =>
 lfpD (l30_ref07_Tree_Create B ro a0 a2 a3 u1 Q ) ((⟨none, 0, 0⟩ : Sl), false, 0) σ) [.int .i64 (i64.wrap (u6 + 1))] 0 σ
def f_ref07_Tree_Create (B : World) (ro : AH) (a0 : Option Addr) (a1 : ByteArray) (a2 : Sl) (a3 : Int) (a4 : Bool) (σ : AH) (Q : ByteArray → Int → AH → Prop) : Prop :=
 c_ref02_Parent B ro a1 σ fun u0 u1 σ =>
 if ¬ (u1 = true) then
 Q (⟨#[]⟩ : ByteArray) 20 σ
 else
 if 256 < (a2.len : Int) then
 Q (⟨#[]⟩ : ByteArray) 75 σ
 else
 c_ref01_Bad B ro a3 σ fun u2 σ =>
 if u2 = true then
 Q (⟨#[]⟩ : ByteArray) 10 σ
 else
 c_ref07_Tree_Find B ro a0 u0 σ fun u3 σ =>
 if u3 < 0 then
 Q (⟨#[]⟩ : ByteArray) 70 σ
 else
 ∃ p4, a0 = some p4 ∧
 ∃ u5, acell ro σ p4 = some (Sl.v u5) ∧
 ∃ p6, u5.a = some p6 ∧ (0 : Int) ≤ u3 ∧ u3 < (u5.len : Int) ∧
 ∃ u7, acell ro σ ((p6.add (Int.toNat u3 * 5)).add 4) = some (.int .i64 u7) ∧
 if ¬ (u7 = 0) then
 Q (⟨#[]⟩ : ByteArray) 74 σ
 else
 ∃ p8, a0 = some p8 ∧
 ∃ u9, acell ro σ p8 = some (Sl.v u9) ∧
 ∃ p10, u9.a = some p10 ∧ (0 : Int) ≤ u3 ∧ u3 < (u9.len : Int) ∧
 ∃ u11, acell ro σ ((p10.add (Int.toNat u3 * 5)).add 3) = some (.int .i64 u11) ∧
 if 9999999999 < u11 then
 Q (⟨#[]⟩ : ByteArray) 76 σ
 else
 if a4 = true then
 ∃ p12, a0 = some p12 ∧
 ∃ u13, acell ro σ p12 = some (Sl.v u13) ∧
 ∃ p14, u13.a = some p14 ∧ (0 : Int) ≤ u3 ∧ u3 < (u13.len : Int) ∧
 ∃ u15, acell ro σ ((p14.add (Int.toNat u3 * 5)).add 3) = some (.int .i64 u15) ∧
 c_ref02_Suffix B ro a1 u15 σ fun u16 u17 σ =>
 if ¬ (u17 = true) then
  Q (⟨#[]⟩ : ByteArray) 20 σ
 else
 j13_ref07_Tree_Create B ro a0 a2 a3 u3 Q u16 σ
 else
 j13_ref07_Tree_Create B ro a0 a2 a3 u3 Q a1 σ
theorem ref07_Tree_Create_ok {a0 : Option Addr} {a1 : ByteArray} {a2 : Sl} {a3 : Int} {a4 : Bool} {Q : ByteArray → Int → AH → Prop} (h : Sep ro σ → f_ref07_Tree_Create B ro a0 a1 a2 a3 a4 σ Q) : c_ref07_Tree_Create B ro a0 a1 a2 a3 a4 σ Q := by
 refine zb h func32 ntmps32 fun h => ?_; unfold f_ref07_Tree_Create at h; refine z3 ?_; iterate 2 refine zp ?_
 refine z4 ?_; refine zp ?_; refine zc func19 h ?_; rintro v σ ⟨u0, u1, rfl, h⟩; iterate 5 refine zp ?_
 refine z2 (AW.seq (z3 ?_))
 iterate 2 refine zp ?_
 refine z2 ?_; refine AW.iff rfl (bnot_iff Iff.rfl) h (fun h => ?_) (fun h => ?_)
 ·refine z3 ?_; iterate 2 refine zp ?_
  refine z2 ?_; refine AW.ret ?_; refine thenR ?_; exact bR2 results32 rfl rfl ⟨_, _, rfl, h⟩
 refine AW.skip ?_; refine thenN (AW.seq (z3 ?_)); refine zp ?_; refine zm (V_lenL rfl rfl underlying30 rfl rfl) ?_; refine zp ?_; refine z2 ?_; refine zi h (fun h => ?_) fun h => ?_
 ·refine z3 ?_; iterate 2 refine zp ?_
  refine z2 ?_; refine AW.ret ?_; refine thenR ?_; exact bR2 results32 rfl rfl ⟨_, _, rfl, h⟩
 refine AW.skip ?_; refine thenN (AW.seq (z3 ?_)); refine zp ?_; refine zc func92 h ?_; rintro v σ ⟨u2, rfl, h⟩; refine z2 ?_; refine zj h (fun h => ?_) fun h => ?_
 ·refine z3 ?_; iterate 2 refine zp ?_
  refine z2 ?_; refine AW.ret ?_; refine thenR ?_; exact bR2 results32 rfl rfl ⟨_, _, rfl, h⟩
 refine AW.skip ?_; refine thenN (z3 ?_); iterate 2 refine zp ?_
 refine zc func84 h ?_; rintro v σ ⟨u3, rfl, h⟩; refine zp ?_; refine z2 (AW.seq (z3 ?_))
 iterate 2 refine zp ?_
 refine z2 ?_; refine zi h (fun h => ?_) fun h => ?_
 ·refine z3 ?_; iterate 2 refine zp ?_
  refine z2 ?_; refine AW.ret ?_; refine thenR ?_; exact bR2 results32 rfl rfl ⟨_, _, rfl, h⟩
 refine AW.skip ?_; refine thenN (AW.seq (z3 ?_)); refine zp ?_; refine zN h fun p4 h => ?_; refine zf underlying157 ty155 ?_; refine zL underlying155 h fun u5 h => ?_; refine zp ?_; obtain ⟨p6, ha, h0, h1, h⟩ := h
 refine zm (V_ixA rfl underlying155 ty159 (ixL rfl ha) rfl h0 h1) ?_; refine zf underlying159 ty3 ?_; refine zL underlying3 h fun u7 h => ?_; refine zp ?_; refine z2 ?_; refine AW.iff rfl (bnot_iff decide_eq_true_iff) h (fun h => ?_) (fun h => ?_)
 ·refine z3 ?_; iterate 2 refine zp ?_
  refine z2 ?_; refine AW.ret ?_; refine thenR ?_; exact bR2 results32 rfl rfl ⟨_, _, rfl, h⟩
 refine AW.skip ?_; refine thenN (AW.seq (z3 ?_)); refine zp ?_; refine zN h fun p8 h => ?_; refine zf underlying157 ty155 ?_; refine zL underlying155 h fun u9 h => ?_; refine zp ?_; obtain ⟨p10, ha, h0, h1, h⟩ := h
 refine zm (V_ixA rfl underlying155 ty159 (ixL rfl ha) rfl h0 h1) ?_; refine zf underlying159 ty3 ?_; refine zL underlying3 h fun u11 h => ?_; refine zp ?_; refine z2 ?_; refine zi h (fun h => ?_) fun h => ?_
 ·refine z3 ?_; iterate 2 refine zp ?_
  refine z2 ?_; refine AW.ret ?_; refine thenR ?_; exact bR2 results32 rfl rfl ⟨_, _, rfl, h⟩
 refine AW.skip ?_; refine thenN ?_; refine AW.seqJ (fun fr σ => ∃ (u12 : ByteArray), FrLe [(0, .pointer a0), (2, Sl.v a2), (3, .int .i64 a3), (14, .int .i64 u3), (1, .string u12)] fr ∧ j13_ref07_Tree_Create B ro a0 a2 a3 u3 Q u12 σ) ?_ ?_
 rotate_left
 ·refine z3 ?_; refine zp ?_; refine z2 ?_; refine zj h (fun h => ?_) fun h => ?_
  rotate_left
  ·refine AW.skip ?_; refine thenN ?_; exact ⟨_, FL, h⟩
  refine z3 ?_; iterate 2 refine zp ?_
  refine zN h fun p13 h => ?_; refine zf underlying157 ty155 ?_; refine zL underlying155 h fun u14 h => ?_; refine zp ?_; obtain ⟨p15, ha, h0, h1, h⟩ := h
  refine zm (V_ixA rfl underlying155 ty159 (ixL rfl ha) rfl h0 h1) ?_; refine zf underlying159 ty3 ?_; refine zL underlying3 h fun u16 h => ?_; refine zc func93 h ?_; rintro v σ ⟨u17, u18, rfl, h⟩; iterate 5 refine zp ?_
  refine z4 ?_; iterate 2 refine zp ?_
  refine z2 ?_; refine AW.iff rfl (bnot_iff Iff.rfl) h (fun h => ?_) (fun h => ?_)
  rotate_left
  ·refine AW.skip ?_; refine thenN ?_; exact ⟨_, FL, h⟩
  refine z3 ?_; iterate 2 refine zp ?_
  refine z2 ?_; refine AW.ret ?_; refine thenR ?_; exact bR2 results32 rfl rfl ⟨_, _, rfl, h⟩
 rintro fr σ ⟨u12, hl, h⟩; refine AW.weaken ?_ hl (HLe.refl _)
 unfold j13_ref07_Tree_Create at h; refine AW.seq (z3 ?_); iterate 2 refine zp ?_
 refine zc func84 h ?_; rintro v σ ⟨u19, rfl, h⟩; refine zp ?_; refine z2 ?_; refine zi h (fun h => ?_) fun h => ?_
 ·refine z3 ?_; iterate 2 refine zp ?_
  refine z2 ?_; refine AW.ret ?_; refine thenR ?_; exact bR2 results32 rfl rfl ⟨_, _, rfl, h⟩
 refine AW.skip ?_; refine thenN (z3 ?_); refine zp ?_; refine zN h fun p20 h => ?_; refine zf underlying157 ty155 ?_; refine zL underlying155 h fun u21 h => ?_; refine zp ?_; obtain ⟨p22, ha, h0, h1, h⟩ := h
 refine zm (V_ixA rfl underlying155 ty159 (ixL rfl ha) rfl h0 h1) ?_; refine zf underlying159 ty3 ?_; refine zL underlying3 h fun u23 h => ?_; refine zp ?_; obtain ⟨p24, ha, h0, h1, h⟩ := h
 refine zm (V_ixA rfl underlying155 ty159 (ixL rfl ha) rfl h0 h1) ?_; refine zf underlying159 ty3 ?_; refine zs ty3 h fun σ h => ?_; refine z4 ?_; refine zp ?_; refine z4 ?_; refine zp ?_; refine z2 ?_; refine AW.seqJ (fun fr σ => ∃ (u25 : Sl) (u26 : Bool), FrLe [(0, .pointer a0), (1, .string u12), (2, Sl.v a2), (3, .int .i64 a3), (15, Sl.v u25), (16, .bool u26)] fr ∧ j21_ref07_Tree_Create B ro a0 a2 a3 u12 Q u25 u26 σ) ?_ ?_
 ·rintro fr σ ⟨u25, u26, hl, h⟩; refine AW.weaken ?_ hl (HLe.refl _)
  unfold j21_ref07_Tree_Create at h; refine AW.seqJ (fun fr σ => ∃ (u27 : Sl), FrLe [(0, .pointer a0), (1, .string u12), (15, Sl.v u27)] fr ∧ j24_ref07_Tree_Create B ro a0 u12 Q u27 σ) ?_ ?_
  ·rintro fr σ ⟨u27, hl, h⟩; refine AW.weaken ?_ hl (HLe.refl _)
   unfold j24_ref07_Tree_Create at h; refine z3 ?_; iterate 2 refine zp ?_
   refine zN h fun p28 h => ?_; refine zf underlying157 ty155 ?_; refine zs ty155 h fun σ h => ?_; refine z4 ?_; iterate 3 refine zp ?_
   refine z2 ?_; refine AW.ret ?_; exact bR2 results32 rfl rfl ⟨_, _, rfl, h⟩
  refine z3 ?_; iterate 2 refine zp ?_
  refine z2 ?_; refine AW.iff rfl (bnot_iff Iff.rfl) h (fun h => ?_) (fun h => ?_)
  rotate_left
  ·refine AW.skip ?_; refine thenN ?_; exact ⟨_, FL, h⟩
  refine AW.reg ?_; iterate 3 refine zp ?_
  refine zc func23 h ?_; rintro v σ ⟨u29, rfl, h⟩; refine zp ?_; refine zm (V_bld (vs := [(0, .string u12), (1, Sl.v u29), (4, .int .i64 a3)]) (cs := #[.string u12, Sl.v u29, .int .i64 0, .int .i64 0, .int .i64 a3]) rfl underlying159 ty159 pl159 rfl rfl) ?_; refine zA (A_bsl (vs := [(0, .agg #[.string u12, Sl.v u29, .int .i64 0, .int .i64 0, .int .i64 a3])]) (cs := #[.string u12, Sl.v u29, .int .i64 0, .int .i64 0, .int .i64 a3]) rfl underlying155 ty159 (by decide) rfl rfl) h fun u30 h => ?_
  refine zl (X_bi (s := Builtin.append_ #[155, 155] 155 #[Sl.v u25, Sl.v (⟨some ⟨u30, 0, none⟩, 1, 1⟩ : Sl)]) rfl rfl (fun _ => rfl) (awp_mono _ h ?_))
  rintro v σ ⟨u31, rfl, h⟩; refine zp ?_; refine z2 ?_; exact ⟨_, FL, h⟩
 refine z3 ?_; refine zp ?_; refine z2 (AW.block ?_)
 refine ARound.loop (fr' := [(0, .pointer a0), (1, .string u12), (2, Sl.v a2), (3, .int .i64 a3), (15, Sl.v (⟨none, 0, 0⟩ : Sl)), (16, .bool false), (17, .int .i64 0)]) ?_ FL
 refine h (fun ⟨u32, u33, u34⟩ σ => ARound _ _ _ _ _ _ [(0, .pointer a0), (1, .string u12), (2, Sl.v a2), (3, .int .i64 a3), (15, Sl.v u32), (16, .bool u33), (17, .int .i64 u34)] σ) ?_
 rintro ⟨u32, u33, u34⟩ σ Y30 hY30 h
 show AW _ _ _ _ _ _ _ _
 unfold l30_ref07_Tree_Create at h; dsimp only at h; refine AW.seq (z3 ?_); iterate 2 refine zp ?_
 refine zN h fun p35 h => ?_; refine zf underlying157 ty155 ?_; refine zL underlying155 h fun u36 h => ?_; refine zm (V_lenL rfl rfl underlying155 rfl rfl) ?_; refine zp ?_; refine z2 ?_; refine zi h (fun h => ?_) fun h => ?_
 rotate_left
 ·refine AW.exit ?_; refine thenE (thenE ?_); refine blockE ?_
  refine thenN ?_; exact ⟨_, _, FL, h⟩
 refine AW.skip ?_; refine thenN (AW.seq (AW.block ?_)); refine AW.seqJ (fun fr σ => ∃ (u37 : Sl) (u38 : Bool), FrLe [(0, .pointer a0), (1, .string u12), (2, Sl.v a2), (3, .int .i64 a3), (17, .int .i64 u34), (15, Sl.v u37), (16, .bool u38)] fr ∧ j36_ref07_Tree_Create B ro a0 a2 a3 u12 u34 Q Y30 u37 u38 σ) ?_ ?_
 ·rintro fr σ ⟨u37, u38, hl, h⟩; refine AW.weaken ?_ hl (HLe.refl _)
  unfold j36_ref07_Tree_Create at h; refine AW.reg ?_; iterate 2 refine zp ?_
  refine zN h fun p39 h => ?_; refine zf underlying157 ty155 ?_; refine zL underlying155 h fun u40 h => ?_; refine zp ?_; obtain ⟨p41, ha, h0, h1, h⟩ := h
  refine zm (V_ixA rfl underlying155 ty159 (ixL rfl ha) rfl h0 h1) ?_; obtain ⟨u42, u43, u44, u45, u46, hc, h⟩ := h
  refine zl (X_lda rfl underlying159 rfl ty159 rfl hc ?_)
  refine zA (A_bsl (vs := [(0, .agg #[.string u42, Sl.v u43, .int .i64 u44, .int .i64 u45, .int .i64 u46])]) (cs := #[.string u42, Sl.v u43, .int .i64 u44, .int .i64 u45, .int .i64 u46]) rfl underlying155 ty159 (by decide) rfl rfl) h fun u47 h => ?_; refine zl (X_bi (s := Builtin.append_ #[155, 155] 155 #[Sl.v u37, Sl.v (⟨some ⟨u47, 0, none⟩, 1, 1⟩ : Sl)]) rfl rfl (fun _ => rfl) (awp_mono _ h ?_))
  rintro v σ ⟨u48, rfl, h⟩; refine zp ?_; refine Lnil (blockN (thenN (AW.reg ?_))); iterate 3 refine zp ?_
  refine z2 ?_; refine ARound.head (fr' := [(0, .pointer a0), (1, .string u12), (2, Sl.v a2), (3, .int .i64 a3), (15, Sl.v u48), (16, .bool u38), (17, .int .i64 (i64.wrap (u34 + 1)))]) ?_ FL
  exact hY30 _ _ h
 refine z3 ?_; iterate 3 refine zp ?_
 refine LsplitJ 11 (!u33) (bnot_iff Iff.rfl) h (fun fr σ => ∃ (u49 : Bool), FrLe [(0, .pointer a0), (1, .string u12), (2, Sl.v a2), (3, .int .i64 a3), (15, Sl.v u32), (16, .bool u33), (17, .int .i64 u34), (106, .bool u49)] fr ∧ j45_ref07_Tree_Create B ro a0 a2 a3 u12 u32 u33 u34 Q Y30 u49 σ) ?_ ?_ ?_
 ·intro h e2 hk2; refine zy e2 ?_; refine zy e2 ?_; obtain ⟨p50, hc, h⟩ := h
  refine Lypb (V_nil rfl (by rw [← hc]; rfl)) rfl rfl rfl rfl e2 ?_
  refine Lypb (V_fld rfl underlying157 rfl ty155 (by decide) rfl) rfl rfl rfl rfl e2 ?_
  obtain ⟨u51, hc, h⟩ := h
  refine Lyb rfl rfl rfl rfl e2 (X_ld rfl underlying155 rfl rfl hc ?_)
  refine zy e2 ?_; obtain ⟨p52, ha, h0, h1, h⟩ := h
  refine Lypb (V_ixA rfl underlying155 ty159 (ixL rfl ha) rfl h0 h1) rfl rfl rfl rfl e2 ?_
  refine Lypb (V_fld rfl underlying159 rfl ty9 (by decide) rfl) rfl rfl rfl rfl e2 ?_
  obtain ⟨u53, hc, h⟩ := h
  refine Lyb rfl rfl rfl rfl e2 (X_ld rfl underlying9 rfl rfl hc ?_)
  refine Lypb (V_lssS rfl rfl rfl) rfl rfl rfl rfl e2 ?_
  refine zk e2 ?_; exact hk2 _ _ ⟨_, FL, h⟩
 ·intro h e2 hk2; iterate 10 refine zn e2 ?_
  refine zk e2 ?_; exact hk2 _ _ ⟨_, FL, h⟩
 rintro fr σ ⟨u49, hl, h⟩; unfold j45_ref07_Tree_Create at h; refine Lfr hl ?_
 refine z2 ?_; refine zj h (fun h => ?_) fun h => ?_
 rotate_left
 ·refine AW.skip ?_; refine thenN ?_; exact ⟨_, _, FL, h⟩
 refine z3 ?_; iterate 3 refine zp ?_
 refine zc func23 h ?_; rintro v σ ⟨u54, rfl, h⟩; refine zp ?_; refine zm (V_bld (vs := [(0, .string u12), (1, Sl.v u54), (4, .int .i64 a3)]) (cs := #[.string u12, Sl.v u54, .int .i64 0, .int .i64 0, .int .i64 a3]) rfl underlying159 ty159 pl159 rfl rfl) ?_; refine zA (A_bsl (vs := [(0, .agg #[.string u12, Sl.v u54, .int .i64 0, .int .i64 0, .int .i64 a3])]) (cs := #[.string u12, Sl.v u54, .int .i64 0, .int .i64 0, .int .i64 a3]) rfl underlying155 ty159 (by decide) rfl rfl) h fun u55 h => ?_
 refine zl (X_bi (s := Builtin.append_ #[155, 155] 155 #[Sl.v u32, Sl.v (⟨some ⟨u55, 0, none⟩, 1, 1⟩ : Sl)]) rfl rfl (fun _ => rfl) (awp_mono _ h ?_))
 rintro v σ ⟨u56, rfl, h⟩; refine zp ?_; refine z2 (AW.reg ?_)
 refine zp ?_; refine z2 ?_; exact ⟨_, _, FL, h⟩
def f_ref07_Tree_Delete (B : World) (ro : AH) (a0 : Option Addr) (a1 : ByteArray) (a2 : Int) (σ : AH) (Q : Int → AH → Prop) : Prop :=
 c_ref07_bad B ro a1 σ fun u0 σ =>
 if u0 = true then
 Q 20 σ
 else
 c_ref07_Tree_node B ro a0 a1 a2 σ fun u1 u2 σ =>
 if ¬ (u2 = 0) then
 Q u2 σ
 else
 c_ref07_Tree_below B ro a0 a1 σ fun u3 σ =>
 if 0 < u3 then
 Q 73 σ
 else
 ∃ p4, a0 = some p4 ∧
 ∃ u5, acell ro σ p4 = some (Sl.v u5) ∧
 cutOk none (some u1) u5.len u5.cap ∧
 awp prog ro (Builtin.append_ #[155, 155] 155 #[Sl.v (⟨none, 0, 0⟩ : Sl), Sl.v (⟨cutA u5.a (0) u5.cap 5, Int.toNat u1 - 0, u5.cap - 0⟩ : Sl)]) (fun v σ => ∃ (u6 : Sl), v = Sl.v u6 ∧
 ∃ p7, a0 = some p7 ∧
 ∃ u8, acell ro σ p7 = some (Sl.v u8) ∧
 cutOk (some (i64.wrap (u1 + 1))) none u8.len u8.cap ∧
 awp prog ro (Builtin.append_ #[155, 155] 155 #[Sl.v u6, Sl.v (⟨cutA u8.a (Int.toNat (i64.wrap (u1 + 1))) u8.cap 5, u8.len - Int.toNat (i64.wrap (u1 + 1)), u8.cap - Int.toNat (i64.wrap (u1 + 1))⟩ : Sl)]) (fun v σ => ∃ (u9 : Sl), v = Sl.v u9 ∧
  ∃ p10, a0 = some p10 ∧
  stN p10 (fun σ =>
  Q 0 σ) [Sl.v u9] 0 σ) σ) σ
theorem ref07_Tree_Delete_ok {a0 : Option Addr} {a1 : ByteArray} {a2 : Int} {Q : Int → AH → Prop} (h : Sep ro σ → f_ref07_Tree_Delete B ro a0 a1 a2 σ Q) : c_ref07_Tree_Delete B ro a0 a1 a2 σ Q := by
 refine zb h func33 ntmps33 fun h => ?_; unfold f_ref07_Tree_Delete at h; refine z3 ?_; refine zp ?_; refine z2 (AW.seq (z3 ?_))
 refine zp ?_; refine zc func94 h ?_; rintro v σ ⟨u0, rfl, h⟩; refine z2 ?_; refine zj h (fun h => ?_) fun h => ?_
 ·refine z3 ?_; refine zp ?_; refine z2 ?_; refine AW.ret ?_; refine thenR ?_; exact bR1 results33 rfl ⟨_, rfl, h⟩
 refine AW.skip ?_; refine thenN (z3 ?_); iterate 3 refine zp ?_
 refine zc func95 h ?_; rintro v σ ⟨u1, u2, rfl, h⟩; iterate 5 refine zp ?_
 refine z2 (AW.seq (z3 ?_))
 iterate 2 refine zp ?_
 refine z2 ?_; refine AW.iff rfl (bnot_iff decide_eq_true_iff) h (fun h => ?_) (fun h => ?_)
 ·refine z3 ?_; iterate 2 refine zp ?_
  refine z2 ?_; refine AW.ret ?_; refine thenR ?_; exact bR1 results33 rfl ⟨_, rfl, h⟩
 refine AW.skip ?_; refine thenN (AW.seq (z3 ?_)); iterate 2 refine zp ?_
 refine zc func85 h ?_; rintro v σ ⟨u3, rfl, h⟩; refine zp ?_; refine z2 ?_; refine zi h (fun h => ?_) fun h => ?_
 ·refine z3 ?_; refine zp ?_; refine z2 ?_; refine AW.ret ?_; refine thenR ?_; exact bR1 results33 rfl ⟨_, rfl, h⟩
 refine AW.skip ?_; refine thenN (z3 ?_); refine zp ?_; refine z4 ?_; iterate 2 refine zp ?_
 refine zN h fun p4 h => ?_; refine zf underlying157 ty155 ?_; refine zL underlying155 h fun u5 h => ?_; refine zp ?_; obtain ⟨hc, h⟩ := h
 refine zm (V_slL (lo := none) (hi := (some u1)) rfl underlying155 ty159 rfl optI_none (optI_some rfl) hc) ?_; refine zl (X_bi (s := Builtin.append_ #[155, 155] 155 #[Sl.v (⟨none, 0, 0⟩ : Sl), Sl.v (⟨cutA u5.a (0) u5.cap 5, Int.toNat u1 - 0, u5.cap - 0⟩ : Sl)]) rfl rfl (fun _ => rfl) (awp_mono _ h ?_))
 rintro v σ ⟨u6, rfl, h⟩; refine zp ?_; refine z4 ?_; iterate 3 refine zp ?_
 refine zN h fun p7 h => ?_; refine zf underlying157 ty155 ?_; refine zL underlying155 h fun u8 h => ?_; iterate 2 refine zp ?_
 obtain ⟨hc, h⟩ := h
 refine zm (V_slL (lo := (some (i64.wrap (u1 + 1)))) (hi := none) rfl underlying155 ty159 rfl (optI_some rfl) optI_none hc) ?_; refine zl (X_bi (s := Builtin.append_ #[155, 155] 155 #[Sl.v u6, Sl.v (⟨cutA u8.a (Int.toNat (i64.wrap (u1 + 1))) u8.cap 5, u8.len - Int.toNat (i64.wrap (u1 + 1)), u8.cap - Int.toNat (i64.wrap (u1 + 1))⟩ : Sl)]) rfl rfl (fun _ => rfl) (awp_mono _ h ?_))
 rintro v σ ⟨u9, rfl, h⟩; refine zN h fun p10 h => ?_; refine zf underlying157 ty155 ?_; refine zs ty155 h fun σ h => ?_; refine z4 ?_; refine zp ?_; refine z2 ?_; refine AW.ret ?_; exact bR1 results33 rfl ⟨_, rfl, h⟩
def f_ref07_Tree_Set (B : World) (ro : AH) (a0 : Option Addr) (a1 : ByteArray) (a2 : Sl) (a3 : Int) (σ : AH) (Q : Int → Int → AH → Prop) : Prop :=
 c_ref07_bad B ro a1 σ fun u0 σ =>
 if u0 = true then
 Q 0 20 σ
 else
 if 256 < (a2.len : Int) then
 Q 0 75 σ
 else
 c_ref07_Tree_node B ro a0 a1 a3 σ fun u1 u2 σ =>
 if ¬ (u2 = 0) then
 Q 0 u2 σ
 else
 lent σ fun ψ σ =>
 ∃ p3, a0 = some p3 ∧
 ∃ u4, acell (join ro ψ) (fun _ => none) p3 = some (Sl.v u4) ∧
 c_ref01_Copy B (join ro ψ) a2 σ fun u5 σ =>
 ∃ p6, u4.a = some p6 ∧ (0 : Int) ≤ u1 ∧ u1 < (u4.len : Int) ∧
 stN ((p6.add (Int.toNat u1 * 5)).add 1) (fun σ =>
  (Disj ψ σ → (fun σ => 
  ∃ p7, a0 = some p7 ∧
  ∃ u8, acell ro σ p7 = some (Sl.v u8) ∧
  ∃ p9, u8.a = some p9 ∧ (0 : Int) ≤ u1 ∧ u1 < (u8.len : Int) ∧
  ∃ u10, acell ro σ ((p9.add (Int.toNat u1 * 5)).add 2) = some (.int .i64 u10) ∧
  ∃ p11, u8.a = some p11 ∧ (0 : Int) ≤ u1 ∧ u1 < (u8.len : Int) ∧
  stN ((p11.add (Int.toNat u1 * 5)).add 2) (fun σ =>
   ∃ p12, a0 = some p12 ∧
   ∃ u13, acell ro σ p12 = some (Sl.v u13) ∧
   ∃ p14, u13.a = some p14 ∧ (0 : Int) ≤ u1 ∧ u1 < (u13.len : Int) ∧
   ∃ u15, acell ro σ ((p14.add (Int.toNat u1 * 5)).add 2) = some (.int .i64 u15) ∧
   Q u15 0 σ) [.int .i64 (i64.wrap (u10 + 1))] 0 σ) (join ψ σ))) [Sl.v u5] 0 σ
theorem ref07_Tree_Set_ok {a0 : Option Addr} {a1 : ByteArray} {a2 : Sl} {a3 : Int} {Q : Int → Int → AH → Prop} (h : Sep ro σ → f_ref07_Tree_Set B ro a0 a1 a2 a3 σ Q) : c_ref07_Tree_Set B ro a0 a1 a2 a3 σ Q := by
 refine zb h func34 ntmps34 fun h => ?_; unfold f_ref07_Tree_Set at h; refine z3 ?_; iterate 2 refine zp ?_
 refine z2 (AW.seq (z3 ?_))
 refine zp ?_; refine zc func94 h ?_; rintro v σ ⟨u0, rfl, h⟩; refine z2 ?_; refine zj h (fun h => ?_) fun h => ?_
 ·refine z3 ?_; iterate 2 refine zp ?_
  refine z2 ?_; refine AW.ret ?_; refine thenR ?_; exact bR2 results34 rfl rfl ⟨_, _, rfl, h⟩
 refine AW.skip ?_; refine thenN (AW.seq (z3 ?_)); refine zp ?_; refine zm (V_lenL rfl rfl underlying30 rfl rfl) ?_; refine zp ?_; refine z2 ?_; refine zi h (fun h => ?_) fun h => ?_
 ·refine z3 ?_; iterate 2 refine zp ?_
  refine z2 ?_; refine AW.ret ?_; refine thenR ?_; exact bR2 results34 rfl rfl ⟨_, _, rfl, h⟩
 refine AW.skip ?_; refine thenN (z3 ?_); iterate 3 refine zp ?_
 refine zc func95 h ?_; rintro v σ ⟨u1, u2, rfl, h⟩; iterate 5 refine zp ?_
 refine z2 (AW.seq (z3 ?_))
 iterate 2 refine zp ?_
 refine z2 ?_; refine AW.iff rfl (bnot_iff decide_eq_true_iff) h (fun h => ?_) (fun h => ?_)
 ·refine z3 ?_; iterate 3 refine zp ?_
  refine z2 ?_; refine AW.ret ?_; refine thenR ?_; exact bR2 results34 rfl rfl ⟨_, _, rfl, h⟩
 refine AW.skip ?_; refine thenN (AW.seq ?_); refine AW.drawnL (fun i => ([0, 0, 0, 0, 0, 0, 2, 0, 0, 2] : List Nat).getD i 2) [] [0, 1, 2, 3, 4, 5, 6, 7, 8, 9] mixed h (by decide +kernel) ?_
 clear h
 intro ψ σ h
 refine zq ?_; obtain ⟨p3, hc, h⟩ := h
 refine Dp rfl rfl rfl rfl (V_nil rfl (by rw [← hc]; rfl)) ?_
 refine zg underlying157 ty155 ?_; obtain ⟨u4, hc, h⟩ := h
 refine Dp rfl rfl rfl rfl (V_ld rfl underlying155 rfl rfl hc) ?_
 iterate 2 refine zq ?_
 refine Dg rfl rfl rfl rfl (X_call rfl func23 rfl rfl rfl (ACalls.mono h ?_))
 rintro v σ ⟨u5, rfl, h⟩; obtain ⟨p6, ha, h0, h1, h⟩ := h
 refine Dp rfl rfl rfl rfl (V_ixA rfl underlying155 ty159 (ixL rfl ha) rfl h0 h1) ?_
 refine zg underlying159 ty30 ?_; refine Dg rfl rfl rfl rfl (X_st rfl ty30 rfl rfl rfl rfl (stN_mono h fun σ h => ?_))
 refine ⟨_, FrEq.refl _, fun hdj => ?_⟩
 replace h := h hdj
 refine thenN (z3 ?_); refine zp ?_; refine zN h fun p7 h => ?_; refine zf underlying157 ty155 ?_; refine zL underlying155 h fun u8 h => ?_; refine zp ?_; obtain ⟨p9, ha, h0, h1, h⟩ := h
 refine zm (V_ixA rfl underlying155 ty159 (ixL rfl ha) rfl h0 h1) ?_; refine zf underlying159 ty3 ?_; refine zL underlying3 h fun u10 h => ?_; refine zp ?_; obtain ⟨p11, ha, h0, h1, h⟩ := h
 refine zm (V_ixA rfl underlying155 ty159 (ixL rfl ha) rfl h0 h1) ?_; refine zf underlying159 ty3 ?_; refine zs ty3 h fun σ h => ?_; refine z4 ?_; refine zp ?_; refine zN h fun p12 h => ?_; refine zf underlying157 ty155 ?_; refine zL underlying155 h fun u13 h => ?_; refine zp ?_; obtain ⟨p14, ha, h0, h1, h⟩ := h
 refine zm (V_ixA rfl underlying155 ty159 (ixL rfl ha) rfl h0 h1) ?_; refine zf underlying159 ty3 ?_; refine zL underlying3 h fun u15 h => ?_; iterate 2 refine zp ?_
 refine z2 ?_; refine AW.ret ?_; exact bR2 results34 rfl rfl ⟨_, _, rfl, h⟩
def j2_ref07_Tree_Encode (B : World) (ro : AH) (Q : Sl → AH → Prop) (u0 : Sl) (σ : AH) : Prop :=
 Q u0 σ
def l4_ref07_Tree_Encode (B : World) (ro : AH) (a0 : Option Addr) (Q : Sl → AH → Prop) : (Sl × Int) → AH → ((Sl × Int) → AH → Prop) → Prop := fun ⟨u0, u1⟩ σ Y4 =>
 ∃ p2, a0 = some p2 ∧
 ∃ u3, acell ro σ p2 = some (Sl.v u3) ∧
 if u1 < (u3.len : Int) then
 ∃ p4, a0 = some p4 ∧
 ∃ u5, acell ro σ p4 = some (Sl.v u5) ∧
 ∃ p6, u5.a = some p6 ∧ (0 : Int) ≤ u1 ∧ u1 < (u5.len : Int) ∧
 ∃ u7 u8 u9 u10 u11, cellsAt ro σ (p6.add (Int.toNat u1 * 5)) 0 [.string u7, Sl.v u8, .int .i64 u9, .int .i64 u10, .int .i64 u11] ∧
 nw ro σ (.cells #[.string ByteArray.empty, Sl.v (⟨none, 0, 0⟩ : Sl), .int .i64 0, .int .i64 0, .int .i64 0] 159) fun u12 σ =>
 stN ⟨u12, 0, none⟩ (fun σ =>
  lent σ fun ψ σ =>
  ∃ u13, acell (join ro ψ) (fun _ => none) ((⟨u12, 0, none⟩ : Addr).add 1) = some (Sl.v u13) ∧
  ∃ u14, acell (join ro ψ) (fun _ => none) ((⟨u12, 0, none⟩ : Addr).add 2) = some (.int .i64 u14) ∧
  ∃ u15, acell (join ro ψ) (fun _ => none) ((⟨u12, 0, none⟩ : Addr).add 3) = some (.int .i64 u15) ∧
  ∃ u16, acell (join ro ψ) (fun _ => none) ((⟨u12, 0, none⟩ : Addr).add 4) = some (.int .i64 u16) ∧
  ∃ u17, acell (join ro ψ) σ ⟨u12, 0, none⟩ = some (.string u17) ∧
  awp prog (join ro ψ) (convert 9 30 (.string u17)) (fun v σ =>
   (∃ (u18 : Sl), v = Sl.v u18 ∧
   c_ref01_Blob B (join ro ψ) u18 σ fun u19 σ =>
   c_ref01_Blob B (join ro ψ) u13 σ fun u20 σ =>
   c_ref01_Put B (join ro ψ) u14 σ fun u21 σ =>
   c_ref01_Put B (join ro ψ) u15 σ fun u22 σ =>
   c_ref01_Put B (join ro ψ) u16 σ fun u23 σ =>
   nw (join ro ψ) σ (.cells #[Sl.v u0, Sl.v u19, Sl.v u20, Sl.v u21, Sl.v u22, Sl.v u23] 30) fun u24 σ =>
   c_ref01_Join B (join ro ψ) (⟨some ⟨u24, 0, none⟩, 6, 6⟩ : Sl) σ fun u25 σ =>
   (Disj ψ σ → (fun σ => 
    Y4 (u25, i64.wrap (u1 + 1)) σ) (join ψ σ)))) σ) [.string u7, Sl.v u8, .int .i64 u9, .int .i64 u10, .int .i64 u11] 0 σ
 else
 j2_ref07_Tree_Encode B ro Q u0 σ
def f_ref07_Tree_Encode (B : World) (ro : AH) (a0 : Option Addr) (σ : AH) (Q : Sl → AH → Prop) : Prop :=
 nw ro σ (.cells #[] 5) fun u0 σ =>
 lfpD (l4_ref07_Tree_Encode B ro a0 Q ) ((⟨some ⟨u0, 0, none⟩, 0, 0⟩ : Sl), 0) σ
theorem ref07_Tree_Encode_ok {a0 : Option Addr} {Q : Sl → AH → Prop} (h : Sep ro σ → f_ref07_Tree_Encode B ro a0 σ Q) : c_ref07_Tree_Encode B ro a0 σ Q := by
 refine zb h func48 ntmps48 fun h => ?_; unfold f_ref07_Tree_Encode at h; refine z3 ?_; refine zp ?_; refine z4 ?_; refine zA (A_bsl (vs := []) (cs := #[]) rfl underlying30 ty5 (by decide) rfl rfl) h fun u0 h => ?_; refine zp ?_; refine z2 ?_; refine AW.seqJ (fun fr σ => ∃ (u1 : Sl), FrLe [(3, Sl.v u1)] fr ∧ j2_ref07_Tree_Encode B ro Q u1 σ) ?_ ?_
 ·rintro fr σ ⟨u1, hl, h⟩; refine AW.weaken ?_ hl (HLe.refl _)
  unfold j2_ref07_Tree_Encode at h; refine z3 ?_; iterate 2 refine zp ?_
  refine z2 ?_; refine AW.ret ?_; exact bR1 results48 rfl ⟨_, rfl, h⟩
 refine z3 ?_; refine zp ?_; refine z2 (AW.block ?_)
 refine ARound.loop (fr' := [(0, .pointer a0), (3, Sl.v (⟨some ⟨u0, 0, none⟩, 0, 0⟩ : Sl)), (4, .int .i64 0)]) ?_ FL
 refine h (fun ⟨u2, u3⟩ σ => ARound _ _ _ _ _ _ [(0, .pointer a0), (3, Sl.v u2), (4, .int .i64 u3)] σ) ?_
 rintro ⟨u2, u3⟩ σ Y4 hY4 h
 show AW _ _ _ _ _ _ _ _
 unfold l4_ref07_Tree_Encode at h; dsimp only at h; refine AW.seq (z3 ?_); iterate 2 refine zp ?_
 refine zN h fun p4 h => ?_; refine zf underlying157 ty155 ?_; refine zL underlying155 h fun u5 h => ?_; refine zm (V_lenL rfl rfl underlying155 rfl rfl) ?_; refine zp ?_; refine z2 ?_; refine zi h (fun h => ?_) fun h => ?_
 rotate_left
 ·refine AW.exit ?_; refine thenE (thenE ?_); refine blockE ?_
  refine thenN ?_; exact ⟨_, FL, h⟩
 refine AW.skip ?_; refine thenN (AW.seq (AW.block (z3 ?_))); refine zp ?_; refine zN h fun p6 h => ?_; refine zf underlying157 ty155 ?_; refine zL underlying155 h fun u7 h => ?_; refine zp ?_; obtain ⟨p8, ha, h0, h1, h⟩ := h
 refine zm (V_ixA rfl underlying155 ty159 (ixL rfl ha) rfl h0 h1) ?_; obtain ⟨u9, u10, u11, u12, u13, hc, h⟩ := h
 refine zl (X_lda rfl underlying159 rfl ty159 rfl hc ?_)
 refine zA (A_alloc rfl ty159) h fun u14 h => ?_; refine zs ty159 h fun σ h => ?_; refine z2 ?_; refine AW.drawnL (fun i => ([0, 0, 3, 2, 2, 0, 0, 2, 0, 0, 2, 0, 0, 2, 0, 0, 2, 1, 2, 0] : List Nat).getD i 2) [(2, 3), (2, 4), (2, 7), (2, 10), (2, 13), (2, 16), (2, 17), (2, 18), (3, 4), (3, 7), (3, 10), (3, 13), (3, 16), (3, 17), (3, 18), (4, 7), (4, 10), (4, 13), (4, 16), (4, 17), (4, 18), (7, 10), (7, 13), (7, 16), (7, 17), (7, 18), (10, 13), (10, 16), (10, 17), (10, 18), (13, 17), (13, 18)] [0, 1, 5, 6, 8, 9, 11, 12, 14, 15, 2, 3, 4, 7, 10, 13, 16, 17, 18, 19] mixed h (by decide +kernel) ?_
 clear h
 intro ψ σ h
 refine zq ?_; refine zg underlying159 ty9 ?_; refine zg underlying159 ty30 ?_; obtain ⟨u15, hc, h⟩ := h
 refine Dp rfl rfl rfl rfl (V_ld rfl underlying30 rfl rfl hc) ?_
 refine zg underlying159 ty3 ?_; obtain ⟨u16, hc, h⟩ := h
 refine Dp rfl rfl rfl rfl (V_ld rfl underlying3 rfl rfl hc) ?_
 refine zg underlying159 ty3 ?_; obtain ⟨u17, hc, h⟩ := h
 refine Dp rfl rfl rfl rfl (V_ld rfl underlying3 rfl rfl hc) ?_
 refine zg underlying159 ty3 ?_; obtain ⟨u18, hc, h⟩ := h
 refine Dp rfl rfl rfl rfl (V_ld rfl underlying3 rfl rfl hc) ?_
 obtain ⟨u19, hc, h⟩ := h
 refine Dr rfl rfl rfl rfl (R_ld rfl underlying9 rfl rfl hc) ?_
 refine Dg rfl rfl rfl rfl (X_cvt rfl rfl (awp_mono _ h ?_))
 rintro v σ ⟨u20, rfl, h⟩; refine Dg rfl rfl rfl rfl (X_call rfl func103 rfl rfl rfl (ACalls.mono h ?_))
 rintro v σ ⟨u21, rfl, h⟩; refine Dg rfl rfl rfl rfl (X_call rfl func103 rfl rfl rfl (ACalls.mono h ?_))
 rintro v σ ⟨u22, rfl, h⟩; refine Dg rfl rfl rfl rfl (X_call rfl func104 rfl rfl rfl (ACalls.mono h ?_))
 rintro v σ ⟨u23, rfl, h⟩; refine Dg rfl rfl rfl rfl (X_call rfl func104 rfl rfl rfl (ACalls.mono h ?_))
 rintro v σ ⟨u24, rfl, h⟩; refine Dg rfl rfl rfl rfl (X_call rfl func104 rfl rfl rfl (ACalls.mono h ?_))
 rintro v σ ⟨u25, rfl, h⟩; refine Da rfl rfl rfl rfl (A_bsl (vs := [(0, Sl.v u2), (1, Sl.v u21), (2, Sl.v u22), (3, Sl.v u23), (4, Sl.v u24), (5, Sl.v u25)]) (cs := #[Sl.v u2, Sl.v u21, Sl.v u22, Sl.v u23, Sl.v u24, Sl.v u25]) rfl underlying208 ty30 (by decide) rfl rfl) fun u26 g1 g2 => ?_
 replace h := h u26 g1 g2
 refine Dg rfl rfl rfl rfl (X_call rfl func72 rfl rfl rfl (ACalls.mono h ?_))
 rintro v σ ⟨u27, rfl, h⟩; refine zq ?_; refine ⟨_, FrEq.refl _, fun hdj => ?_⟩
 replace h := h hdj
 refine blockN (thenN (AW.reg ?_)); iterate 3 refine zp ?_
 refine z2 ?_; refine ARound.head (fr' := [(0, .pointer a0), (3, Sl.v u27), (4, .int .i64 (i64.wrap (u3 + 1)))]) ?_ FL
 exact hY4 _ _ h
def j1_ref07_Tree_Find (B : World) (ro : AH) (Q : Int → AH → Prop) (σ : AH) : Prop :=
 Q (-1) σ
def l2_ref07_Tree_Find (B : World) (ro : AH) (a0 : Option Addr) (a1 : ByteArray) (Q : Int → AH → Prop) : (Int) → AH → ((Int) → AH → Prop) → Prop := fun u0 σ Y2 =>
 ∃ p1, a0 = some p1 ∧
 ∃ u2, acell ro σ p1 = some (Sl.v u2) ∧
 if u0 < (u2.len : Int) then
 ∃ p3, a0 = some p3 ∧
 ∃ u4, acell ro σ p3 = some (Sl.v u4) ∧
 ∃ p5, u4.a = some p5 ∧ (0 : Int) ≤ u0 ∧ u0 < (u4.len : Int) ∧
 ∃ u6, acell ro σ (p5.add (Int.toNat u0 * 5)) = some (.string u6) ∧
 if u6 = a1 then
  Q u0 σ
 else
 Y2 (i64.wrap (u0 + 1)) σ
 else
 j1_ref07_Tree_Find B ro Q σ
def f_ref07_Tree_Find (B : World) (ro : AH) (a0 : Option Addr) (a1 : ByteArray) (σ : AH) (Q : Int → AH → Prop) : Prop :=
 lfpD (l2_ref07_Tree_Find B ro a0 a1 Q ) (0) σ
theorem ref07_Tree_Find_ok {a0 : Option Addr} {a1 : ByteArray} {Q : Int → AH → Prop} (h : Sep ro σ → f_ref07_Tree_Find B ro a0 a1 σ Q) : c_ref07_Tree_Find B ro a0 a1 σ Q := by
 refine zb h func84 ntmps84 fun h => ?_; unfold f_ref07_Tree_Find at h; refine z3 ?_; refine zp ?_; refine z2 ?_; refine AW.seqJ (fun fr σ => FrLe [] fr ∧ j1_ref07_Tree_Find B ro Q σ) ?_ ?_
 ·rintro fr σ ⟨hl, h⟩; refine AW.weaken ?_ hl (HLe.refl _)
  unfold j1_ref07_Tree_Find at h; refine z3 ?_; refine zp ?_; refine z2 ?_; refine AW.ret ?_; exact bR1 results84 rfl ⟨_, rfl, h⟩
 refine z3 ?_; refine zp ?_; refine z2 (AW.block ?_)
 refine ARound.loop (fr' := [(0, .pointer a0), (1, .string a1), (5, .int .i64 0)]) ?_ FL
 refine h (fun u0 σ => ARound _ _ _ _ _ _ [(0, .pointer a0), (1, .string a1), (5, .int .i64 u0)] σ) ?_
 rintro u0 σ Y2 hY2 h
 show AW _ _ _ _ _ _ _ _
 unfold l2_ref07_Tree_Find at h; refine AW.seq (z3 ?_); iterate 2 refine zp ?_
 refine zN h fun p1 h => ?_; refine zf underlying157 ty155 ?_; refine zL underlying155 h fun u2 h => ?_; refine zm (V_lenL rfl rfl underlying155 rfl rfl) ?_; refine zp ?_; refine z2 ?_; refine zi h (fun h => ?_) fun h => ?_
 rotate_left
 ·refine AW.exit ?_; refine thenE (thenE ?_); refine blockE ?_
  refine thenN ?_; exact ⟨FL, h⟩
 refine AW.skip ?_; refine thenN (AW.seq (AW.block (z3 ?_))); refine zp ?_; refine zN h fun p3 h => ?_; refine zf underlying157 ty155 ?_; refine zL underlying155 h fun u4 h => ?_; refine zp ?_; obtain ⟨p5, ha, h0, h1, h⟩ := h
 refine zm (V_ixA rfl underlying155 ty159 (ixL rfl ha) rfl h0 h1) ?_; refine zf underlying159 ty9 ?_; refine zL underlying9 h fun u6 h => ?_; iterate 2 refine zp ?_
 refine z2 ?_; refine zi h (fun h => ?_) fun h => ?_
 ·refine z3 ?_; iterate 2 refine zp ?_
  refine z2 ?_; refine AW.ret ?_; refine blockR (thenR (thenR (blockR (thenR ?_)))); exact bR1 results84 rfl ⟨_, rfl, h⟩
 refine AW.skip ?_; refine blockN (thenN (AW.reg ?_)); iterate 3 refine zp ?_
 refine z2 ?_; refine ARound.head (fr' := [(0, .pointer a0), (1, .string a1), (5, .int .i64 (i64.wrap (u0 + 1)))]) ?_ FL
 exact hY2 _ _ h
def j1_ref07_Tree_below (B : World) (ro : AH) (Q : Int → AH → Prop) (u0 : Int) (σ : AH) : Prop :=
 Q u0 σ
def j8_ref07_Tree_below (B : World) (ro : AH) (a0 : Option Addr) (a1 : ByteArray) (u0 : Int) (Q : Int → AH → Prop) (Y3 : (Int × Int) → AH → Prop) (u1 : Int) (σ : AH) : Prop :=
 Y3 (u1, i64.wrap (u0 + 1)) σ
def l3_ref07_Tree_below (B : World) (ro : AH) (a0 : Option Addr) (a1 : ByteArray) (Q : Int → AH → Prop) : (Int × Int) → AH → ((Int × Int) → AH → Prop) → Prop := fun ⟨u0, u1⟩ σ Y3 =>
 ∃ p2, a0 = some p2 ∧
 ∃ u3, acell ro σ p2 = some (Sl.v u3) ∧
 if u1 < (u3.len : Int) then
 ∃ p4, a0 = some p4 ∧
 ∃ u5, acell ro σ p4 = some (Sl.v u5) ∧
 ∃ p6, u5.a = some p6 ∧ (0 : Int) ≤ u1 ∧ u1 < (u5.len : Int) ∧
 ∃ u7, acell ro σ (p6.add (Int.toNat u1 * 5)) = some (.string u7) ∧
 c_ref02_Parent B ro u7 σ fun u8 u9 σ =>
 if (u9 = true) ∧ (u8 = a1) then
  j8_ref07_Tree_below B ro a0 a1 u1 Q Y3 (i64.wrap (u0 + 1)) σ
 else
 j8_ref07_Tree_below B ro a0 a1 u1 Q Y3 u0 σ
 else
 j1_ref07_Tree_below B ro Q u0 σ
def f_ref07_Tree_below (B : World) (ro : AH) (a0 : Option Addr) (a1 : ByteArray) (σ : AH) (Q : Int → AH → Prop) : Prop :=
 lfpD (l3_ref07_Tree_below B ro a0 a1 Q ) (0, 0) σ
theorem ref07_Tree_below_ok {a0 : Option Addr} {a1 : ByteArray} {Q : Int → AH → Prop} (h : Sep ro σ → f_ref07_Tree_below B ro a0 a1 σ Q) : c_ref07_Tree_below B ro a0 a1 σ Q := by
 refine zb h func85 ntmps85 fun h => ?_; unfold f_ref07_Tree_below at h; refine z3 ?_; refine zp ?_; refine z4 ?_; refine zp ?_; refine z2 ?_; refine AW.seqJ (fun fr σ => ∃ (u0 : Int), FrLe [(5, .int .i64 u0)] fr ∧ j1_ref07_Tree_below B ro Q u0 σ) ?_ ?_
 ·rintro fr σ ⟨u0, hl, h⟩; refine AW.weaken ?_ hl (HLe.refl _)
  unfold j1_ref07_Tree_below at h; refine z3 ?_; iterate 2 refine zp ?_
  refine z2 ?_; refine AW.ret ?_; exact bR1 results85 rfl ⟨_, rfl, h⟩
 refine z3 ?_; refine zp ?_; refine z2 (AW.block ?_)
 refine ARound.loop (fr' := [(0, .pointer a0), (1, .string a1), (5, .int .i64 0), (6, .int .i64 0)]) ?_ FL
 refine h (fun ⟨u1, u2⟩ σ => ARound _ _ _ _ _ _ [(0, .pointer a0), (1, .string a1), (5, .int .i64 u1), (6, .int .i64 u2)] σ) ?_
 rintro ⟨u1, u2⟩ σ Y3 hY3 h
 show AW _ _ _ _ _ _ _ _
 unfold l3_ref07_Tree_below at h; dsimp only at h; refine AW.seq (z3 ?_); iterate 2 refine zp ?_
 refine zN h fun p3 h => ?_; refine zf underlying157 ty155 ?_; refine zL underlying155 h fun u4 h => ?_; refine zm (V_lenL rfl rfl underlying155 rfl rfl) ?_; refine zp ?_; refine z2 ?_; refine zi h (fun h => ?_) fun h => ?_
 rotate_left
 ·refine AW.exit ?_; refine thenE (thenE ?_); refine blockE ?_
  refine thenN ?_; exact ⟨_, FL, h⟩
 refine AW.skip ?_; refine thenN ?_; refine AW.seqJ (fun fr σ => ∃ (u5 : Int), FrLe [(0, .pointer a0), (1, .string a1), (6, .int .i64 u2), (5, .int .i64 u5)] fr ∧ j8_ref07_Tree_below B ro a0 a1 u2 Q Y3 u5 σ) ?_ ?_
 ·rintro fr σ ⟨u5, hl, h⟩; refine AW.weaken ?_ hl (HLe.refl _)
  unfold j8_ref07_Tree_below at h; refine AW.reg ?_; iterate 3 refine zp ?_
  refine z2 ?_; refine ARound.head (fr' := [(0, .pointer a0), (1, .string a1), (5, .int .i64 u5), (6, .int .i64 (i64.wrap (u2 + 1)))]) ?_ FL
  exact hY3 _ _ h
 refine AW.block (z3 ?_); refine zp ?_; refine zN h fun p6 h => ?_; refine zf underlying157 ty155 ?_; refine zL underlying155 h fun u7 h => ?_; refine zp ?_; obtain ⟨p8, ha, h0, h1, h⟩ := h
 refine zm (V_ixA rfl underlying155 ty159 (ixL rfl ha) rfl h0 h1) ?_; refine zf underlying159 ty9 ?_; refine zL underlying9 h fun u9 h => ?_; refine zc func19 h ?_; rintro v σ ⟨u10, u11, rfl, h⟩; iterate 5 refine zp ?_
 refine z4 ?_; iterate 2 refine zp ?_
 refine Lsplit 4 u11 [(0, .pointer a0), (1, .string a1), (5, .int .i64 u1), (6, .int .i64 u2), (35, .bool (u11 && (decide (u10 = a1))))] ?_ ?_ ?_
 ·intro e1 hk1
  refine zy e1 ?_; refine zy e1 ?_; refine zy e1 ?_; refine zk e1 ?_; exact hk1 _ (Fe e1)
 ·intro e1 hk1
  iterate 3 refine zn e1 ?_
  refine zk e1 ?_; exact hk1 _ (Fe e1)
 intro fr hl
 refine Lfr hl ?_
 refine z2 ?_; refine AW.iff rfl (band_iff Iff.rfl decide_eq_true_iff) h (fun h => ?_) (fun h => ?_)
 rotate_left
 ·refine AW.skip ?_; refine blockN (thenN ?_); exact ⟨_, FL, h⟩
 refine AW.reg ?_; iterate 3 refine zp ?_
 refine Lnil (blockN (thenN ?_)); exact ⟨_, FL, h⟩
def j1_ref07_Tree_Owned (B : World) (ro : AH) (Q : Sl → AH → Prop) (u0 : Sl) (σ : AH) : Prop :=
 Q u0 σ
def j8_ref07_Tree_Owned (B : World) (ro : AH) (a0 : Option Addr) (a1 : Sl) (u0 : Int) (Q : Sl → AH → Prop) (Y3 : (Sl × Int) → AH → Prop) (u1 : Sl) (σ : AH) : Prop :=
 Y3 (u1, i64.wrap (u0 + 1)) σ
def j17_ref07_Tree_Owned (B : World) (ro : AH) (a0 : Option Addr) (a1 : Sl) (u0 : Sl) (u1 : Int) (u2 : Int) (Q : Sl → AH → Prop) (Y3 : (Sl × Int) → AH → Prop) (Y10 : (Sl × Int) → AH → Prop) (u3 : Bool) (σ : AH) : Prop :=
 if u3 = true then
 ∃ p4, a0 = some p4 ∧
 ∃ u5, acell ro σ p4 = some (Sl.v u5) ∧
 ∃ p6, u5.a = some p6 ∧ (0 : Int) ≤ u1 ∧ u1 < (u5.len : Int) ∧
 ∃ u7, acell ro σ (p6.add (Int.toNat u1 * 5)) = some (.string u7) ∧
 nw ro σ (.cells #[.string u7] 9) fun u8 σ =>
 awp prog ro (Builtin.append_ #[25, 25] 25 #[Sl.v u0, Sl.v (⟨some ⟨u8, 0, none⟩, 1, 1⟩ : Sl)]) (fun v σ => ∃ (u9 : Sl), v = Sl.v u9 ∧
  j8_ref07_Tree_Owned B ro a0 a1 u1 Q Y3 u9 σ) σ
 else
 Y10 (u0, i64.wrap (u2 + 1)) σ
def l10_ref07_Tree_Owned (B : World) (ro : AH) (a0 : Option Addr) (a1 : Sl) (u0 : Int) (Q : Sl → AH → Prop) (Y3 : (Sl × Int) → AH → Prop) : (Sl × Int) → AH → ((Sl × Int) → AH → Prop) → Prop := fun ⟨u1, u2⟩ σ Y10 =>
 if u2 < (a1.len : Int) then
 ∃ p3, a0 = some p3 ∧
 ∃ u4, acell ro σ p3 = some (Sl.v u4) ∧
 ∃ p5, u4.a = some p5 ∧ (0 : Int) ≤ u0 ∧ u0 < (u4.len : Int) ∧
 ∃ u6, acell ro σ ((p5.add (Int.toNat u0 * 5)).add 4) = some (.int .i64 u6) ∧
 if ¬ (u6 = 0) then
  ∃ p7, a1.a = some p7 ∧ (0 : Int) ≤ u2 ∧ u2 < (a1.len : Int) ∧
  ∃ u8, acell ro σ (p7.add (Int.toNat u2 * 1)) = some (.int .i64 u8) ∧
  j17_ref07_Tree_Owned B ro a0 a1 u1 u0 u2 Q Y3 Y10 (decide (u6 = u8)) σ
 else
 j17_ref07_Tree_Owned B ro a0 a1 u1 u0 u2 Q Y3 Y10 false σ
 else
 j8_ref07_Tree_Owned B ro a0 a1 u0 Q Y3 u1 σ
def l3_ref07_Tree_Owned (B : World) (ro : AH) (a0 : Option Addr) (a1 : Sl) (Q : Sl → AH → Prop) : (Sl × Int) → AH → ((Sl × Int) → AH → Prop) → Prop := fun ⟨u0, u1⟩ σ Y3 =>
 ∃ p2, a0 = some p2 ∧
 ∃ u3, acell ro σ p2 = some (Sl.v u3) ∧
 if u1 < (u3.len : Int) then
 lfpD (l10_ref07_Tree_Owned B ro a0 a1 u1 Q Y3 ) (u0, 0) σ
 else
 j1_ref07_Tree_Owned B ro Q u0 σ
def f_ref07_Tree_Owned (B : World) (ro : AH) (a0 : Option Addr) (a1 : Sl) (σ : AH) (Q : Sl → AH → Prop) : Prop :=
 lfpD (l3_ref07_Tree_Owned B ro a0 a1 Q ) ((⟨none, 0, 0⟩ : Sl), 0) σ
theorem ref07_Tree_Owned_ok {a0 : Option Addr} {a1 : Sl} {Q : Sl → AH → Prop} (h : Sep ro σ → f_ref07_Tree_Owned B ro a0 a1 σ Q) : c_ref07_Tree_Owned B ro a0 a1 σ Q := by
 refine zb h func88 ntmps88 fun h => ?_; unfold f_ref07_Tree_Owned at h; refine z3 ?_; refine zp ?_; refine z4 ?_; refine zp ?_; refine z2 ?_; refine AW.seqJ (fun fr σ => ∃ (u0 : Sl), FrLe [(5, Sl.v u0)] fr ∧ j1_ref07_Tree_Owned B ro Q u0 σ) ?_ ?_
 ·rintro fr σ ⟨u0, hl, h⟩; refine AW.weaken ?_ hl (HLe.refl _)
  unfold j1_ref07_Tree_Owned at h; refine z3 ?_; iterate 2 refine zp ?_
  refine z2 ?_; refine AW.ret ?_; exact bR1 results88 rfl ⟨_, rfl, h⟩
 refine z3 ?_; refine zp ?_; refine z2 (AW.block ?_)
 refine ARound.loop (fr' := [(0, .pointer a0), (1, Sl.v a1), (5, Sl.v (⟨none, 0, 0⟩ : Sl)), (6, .int .i64 0)]) ?_ FL
 refine h (fun ⟨u1, u2⟩ σ => ARound _ _ _ _ _ _ [(0, .pointer a0), (1, Sl.v a1), (5, Sl.v u1), (6, .int .i64 u2)] σ) ?_
 rintro ⟨u1, u2⟩ σ Y3 hY3 h
 show AW _ _ _ _ _ _ _ _
 unfold l3_ref07_Tree_Owned at h; dsimp only at h; refine AW.seq (z3 ?_); iterate 2 refine zp ?_
 refine zN h fun p3 h => ?_; refine zf underlying157 ty155 ?_; refine zL underlying155 h fun u4 h => ?_; refine zm (V_lenL rfl rfl underlying155 rfl rfl) ?_; refine zp ?_; refine z2 ?_; refine zi h (fun h => ?_) fun h => ?_
 rotate_left
 ·refine AW.exit ?_; refine thenE (thenE ?_); refine blockE ?_
  refine thenN ?_; exact ⟨_, FL, h⟩
 refine AW.skip ?_; refine thenN ?_; refine AW.seqJ (fun fr σ => ∃ (u5 : Sl), FrLe [(0, .pointer a0), (1, Sl.v a1), (6, .int .i64 u2), (5, Sl.v u5)] fr ∧ j8_ref07_Tree_Owned B ro a0 a1 u2 Q Y3 u5 σ) ?_ ?_
 ·rintro fr σ ⟨u5, hl, h⟩; refine AW.weaken ?_ hl (HLe.refl _)
  unfold j8_ref07_Tree_Owned at h; refine AW.reg ?_; iterate 3 refine zp ?_
  refine z2 ?_; refine ARound.head (fr' := [(0, .pointer a0), (1, Sl.v a1), (5, Sl.v u5), (6, .int .i64 (i64.wrap (u2 + 1)))]) ?_ FL
  exact hY3 _ _ h
 refine AW.block (z3 ?_); refine zp ?_; refine z2 (AW.block ?_)
 refine ARound.loop (fr' := [(0, .pointer a0), (1, Sl.v a1), (6, .int .i64 u2), (5, Sl.v u1), (7, .int .i64 0)]) ?_ FL
 refine h (fun ⟨u6, u7⟩ σ => ARound _ _ _ _ _ _ [(0, .pointer a0), (1, Sl.v a1), (6, .int .i64 u2), (5, Sl.v u6), (7, .int .i64 u7)] σ) ?_
 rintro ⟨u6, u7⟩ σ Y10 hY10 h
 show AW _ _ _ _ _ _ _ _
 unfold l10_ref07_Tree_Owned at h; dsimp only at h; refine AW.seq (z3 ?_); iterate 2 refine zp ?_
 refine zm (V_lenL rfl rfl underlying58 rfl rfl) ?_; refine zp ?_; refine z2 ?_; refine zi h (fun h => ?_) fun h => ?_
 rotate_left
 ·refine AW.exit ?_; refine thenE (thenE ?_); refine blockE ?_
  refine blockN (thenN ?_); exact ⟨_, FL, h⟩
 refine AW.skip ?_; refine thenN (AW.seq (AW.block (z3 ?_))); refine zp ?_; refine zN h fun p8 h => ?_; refine zf underlying157 ty155 ?_; refine zL underlying155 h fun u9 h => ?_; refine zp ?_; obtain ⟨p10, ha, h0, h1, h⟩ := h
 refine zm (V_ixA rfl underlying155 ty159 (ixL rfl ha) rfl h0 h1) ?_; refine zf underlying159 ty3 ?_; refine zL underlying3 h fun u11 h => ?_; refine zp ?_; refine z4 ?_; iterate 3 refine zp ?_
 refine LsplitJ 7 (!(decide (u11 = 0))) (bnot_iff decide_eq_true_iff) h (fun fr σ => ∃ (u12 : Bool), FrLe [(0, .pointer a0), (1, Sl.v a1), (5, Sl.v u6), (6, .int .i64 u2), (7, .int .i64 u7), (41, .bool u12)] fr ∧ j17_ref07_Tree_Owned B ro a0 a1 u6 u2 u7 Q Y3 Y10 u12 σ) ?_ ?_ ?_
 ·intro h e2 hk2; refine zy e2 ?_; refine zy e2 ?_; refine zy e2 ?_; obtain ⟨p13, ha, h0, h1, h⟩ := h
  refine Lypb (V_ixA rfl underlying58 ty3 (ixL rfl ha) rfl h0 h1) rfl rfl rfl rfl e2 ?_
  obtain ⟨u14, hc, h⟩ := h
  refine Lyb rfl rfl rfl rfl e2 (X_ld rfl underlying3 rfl rfl hc ?_)
  refine zy e2 ?_; refine zk e2 ?_; exact hk2 _ _ ⟨_, FL, h⟩
 ·intro h e2 hk2; iterate 6 refine zn e2 ?_
  refine zk e2 ?_; exact hk2 _ _ ⟨_, FL, h⟩
 rintro fr σ ⟨u12, hl, h⟩; unfold j17_ref07_Tree_Owned at h; refine Lfr hl ?_
 refine z2 ?_; refine zj h (fun h => ?_) fun h => ?_
 rotate_left
 ·refine AW.skip ?_; refine blockN (thenN (AW.reg ?_)); iterate 3 refine zp ?_
  refine z2 ?_; refine ARound.head (fr' := [(0, .pointer a0), (1, Sl.v a1), (6, .int .i64 u2), (5, Sl.v u6), (7, .int .i64 (i64.wrap (u7 + 1)))]) ?_ FL
  exact hY10 _ _ h
 refine z3 ?_; iterate 2 refine zp ?_
 refine zN h fun p15 h => ?_; refine zf underlying157 ty155 ?_; refine zL underlying155 h fun u16 h => ?_; refine zp ?_; obtain ⟨p17, ha, h0, h1, h⟩ := h
 refine zm (V_ixA rfl underlying155 ty159 (ixL rfl ha) rfl h0 h1) ?_; refine zf underlying159 ty9 ?_; refine zL underlying9 h fun u18 h => ?_; refine zA (A_bsl (vs := [(0, .string u18)]) (cs := #[.string u18]) rfl underlying25 ty9 (by decide) rfl rfl) h fun u19 h => ?_; refine zl (X_bi (s := Builtin.append_ #[25, 25] 25 #[Sl.v u6, Sl.v (⟨some ⟨u19, 0, none⟩, 1, 1⟩ : Sl)]) rfl rfl (fun _ => rfl) (awp_mono _ h ?_))
 rintro v σ ⟨u20, rfl, h⟩; refine zp ?_; refine z2 ?_; refine AW.exit ?_; refine blockO rfl ?_
 refine thenE (thenE ?_); refine blockE ?_
 refine blockN (thenN ?_); exact ⟨_, FL, h⟩
def f_ref07_Tree_Get (B : World) (ro : AH) (a0 : Option Addr) (a1 : ByteArray) (σ : AH) (Q : ByteArray → Sl → Int → Int → Int → Int → Int → AH → Prop) : Prop :=
 nw ro σ (.cells #[.string ByteArray.empty, Sl.v (⟨none, 0, 0⟩ : Sl), .int .i64 0, .int .i64 0, .int .i64 0] 159) fun u0 σ =>
 c_ref02_Parts B ro a1 σ fun u1 u2 σ =>
 if ¬ (u2 = true) then
 stN ⟨u0, 0, none⟩ (fun σ =>
  ∃ u3 u4 u5 u6 u7, cellsAt ro σ ⟨u0, 0, none⟩ 0 [.string u3, Sl.v u4, .int .i64 u5, .int .i64 u6, .int .i64 u7] ∧
  Q u3 u4 u5 u6 u7 0 20 σ) [.string ByteArray.empty, Sl.v (⟨none, 0, 0⟩ : Sl), .int .i64 0, .int .i64 0, .int .i64 0] 0 σ
 else
 c_ref07_Tree_Find B ro a0 a1 σ fun u8 σ =>
 if u8 < 0 then
 stN ⟨u0, 0, none⟩ (fun σ =>
  ∃ u9 u10 u11 u12 u13, cellsAt ro σ ⟨u0, 0, none⟩ 0 [.string u9, Sl.v u10, .int .i64 u11, .int .i64 u12, .int .i64 u13] ∧
  Q u9 u10 u11 u12 u13 0 70 σ) [.string ByteArray.empty, Sl.v (⟨none, 0, 0⟩ : Sl), .int .i64 0, .int .i64 0, .int .i64 0] 0 σ
 else
 lent σ fun ψ σ =>
 ∃ p14, a0 = some p14 ∧
 ∃ u15, acell (join ro ψ) (fun _ => none) p14 = some (Sl.v u15) ∧
 ∃ p16, u15.a = some p16 ∧ (0 : Int) ≤ u8 ∧ u8 < (u15.len : Int) ∧
 ∃ u17 u18 u19 u20 u21, cellsAt (join ro ψ) (fun _ => none) (p16.add (Int.toNat u8 * 5)) 0 [.string u17, Sl.v u18, .int .i64 u19, .int .i64 u20, .int .i64 u21] ∧
 c_ref07_Tree_below B (join ro ψ) a0 a1 σ fun u22 σ =>
 stN ⟨u0, 0, none⟩ (fun σ =>
  (Disj ψ σ → (fun σ => 
  ∃ u23 u24 u25 u26 u27, cellsAt ro σ ⟨u0, 0, none⟩ 0 [.string u23, Sl.v u24, .int .i64 u25, .int .i64 u26, .int .i64 u27] ∧
  Q u23 u24 u25 u26 u27 u22 0 σ) (join ψ σ))) [.string u17, Sl.v u18, .int .i64 u19, .int .i64 u20, .int .i64 u21] 0 σ
theorem ref07_Tree_Get_ok {a0 : Option Addr} {a1 : ByteArray} {Q : ByteArray → Sl → Int → Int → Int → Int → Int → AH → Prop} (h : Sep ro σ → f_ref07_Tree_Get B ro a0 a1 σ Q) : c_ref07_Tree_Get B ro a0 a1 σ Q := by
 refine zb h func89 ntmps89 fun h => ?_; unfold f_ref07_Tree_Get at h; refine z3 ?_; refine zA (A_alloc rfl ty159) h fun u0 h => ?_; iterate 2 refine zp ?_
 refine z2 (AW.seq (z3 ?_))
 refine zp ?_; refine zc func64 h ?_; rintro v σ ⟨u1, u2, rfl, h⟩; iterate 5 refine zp ?_
 refine z4 ?_; iterate 2 refine zp ?_
 refine z2 ?_; refine AW.iff rfl (bnot_iff Iff.rfl) h (fun h => ?_) (fun h => ?_)
 ·refine z3 ?_; refine zm (V_bld (vs := []) (cs := #[.string ByteArray.empty, Sl.v (⟨none, 0, 0⟩ : Sl), .int .i64 0, .int .i64 0, .int .i64 0]) rfl underlying159 ty159 pl159 rfl rfl) ?_; refine zs ty159 h fun σ h => ?_; iterate 2 refine zp ?_
  refine z2 ?_; refine AW.ret ?_; refine thenR ?_; obtain ⟨u3, u4, u5, u6, u7, hc0, h⟩ := h
  exact bRM results89 (rCons (rAgg rfl underlying159 rfl ty159 hc0) (rCons (rTmp rfl) (rCons (rTmp rfl) rNil))) ⟨_, _, _, _, _, _, _, rfl, h⟩
 refine AW.skip ?_; refine thenN (z3 ?_); iterate 2 refine zp ?_
 refine zc func84 h ?_; rintro v σ ⟨u8, rfl, h⟩; refine zp ?_; refine z2 (AW.seq (z3 ?_))
 iterate 2 refine zp ?_
 refine z2 ?_; refine zi h (fun h => ?_) fun h => ?_
 ·refine z3 ?_; refine zm (V_bld (vs := []) (cs := #[.string ByteArray.empty, Sl.v (⟨none, 0, 0⟩ : Sl), .int .i64 0, .int .i64 0, .int .i64 0]) rfl underlying159 ty159 pl159 rfl rfl) ?_; refine zs ty159 h fun σ h => ?_; iterate 2 refine zp ?_
  refine z2 ?_; refine AW.ret ?_; refine thenR ?_; obtain ⟨u9, u10, u11, u12, u13, hc0, h⟩ := h
  exact bRM results89 (rCons (rAgg rfl underlying159 rfl ty159 hc0) (rCons (rTmp rfl) (rCons (rTmp rfl) rNil))) ⟨_, _, _, _, _, _, _, rfl, h⟩
 refine AW.skip ?_; refine thenN (AW.seq ?_); refine AW.drawnL (fun i => ([0, 0, 0, 0, 0, 0, 0, 0, 0, 2, 2, 0, 0] : List Nat).getD i 2) [] [0, 1, 2, 3, 4, 5, 6, 7, 8, 9, 10, 11, 12] mixed h (by decide +kernel) ?_
 clear h
 intro ψ σ h
 refine zq ?_; obtain ⟨p14, hc, h⟩ := h
 refine Dp rfl rfl rfl rfl (V_nil rfl (by rw [← hc]; rfl)) ?_
 refine zg underlying157 ty155 ?_; obtain ⟨u15, hc, h⟩ := h
 refine Dp rfl rfl rfl rfl (V_ld rfl underlying155 rfl rfl hc) ?_
 refine zq ?_; obtain ⟨p16, ha, h0, h1, h⟩ := h
 refine Dp rfl rfl rfl rfl (V_ixA rfl underlying155 ty159 (ixL rfl ha) rfl h0 h1) ?_
 obtain ⟨u17, u18, u19, u20, u21, hc, h⟩ := h
 refine Dp rfl rfl rfl rfl (V_lda rfl underlying159 rfl ty159 rfl hc) ?_
 iterate 2 refine zq ?_
 refine Dg rfl rfl rfl rfl (X_call rfl func85 rfl rfl rfl (ACalls.mono h ?_))
 rintro v σ ⟨u22, rfl, h⟩; refine Dg rfl rfl rfl rfl (X_st rfl ty159 rfl rfl rfl rfl (stN_mono h fun σ h => ?_))
 iterate 2 refine zq ?_
 refine ⟨_, FrEq.refl _, fun hdj => ?_⟩
 replace h := h hdj
 refine thenN ?_; refine AW.ret ?_; obtain ⟨u23, u24, u25, u26, u27, hc0, h⟩ := h
 exact bRM results89 (rCons (rAgg rfl underlying159 rfl ty159 hc0) (rCons (rTmp rfl) (rCons (rTmp rfl) rNil))) ⟨_, _, _, _, _, _, _, rfl, h⟩
def f_ref07_bad (B : World) (ro : AH) (a0 : ByteArray) (σ : AH) (Q : Bool → AH → Prop) : Prop :=
 c_ref02_Parent B ro a0 σ fun u0 u1 σ =>
 Q (!u1) σ
theorem ref07_bad_ok {a0 : ByteArray} {Q : Bool → AH → Prop} (h : Sep ro σ → f_ref07_bad B ro a0 σ Q) : c_ref07_bad B ro a0 σ Q := by
 refine zb h func94 ntmps94 fun h => ?_; unfold f_ref07_bad at h; refine z3 ?_; refine zp ?_; refine z4 ?_; refine zp ?_; refine zc func19 h ?_; rintro v σ ⟨u0, u1, rfl, h⟩; iterate 5 refine zp ?_
 refine z4 ?_; iterate 3 refine zp ?_
 refine z2 ?_; refine AW.ret ?_; exact bR1 results94 rfl ⟨_, rfl, h⟩
def j2_ref07_Tree_node (B : World) (ro : AH) (u0 : Int) (Q : Int → Int → AH → Prop) (u1 : Bool) (σ : AH) : Prop :=
 if u1 = true then
 Q 0 72 σ
 else
 Q u0 0 σ
def f_ref07_Tree_node (B : World) (ro : AH) (a0 : Option Addr) (a1 : ByteArray) (a2 : Int) (σ : AH) (Q : Int → Int → AH → Prop) : Prop :=
 c_ref07_Tree_Find B ro a0 a1 σ fun u0 σ =>
 if u0 < 0 then
 Q 0 70 σ
 else
 if ¬ (a2 = (-1)) then
 ∃ p1, a0 = some p1 ∧
 ∃ u2, acell ro σ p1 = some (Sl.v u2) ∧
 ∃ p3, u2.a = some p3 ∧ (0 : Int) ≤ u0 ∧ u0 < (u2.len : Int) ∧
 ∃ u4, acell ro σ ((p3.add (Int.toNat u0 * 5)).add 2) = some (.int .i64 u4) ∧
 j2_ref07_Tree_node B ro u0 Q (!(decide (a2 = u4))) σ
 else
 j2_ref07_Tree_node B ro u0 Q false σ
theorem ref07_Tree_node_ok {a0 : Option Addr} {a1 : ByteArray} {a2 : Int} {Q : Int → Int → AH → Prop} (h : Sep ro σ → f_ref07_Tree_node B ro a0 a1 a2 σ Q) : c_ref07_Tree_node B ro a0 a1 a2 σ Q := by
 refine zb h func95 ntmps95 fun h => ?_; unfold f_ref07_Tree_node at h; refine z3 ?_; iterate 2 refine zp ?_
 refine z4 ?_; iterate 2 refine zp ?_
 refine zc func84 h ?_; rintro v σ ⟨u0, rfl, h⟩; refine zp ?_; refine z2 (AW.seq (z3 ?_))
 iterate 2 refine zp ?_
 refine z2 ?_; refine zi h (fun h => ?_) fun h => ?_
 ·refine z3 ?_; iterate 2 refine zp ?_
  refine z2 ?_; refine AW.ret ?_; refine thenR ?_; exact bR2 results95 rfl rfl ⟨_, _, rfl, h⟩
 refine AW.skip ?_; refine thenN (AW.seq (z3 ?_)); iterate 3 refine zp ?_
 refine LsplitJ 11 (!(decide (a2 = (-1)))) (bnot_iff decide_eq_true_iff) h (fun fr σ => ∃ (u1 : Bool), FrLe [(8, .int .i64 u0), (27, .bool u1)] fr ∧ j2_ref07_Tree_node B ro u0 Q u1 σ) ?_ ?_ ?_
 ·intro h e2 hk2; refine zy e2 ?_; refine zy e2 ?_; obtain ⟨p2, hc, h⟩ := h
  refine Lypb (V_nil rfl (by rw [← hc]; rfl)) rfl rfl rfl rfl e2 ?_
  refine Lypb (V_fld rfl underlying157 rfl ty155 (by decide) rfl) rfl rfl rfl rfl e2 ?_
  obtain ⟨u3, hc, h⟩ := h
  refine Lyb rfl rfl rfl rfl e2 (X_ld rfl underlying155 rfl rfl hc ?_)
  refine zy e2 ?_; obtain ⟨p4, ha, h0, h1, h⟩ := h
  refine Lypb (V_ixA rfl underlying155 ty159 (ixL rfl ha) rfl h0 h1) rfl rfl rfl rfl e2 ?_
  refine Lypb (V_fld rfl underlying159 rfl ty3 (by decide) rfl) rfl rfl rfl rfl e2 ?_
  obtain ⟨u5, hc, h⟩ := h
  refine Lyb rfl rfl rfl rfl e2 (X_ld rfl underlying3 rfl rfl hc ?_)
  refine zy e2 ?_; refine zk e2 ?_; exact hk2 _ _ ⟨_, FL, h⟩
 ·intro h e2 hk2; iterate 10 refine zn e2 ?_
  refine zk e2 ?_; exact hk2 _ _ ⟨_, FL, h⟩
 rintro fr σ ⟨u1, hl, h⟩; unfold j2_ref07_Tree_node at h; refine Lfr hl ?_
 refine z2 ?_; refine zj h (fun h => ?_) fun h => ?_
 ·refine z3 ?_; iterate 2 refine zp ?_
  refine z2 ?_; refine AW.ret ?_; refine thenR ?_; exact bR2 results95 rfl rfl ⟨_, _, rfl, h⟩
 refine AW.skip ?_; refine thenN (z3 ?_); iterate 3 refine zp ?_
 refine z2 ?_; refine AW.ret ?_; exact bR2 results95 rfl rfl ⟨_, _, rfl, h⟩
def j2_ref07_Tree_Copy (B : World) (ro : AH) (u0 : Nat) (Q : Option Addr → AH → Prop) (σ : AH) : Prop :=
 Q (some ⟨u0, 0, none⟩) σ
def l3_ref07_Tree_Copy (B : World) (ro : AH) (a0 : Option Addr) (u0 : Nat) (Q : Option Addr → AH → Prop) : (Int) → AH → ((Int) → AH → Prop) → Prop := fun u1 σ Y3 =>
 ∃ p2, a0 = some p2 ∧
 ∃ u3, acell ro σ p2 = some (Sl.v u3) ∧
 if u1 < (u3.len : Int) then
 ∃ p4, a0 = some p4 ∧
 ∃ u5, acell ro σ p4 = some (Sl.v u5) ∧
 ∃ p6, u5.a = some p6 ∧ (0 : Int) ≤ u1 ∧ u1 < (u5.len : Int) ∧
 ∃ u7 u8 u9 u10 u11, cellsAt ro σ (p6.add (Int.toNat u1 * 5)) 0 [.string u7, Sl.v u8, .int .i64 u9, .int .i64 u10, .int .i64 u11] ∧
 nw ro σ (.cells #[.string ByteArray.empty, Sl.v (⟨none, 0, 0⟩ : Sl), .int .i64 0, .int .i64 0, .int .i64 0] 159) fun u12 σ =>
 stN ⟨u12, 0, none⟩ (fun σ =>
  ∃ u13, acell ro σ ((⟨u12, 0, none⟩ : Addr).add 1) = some (Sl.v u13) ∧
  c_ref01_Copy B ro u13 σ fun u14 σ =>
  stN ((⟨u12, 0, none⟩ : Addr).add 1) (fun σ =>
  ∃ u15, acell ro σ ⟨u0, 0, none⟩ = some (Sl.v u15) ∧
  ∃ u16 u17 u18 u19 u20, cellsAt ro σ ⟨u12, 0, none⟩ 0 [.string u16, Sl.v u17, .int .i64 u18, .int .i64 u19, .int .i64 u20] ∧
  nw ro σ (.cells #[.string u16, Sl.v u17, .int .i64 u18, .int .i64 u19, .int .i64 u20] 159) fun u21 σ =>
  awp prog ro (Builtin.append_ #[155, 155] 155 #[Sl.v u15, Sl.v (⟨some ⟨u21, 0, none⟩, 1, 1⟩ : Sl)]) (fun v σ => ∃ (u22 : Sl), v = Sl.v u22 ∧
   stN ⟨u0, 0, none⟩ (fun σ =>
   Y3 (i64.wrap (u1 + 1)) σ) [Sl.v u22] 0 σ) σ) [Sl.v u14] 0 σ) [.string u7, Sl.v u8, .int .i64 u9, .int .i64 u10, .int .i64 u11] 0 σ
 else
 j2_ref07_Tree_Copy B ro u0 Q σ
def f_ref07_Tree_Copy (B : World) (ro : AH) (a0 : Option Addr) (σ : AH) (Q : Option Addr → AH → Prop) : Prop :=
 nw ro σ (.cells #[Sl.v (⟨none, 0, 0⟩ : Sl)] 157) fun u0 σ =>
 lfpD (l3_ref07_Tree_Copy B ro a0 u0 Q ) (0) σ
theorem ref07_Tree_Copy_ok {a0 : Option Addr} {Q : Option Addr → AH → Prop} (h : Sep ro σ → f_ref07_Tree_Copy B ro a0 σ Q) : c_ref07_Tree_Copy B ro a0 σ Q := by
 refine zb h func98 ntmps98 fun h => ?_; unfold f_ref07_Tree_Copy at h; refine z3 ?_; refine zp ?_; refine z4 ?_; refine zm (V_bld (vs := []) (cs := #[Sl.v (⟨none, 0, 0⟩ : Sl)]) rfl underlying157 ty157 pl157 rfl rfl) ?_; refine zA (A_box rfl rfl) h fun u0 h => ?_; refine zp ?_; refine z2 ?_; refine AW.seqJ (fun fr σ => FrLe [(3, .pointer (some ⟨u0, 0, none⟩))] fr ∧ j2_ref07_Tree_Copy B ro u0 Q σ) ?_ ?_
 ·rintro fr σ ⟨hl, h⟩; refine AW.weaken ?_ hl (HLe.refl _)
  unfold j2_ref07_Tree_Copy at h; refine z3 ?_; iterate 2 refine zp ?_
  refine z2 ?_; refine AW.ret ?_; exact bR1 results98 rfl ⟨_, rfl, h⟩
 refine z3 ?_; refine zp ?_; refine z2 (AW.block ?_)
 refine ARound.loop (fr' := [(0, .pointer a0), (3, .pointer (some ⟨u0, 0, none⟩)), (4, .int .i64 0)]) ?_ FL
 refine h (fun u1 σ => ARound _ _ _ _ _ _ [(0, .pointer a0), (3, .pointer (some ⟨u0, 0, none⟩)), (4, .int .i64 u1)] σ) ?_
 rintro u1 σ Y3 hY3 h
 show AW _ _ _ _ _ _ _ _
 unfold l3_ref07_Tree_Copy at h; refine AW.seq (z3 ?_); iterate 2 refine zp ?_
 refine zN h fun p2 h => ?_; refine zf underlying157 ty155 ?_; refine zL underlying155 h fun u3 h => ?_; refine zm (V_lenL rfl rfl underlying155 rfl rfl) ?_; refine zp ?_; refine z2 ?_; refine zi h (fun h => ?_) fun h => ?_
 rotate_left
 ·refine AW.exit ?_; refine thenE (thenE ?_); refine blockE ?_
  refine thenN ?_; exact ⟨FL, h⟩
 refine AW.skip ?_; refine thenN (AW.seq (AW.block (z3 ?_))); refine zp ?_; refine zN h fun p4 h => ?_; refine zf underlying157 ty155 ?_; refine zL underlying155 h fun u5 h => ?_; refine zp ?_; obtain ⟨p6, ha, h0, h1, h⟩ := h
 refine zm (V_ixA rfl underlying155 ty159 (ixL rfl ha) rfl h0 h1) ?_; obtain ⟨u7, u8, u9, u10, u11, hc, h⟩ := h
 refine zl (X_lda rfl underlying159 rfl ty159 rfl hc ?_)
 refine zA (A_alloc rfl ty159) h fun u12 h => ?_; refine zs ty159 h fun σ h => ?_; refine z4 ?_; refine zf underlying159 ty30 ?_; refine zL underlying30 h fun u13 h => ?_; refine zc func23 h ?_; rintro v σ ⟨u14, rfl, h⟩; refine zf underlying159 ty30 ?_; refine zs ty30 h fun σ h => ?_; refine z2 ?_; refine AW.drawn0 (fun i => ([0, 0, 0, 0, 3, 3, 1, 2, 0, 0, 2] : List Nat).getD i 2) [(5, 6), (5, 7)] [0, 1, 2, 3, 4, 5, 6, 7, 8, 9, 10] mixed (by decide +kernel) ?_
 iterate 2 refine zq ?_
 refine Dp rfl rfl rfl rfl (V_nil rfl rfl) ?_
 refine zg underlying157 ty155 ?_; obtain ⟨u15, hc, h⟩ := h
 refine Dr rfl rfl rfl rfl (R_ld rfl underlying155 rfl rfl hc) ?_
 obtain ⟨u16, u17, u18, u19, u20, hc, h⟩ := h
 refine Dr rfl rfl rfl rfl (R_lda rfl underlying159 rfl ty159 rfl hc) ?_
 refine Da rfl rfl rfl rfl (A_bsl (vs := [(0, .agg #[.string u16, Sl.v u17, .int .i64 u18, .int .i64 u19, .int .i64 u20])]) (cs := #[.string u16, Sl.v u17, .int .i64 u18, .int .i64 u19, .int .i64 u20]) rfl underlying155 ty159 (by decide) rfl rfl) fun u21 g1 g2 => ?_
 replace h := h u21 g1 g2
 refine Dg rfl rfl rfl rfl (X_bi (s := Builtin.append_ #[155, 155] 155 #[Sl.v u15, Sl.v (⟨some ⟨u21, 0, none⟩, 1, 1⟩ : Sl)]) rfl rfl (fun _ => rfl) (awp_mono _ h ?_))
 rintro v σ ⟨u22, rfl, h⟩; refine Dp rfl rfl rfl rfl (V_nil rfl rfl) ?_
 refine zg underlying157 ty155 ?_; refine Dg rfl rfl rfl rfl (X_st rfl ty155 rfl rfl rfl rfl (stN_mono h fun σ h => ?_))
 refine Dend ?_
 refine blockN (thenN (AW.reg ?_)); iterate 3 refine zp ?_
 refine z2 ?_; refine ARound.head (fr' := [(0, .pointer a0), (3, .pointer (some ⟨u0, 0, none⟩)), (4, .int .i64 (i64.wrap (u1 + 1)))]) ?_ FL
 exact hY3 _ _ h
end G
namespace Zt
open Go SL G Pa
variable {B : World} {ro σ σ' : AH} {tag tag' : Nat → Nat}
def nodeV (p : Str × Nd) (d : Sl) : List Value := [.string (S p.1), Sl.v d, .int .i64 p.2.ver, .int .i64 p.2.ctr, .int .i64 p.2.own]
def RefM (ro σ : AH) (T : Nat) (l : St) : Prop := ∃ s : Sl, acell ro σ ⟨T, 0, none⟩ = some (Sl.v s) ∧ s.len = l.length ∧
 ∀ (j : Nat) (p : Str × Nd), l[j]? = some p → ∃ b d, s.a = some ⟨b, 0, none⟩ ∧ (∀ (i : Nat) (v : Value), (nodeV p d)[i]? = some v → acell ro σ ⟨b, j * 5 + i, none⟩ = some v) ∧ SL.Read ro σ d (p.2.data.map vU)
def fnd : St → Str → Nat → Int
 | [], _, _ => -1
 | p :: r, k, i => if p.1 = k then (i : Int) else fnd r k (i + 1)
theorem find7_ok {T : Nat} {l : St} {k : Str} {Q : Int → AH → Prop} (h : RefM ro σ T l) (hl : l.length ≤ 4294967296) (hQ : Q (fnd l k 0) σ) : c_ref07_Tree_Find B ro (some ⟨T, 0, none⟩) (S k) σ Q := by
 refine ref07_Tree_Find_ok fun hs => ?_
 unfold f_ref07_Tree_Find
 obtain ⟨s, hT, hsl, hrow⟩ := h
 suffices ∀ m j, j + m = l.length → Q (fnd (l.drop j) k j) σ → lfpD (l2_ref07_Tree_Find B ro (some ⟨T, 0, none⟩) (S k) Q) (j : Int) σ from this _ 0 (Nat.zero_add _) hQ
 intro m
 induction m with
 | zero =>
  intro j hj hq
  refine lfpD.intro ?_
  unfold l2_ref07_Tree_Find
  refine ⟨_, rfl, s, hT, ?_⟩
  rw [if_neg (by omega)]
  unfold j1_ref07_Tree_Find
  rw [List.drop_of_length_le (by omega)] at hq
  exact hq
 | succ m ih =>
  intro j hj hq
  have hjl : j < l.length := by omega
  rw [List.drop_eq_getElem_cons hjl] at hq
  obtain ⟨b, d, ha, hc, hd⟩ := hrow j l[j] (List.getElem?_eq_getElem hjl)
  refine lfpD.intro ?_
  unfold l2_ref07_Tree_Find
  refine ⟨_, rfl, s, hT, ?_⟩
  rw [if_pos (by omega)]
  refine ⟨_, rfl, s, hT, _, ha, by omega, by omega, S l[j].1, ?_, ?_⟩
  ·have := hc 0 _ rfl
   rw [Int.toNat_natCast, add_add, Nat.zero_add]; exact this
  unfold fnd at hq
  by_cases c : l[j].1 = k
  ·rw [if_pos (by rw [S_inj]; exact c)]
   rw [if_pos c] at hq; exact hq
  ·rw [if_neg (by rw [S_inj]; exact c), Pa.inc j (by omega)]
   rw [if_neg c] at hq
   exact ih (j + 1) (by omega) hq
theorem kc_snoc (a : List Str) (q u : Str) : kc (a ++ [q]) u = kc a u + if parent q = some u then 1 else 0 := by
 unfold kc; simp [List.countP_append, List.countP_cons]
theorem below7_ok {T : Nat} {l : St} {k : Str} {Q : Int → AH → Prop} (h : RefM ro σ T l) (hl : l.length ≤ 4294967296) (hQ : Q ((kc (l.map (·.1)) k : Nat) : Int) σ) : c_ref07_Tree_below B ro (some ⟨T, 0, none⟩) (S k) σ Q := by
 refine ref07_Tree_below_ok fun hs => ?_
 unfold f_ref07_Tree_below
 obtain ⟨s, hT, hsl, hrow⟩ := h
 suffices ∀ m j, j + m = l.length → lfpD (l3_ref07_Tree_below B ro (some ⟨T, 0, none⟩) (S k) Q) ((((kc ((l.take j).map (·.1)) k : Nat) : Int)), (j : Int)) σ from this _ 0 (Nat.zero_add _)
 intro m
 induction m with
 | zero =>
  intro j hj
  refine lfpD.intro ?_
  unfold l3_ref07_Tree_below
  simp only
  refine ⟨_, rfl, s, hT, ?_⟩
  rw [if_neg (by omega)]
  unfold j1_ref07_Tree_below
  rw [List.take_of_length_le (by omega)]
  exact hQ
 | succ m ih =>
  intro j hj
  have hjl : j < l.length := by omega
  obtain ⟨b, d, ha, hc, hd⟩ := hrow j l[j] (List.getElem?_eq_getElem hjl)
  have hkc : kc ((l.take j).map (·.1)) k ≤ j := by
   unfold kc
   refine Nat.le_trans List.countP_le_length ?_
   rw [List.length_map, List.length_take]; omega
  have etk : (l.take (j + 1)).map (·.1) = (l.take j).map (·.1) ++ [l[j].1] := by
   rw [List.take_add_one, List.getElem?_eq_getElem hjl, List.map_append]; rfl
  refine lfpD.intro ?_
  unfold l3_ref07_Tree_below
  simp only
  refine ⟨_, rfl, s, hT, ?_⟩
  rw [if_pos (by omega)]
  refine ⟨_, rfl, s, hT, _, ha, by omega, by omega, S l[j].1, ?_, ?_⟩
  ·have := hc 0 _ rfl
   rw [Int.toNat_natCast, add_add, Nat.zero_add]; exact this
  have next : ∀ c : Int, c = ((kc ((l.take (j + 1)).map (·.1)) k : Nat) : Int) → j8_ref07_Tree_below B ro (some ⟨T, 0, none⟩) (S k) (j : Int) Q (lfpD (l3_ref07_Tree_below B ro (some ⟨T, 0, none⟩) (S k) Q)) c σ := fun c hcc => by
   unfold j8_ref07_Tree_below
   rw [Pa.inc j (by omega), hcc]
   exact ih (j + 1) (by omega)
  refine rparent_ok (fun hn => ?_) fun u hu => ?_
  ·rw [if_neg (by simp)]
   rw [L_S] at hn
   exact next _ (by rw [etk, kc_snoc, hn]; simp)
  ·rw [L_S] at hu
   by_cases c : u = k
   ·rw [if_pos ⟨rfl, by rw [c]⟩]
    exact next _ (by rw [etk, kc_snoc, hu, c, if_pos rfl, Pa.inc _ (by omega)])
   ·rw [if_neg (by rw [S_inj]; exact fun h => c h.2)]
    exact next _ (by rw [etk, kc_snoc, hu, if_neg (by simpa using c)]; simp)
theorem bad7_ok {k : Str} {Q : Bool → AH → Prop} (hQ : Q (decide (parent k = none)) σ) : c_ref07_bad B ro (S k) σ Q := by
 refine ref07_bad_ok fun hs => ?_
 unfold f_ref07_bad
 refine rparent_ok (fun hn => ?_) fun u hu => ?_
 ·rw [L_S] at hn; rw [hn] at hQ; simpa using hQ
 ·rw [L_S] at hu; rw [hu] at hQ; simpa using hQ
end Zt
namespace SL
open Go
variable {P : Program} {B : World} {ro σ σ' : AH} {tag tag' : Nat → Nat}
theorem zeroCells_list (zv : Value) (n : Nat) : (Builtin.zeroCells #[zv] n).toList = List.replicate n zv := by
 apply List.ext_getElem?
 intro i
 simp only [Builtin.zeroCells, Array.getElem?_toList, Array.getElem?_map, Array.size, List.length_cons, List.length_nil, Nat.mul_one]
 rcases Nat.lt_or_ge i n with h | h
 ·rw [List.getElem?_replicate, if_pos h]
  simp [h, Nat.mod_one]
 ·rw [List.getElem?_replicate, if_neg (by omega)]
  simp; omega
theorem awp_clearTail {r e t ty : TypeId} {s : Sl} {l : List Value} {m bytes : Nat} {zv : Value} {Q : Value → AH → Prop} (h : Row tag σ r e s l) (hs : Sep ro σ) (ht : P.underlying t = some (.slice e)) (hz : TyIs P e zv 1 bytes) (hzc : zv.cells = #[zv]) (hv : storable zv = true)
  (hm : m ≤ l.length) (hQ : ∀ σ', Step [r] ro tag σ tag σ' → Row tag σ' r e ⟨s.a, m, s.cap⟩ (l.take m) → Q (.tuple #[]) σ') :
  awp P ro (Builtin.clear_ #[t] ty #[Sl.v (⟨cutA s.a m s.cap 1, s.len - m, s.cap - m⟩ : Sl)]) Q σ := by
 have g0 : (#[t] : Array TypeId)[0]? = some t := rfl
 have g1 : (#[Value.slice (cutA s.a m s.cap 1) (s.len - m) (s.cap - m)] : Array Value)[0]? = some (Value.slice (cutA s.a m s.cap 1) (s.len - m) (s.cap - m)) := rfl
 have hl := h.len
 unfold Builtin.clear_
 simp only [Sl.v, bind_def, pure_def, g0, g1]
 rw [awp_underlying ht]
 have done : Q (.tuple #[]) σ ∨ 0 < s.len - m := by
  rcases Nat.eq_zero_or_pos (s.len - m) with h0 | h0
  ·refine .inl (hQ σ (Step.refl hs) ?_)
   exact h.take hm
  ·exact .inr h0
 rcases Nat.eq_zero_or_pos (s.len - m) with h0 | h0
 ·have hd := done.resolve_right (by omega)
  rw [h0]
  cases hc : cutA s.a m s.cap 1 with
  | none => exact hd
  | some a => exact hd
 ·rcases h with ⟨rfl, rfl⟩ | ⟨b, cs, ha, htg, hbk, hln, hcp, hle, hg⟩
  ·simp at h0
  ·have hcut : cutA s.a m s.cap 1 = some ⟨b, m, none⟩ := by
    unfold cutA
    rw [if_neg (by omega), ha]
    simp [add_add]
   rw [hcut]
   obtain ⟨k, hk⟩ : ∃ k, s.len - m = k + 1 := ⟨s.len - m - 1, by omega⟩
   rw [hk]
   simp only
   rw [awp_zero hz, hzc, zeroCells_list]
   refine (awp_bind _ _).2 ?_
   refine awp_storeCells (List.replicate (k + 1) zv) 0 σ (stN_blk (List.replicate (k + 1) zv) cs 0 σ hbk (by simp; omega) (fun v hvm => by rw [(List.mem_replicate.1 hvm).2]; exact hv) fun cs' c1 c2 c3 => ?_)
   refine hQ _ (step_obj hs htg hbk) ?_
   refine .inr ⟨b, cs', ha, htg, upd_same _ _ _, by simp; omega, by rw [c1]; exact hcp, by simp; omega, fun i hi => ?_⟩
   simp at hi
   rw [c2 i (by omega), List.getElem?_take, if_pos (by omega)]
   exact hg i (by omega)
end SL
namespace Zt
open Go SL G Pa
variable {B : World} {ro σ σ' : AH} {tag tag' : Nat → Nat}
theorem t25' : prog.underlying 25 = some (.slice 9) := by kernel_rfl
theorem ty9' : TyIs prog 9 (.string ByteArray.empty) 1 16 := TyIs.of (by kernel_rfl)
theorem delFunc_ok {q : Nat} {s : Sl} {l : List Str} {f : Str → Bool} {fv : Value} {Q : Sl → AH → Prop} (h : Row tag σ q 9 s (l.map Pa.vS)) (hs : SL.Sep ro σ) (hl : l.length < 4611686018427387904)
  (hcall : ∀ k ∈ l, ∀ σ', Step [q] ro tag σ tag σ' → ∀ K : Value → AH → Prop, K (.bool (f k)) σ' → callV prog B ro fv [.string (S k)] σ' K)
  (hQ : ∀ s' σ', Step [q] ro tag σ tag σ' → Row tag σ' q 9 s' ((l.filter fun k => !f k).map Pa.vS) → Q s' σ') : c_slices_DeleteFunc_string_string B ro s fv σ Q := by
 refine slices_DeleteFunc_string_string_ok fun _ => ?_
 unfold f_slices_DeleteFunc_string_string
 refine slices_IndexFunc_string_string_ok fun _ => ?_
 unfold f_slices_IndexFunc_string_string
 have hln : s.len = l.length := by rw [h.len, List.length_map]
 have second : ∀ (m j w : Nat) (cur : List Str) (σ1 : AH), j + m = l.length → w ≤ j → cur.length = l.length → cur.take w = (l.take j).filter (fun k => !f k) → (∀ i, j ≤ i → cur[i]? = l[i]?) → Step [q] ro tag σ tag σ1 → Row tag σ1 q 9 s (cur.map Pa.vS) →
   lfpD (l4_slices_DeleteFunc_string_string B ro s fv Q) ((w : Int), (j : Int)) σ1 := by
  intro m
  induction m with
  | zero =>
   intro j w cur σ1 hj hw hcl htk hrest st1 r1
   refine lfpD.intro ?_
   unfold l4_slices_DeleteFunc_string_string
   simp only
   rw [if_neg (by omega)]
   unfold j2_slices_DeleteFunc_string_string
   have hcap := r1.capAt
   rw [List.length_map] at hcap
   refine ⟨⟨trivial, by omega, by simp only [cutHi]; omega⟩, ?_⟩
   rw [Int.toNat_natCast]
   refine awp_clearTail r1 st1.sep t25' ty9' rfl rfl (by simp; omega) fun σ2 st2 r2 => ?_
   refine ⟨rfl, ⟨⟨by omega, by omega⟩, trivial⟩, ?_⟩
   rw [cutA_zero, Nat.sub_zero, Nat.sub_zero]
   refine hQ _ σ2 (st1.trans st2) ?_
   rw [← List.map_take, htk, List.take_of_length_le (by omega)] at r2
   exact r2
  | succ m ih =>
   intro j w cur σ1 hj hw hcl htk hrest st1 r1
   have hjl : j < l.length := by omega
   have hjc : j < cur.length := by omega
   have hcj : cur[j] = l[j] := by
    have := hrest j (Nat.le_refl _)
    rw [List.getElem?_eq_getElem hjc, List.getElem?_eq_getElem hjl] at this
    exact Option.some.inj this
   obtain ⟨p, hp, _, hget⟩ := Row.sget r1 st1.sep hjc
   refine lfpD.intro ?_
   unfold l4_slices_DeleteFunc_string_string
   simp only
   rw [if_pos (by omega)]
   refine ⟨p, hp, by omega, by omega, S cur[j], by rw [Int.toNat_natCast]; exact hget j hjc, ?_⟩
   rw [hcj]
   refine hcall _ (List.getElem_mem hjl) σ1 st1 _ ⟨f l[j], rfl, ?_⟩
   have etk : (l.take (j + 1)).filter (fun k => !f k) = (l.take j).filter (fun k => !f k) ++ if f l[j] then [] else [l[j]] := by
    rw [List.take_add_one, List.getElem?_eq_getElem hjl, List.filter_append]
    simp only [Option.toList_some, List.filter_cons, List.filter_nil]
    cases f l[j] <;> rfl
   cases hf : f l[j] with
   | true =>
    rw [if_neg (by simp)]
    unfold j7_slices_DeleteFunc_string_string
    rw [Pa.inc j (by omega)]
    exact ih (j + 1) w cur σ1 (by omega) (by omega) hcl (by rw [etk, hf]; simpa using htk) (fun i hi => hrest i (by omega)) st1 r1
   | false =>
    rw [if_pos (by simp)]
    refine ⟨p, hp, by omega, by omega, ?_⟩
    rw [Int.toNat_natCast]
    refine r1.st (i := w) st1.sep hp (by simp; omega) rfl fun σ2 st2 r2 => ?_
    unfold j7_slices_DeleteFunc_string_string
    rw [Pa.inc j (by omega), Pa.inc w (by omega)]
    refine ih (j + 1) (w + 1) (cur.set w l[j]) σ2 (by omega) (by omega) (by simpa using hcl) ?_ (fun i hi => ?_) (st1.trans st2) (by rw [List.map_set]; exact r2)
    ·rw [etk, hf, List.take_add_one, List.take_set_of_le (Nat.le_refl _), htk, List.getElem?_set_self (by omega)]
     rfl
    ·rw [List.getElem?_set_ne (by omega)]; exact hrest i (by omega)
 suffices ∀ m j, j + m = l.length → (∀ k ∈ l.take j, f k = false) → lfpD (l2_slices_IndexFunc_string_string B ro s fv fun x10 σ => if x10 = (-1) then Q s σ else lfpD (l4_slices_DeleteFunc_string_string B ro s fv Q) (x10, i64.wrap (x10 + 1)) σ) (j : Int) σ from
  this _ 0 (Nat.zero_add _) (by simp)
 intro m
 induction m with
 | zero =>
  intro j hj hall
  refine lfpD.intro ?_
  unfold l2_slices_IndexFunc_string_string
  rw [if_neg (by omega)]
  unfold j1_slices_IndexFunc_string_string
  show (if (-1 : Int) = -1 then _ else _)
  rw [if_pos rfl]
  rw [List.take_of_length_le (by omega)] at hall
  refine hQ s σ (Step.refl hs) ?_
  rw [List.filter_eq_self.2 fun k hk => by rw [hall k hk]; rfl]
  exact h
 | succ m ih =>
  intro j hj hall
  have hjl : j < l.length := by omega
  obtain ⟨p, hpp, _, hget⟩ := Row.sget h hs hjl
  refine lfpD.intro ?_
  unfold l2_slices_IndexFunc_string_string
  rw [if_pos (by omega)]
  refine ⟨p, hpp, by omega, by omega, _, hget j hjl, ?_⟩
  refine hcall _ (List.getElem_mem hjl) σ (Step.refl hs) _ ⟨f l[j], rfl, ?_⟩
  cases hf : f l[j] with
  | true =>
   rw [if_pos rfl]
   show (if ((j : Int)) = -1 then _ else _)
   rw [if_neg (by omega), Pa.inc j (by omega)]
   have e1 : (l.take j).filter (fun k => !f k) = l.take j := List.filter_eq_self.2 fun k hk => by rw [hall k hk]; rfl
   refine second m (j + 1) j l σ (by omega) (by omega) rfl ?_ (fun _ _ => rfl) (Step.refl hs) h
   rw [List.take_add_one, List.getElem?_eq_getElem hjl, List.filter_append, e1]
   simp [hf]
  | false =>
   rw [if_neg (by decide), Pa.inc j (by omega)]
   refine ih (j + 1) (by omega) fun k hk => ?_
   rw [List.take_add_one, List.getElem?_eq_getElem hjl] at hk
   rcases List.mem_append.1 hk with h | h
   ·exact hall k h
   ·have h' : k = l[j] := by simpa using h
    rw [h']; exact hf
def isUnder (u k : Str) : Bool := match under u k with
 | some b => b
 | none => false
theorem pathsAny_ok {r T M q : Nat} {bs : List Nat} {st : St} {u : ByteArray} {Q : Sl → Int → AH → Prop} (g : Glob ro) (hr : r < 64) (hr0 : r ≠ 0) (hq0 : q ≠ 0) (h : TreeAt tag σ r T M bs st) (hl : ∀ p ∈ st, ∃ ps, parts p.1 = some ps) (hn : st.length ≤ 4398046511104)
  (hbad : parts (L u) = none → ∀ tag' σ', (∀ R, Step R ro tag σ tag' σ') → Q ⟨none, 0, 0⟩ 20 σ')
  (hQ : ∀ ps, parts (L u) = some ps → ∀ (s : Sl) (tag' : Nat → Nat) (σ' : AH) (ks : List Str), Step [q] ro tag σ tag' σ' → ks.Perm (st.map (·.1)) → ks.Pairwise (· ≤ ·) → Row tag' σ' q 9 s ((ks.filter fun k => isUnder (L u) k).map Pa.vS) → Q s 0 σ') : c_ztree_Tree_Paths B ro (some ⟨T, 0, none⟩) u σ Q := by
 refine ztree_Tree_Paths_ok fun hs => ?_
 unfold f_ztree_Tree_Paths
 refine nw_cells (tag := tag) 0 hs fun x tag1 σ1 st1 r1 => ?_
 have hA := h.keep (st1 [])
 refine ⟨_, Row.cell1 r1 (st1 []).sep, ?_⟩
 refine check_ok g ?_
 by_cases hc : Pa.chk (L u) = 0
 ·rw [if_neg (by simpa using hc)]
  obtain ⟨ps, hps⟩ := chk_zero.1 hc
  have h128 : ∀ p ∈ st, p.1.length ≤ 128 := fun p hp => by
   obtain ⟨ps, e⟩ := hl p hp
   obtain ⟨e1, e2⟩ := parts_iff.1 e
   rw [e1]; exact e2.len
  refine paths_ok (q := q) hA h128 hn fun s tag2 σ2 ks st2 hp hsrt hr2 => ?_
  have hkl : ks.length = st.length := by rw [hp.length_eq, List.length_map]
  have r12 := r1.keep (st2 [])
  refine delFunc_ok (f := fun k => !isUnder (L u) k) hr2 (st2 []).sep (by omega) (fun k hk σ3 st3 K hK => ?_) fun s' σ3 st3 r3 => ?_
  ·have hx := Row.cell1 (r12.keep st3 (by simpa using fun e => hq0 e.symm)) st3.sep
   refine call58 ?_
   refine ztree_Tree_Paths_c1_ok fun _ => ?_
   unfold f_ztree_Tree_Paths_c1
   refine ⟨_, hx, ?_⟩
   obtain ⟨y, hy, e⟩ := List.mem_map.1 (hp.mem_iff.1 hk)
   obtain ⟨qs, hqs⟩ := hl y hy
   rw [e] at hqs
   have hu : ∃ b, under (L u) (L (S k)) = some b := by
    unfold under
    rw [hps, L_S, hqs]
    exact ⟨_, rfl⟩
   obtain ⟨b, hb⟩ := hu
   refine under_ok g (fun hnone => by rw [hb] at hnone; cases hnone) (fun b' hb' => ?_)
   rw [L_S] at hb'
   unfold isUnder at hK
   rw [hb'] at hK
   exact hK
  ·refine hQ ps hps s' tag2 σ3 ks ((st1 _).trans ((st2 _).trans st3)) hp hsrt ?_
   simpa using r3
 ·rw [if_pos (by simpa using hc)]
  have e : parts (L u) = none := by
   cases h : parts (L u) with
   | none => rfl
   | some ps => exact absurd (chk_zero.2 ⟨ps, h⟩) hc
  have : Pa.chk (L u) = 20 := by unfold Pa.chk; rw [e]; rfl
  rw [this]
  exact hbad e tag1 σ1 st1
end Zt
namespace Zt
open Go SL Pa
def homeOf (p : Str) : Option Str := match parts p with
 | some (x :: _) => some x
 | _ => none
def uw (h : Str) (p : Str × Nd) : Nat := if homeOf p.1 = some h then p.1.length + p.2.data.length else 0
def usage (st : St) (h : Str) : Nat × Nat := (st.countP fun p => decide (homeOf p.1 = some h), (st.map (uw h)).sum)
theorem sum_perm {a b : List Nat} (h : a.Perm b) : a.sum = b.sum := by
 induction h with
 | nil => rfl
 | cons x _ ih => simp [ih]
 | swap x y l => simp; omega
 | trans _ _ h1 h2 => exact h1.trans h2
theorem usage_perm {a b : St} (h : a.Perm b) (k : Str) : usage a k = usage b k := by
 unfold usage
 rw [h.countP_eq, sum_perm (h.map (uw k))]
theorem homeOf_ne {p h : Str} (hp : homeOf p = some h) : h ≠ [] := by
 unfold homeOf at hp
 split at hp
 ·rename_i x r e
  cases hp
  obtain ⟨_, hg⟩ := parts_iff.1 e
  have := (name_len (hg.ok h (by simp))).1
  intro he; rw [he] at this; simp at this
 ·cases hp
theorem homeOf_under {k h : Str} (hk : homeOf k = some h) : parts (47 :: h) = some [h] ∧ isUnder (47 :: h) k = true := by
 unfold homeOf at hk
 split at hk
 ·rename_i x r e
  cases hk
  obtain ⟨hl, hg⟩ := parts_iff.1 e
  have hn := hg.ok h (by simp)
  have hnl := name_len hn
  have hp1 : parts (47 :: h) = some [h] := parts_iff.2 ⟨by simp [mk], ⟨by simp, fun y hy => by rw [List.mem_singleton.1 hy]; exact hn, by simp [mk]; omega⟩⟩
  refine ⟨hp1, ?_⟩
  unfold isUnder under
  rw [hp1, e]
  simp
 ·cases hk
theorem homeOf_parts {k : Str} {ps : List Str} (h : parts k = some ps) : homeOf k = ps.head? := by
 unfold homeOf
 rw [h]
 cases ps <;> rfl
def usageK (st : St) (h : Str) (ks : List Str) : Nat × Nat :=
 (ks.countP fun k => decide (homeOf k = some h), (ks.map fun k => if homeOf k = some h then k.length + (match st.lookup k with | some n => n.data.length | none => 0) else 0).sum)
theorem usageK_under (st : St) (h : Str) (ks : List Str) : usageK st h (ks.filter fun k => isUnder (47 :: h) k) = usageK st h ks := by
 unfold usageK
 congr 1
 ·rw [List.countP_filter]
  refine List.countP_congr fun k _ => ?_
  simp only [Bool.and_eq_true, decide_eq_true_eq]
  exact ⟨fun h => h.1, fun h => ⟨h, (homeOf_under h).2⟩⟩
 ·induction ks with
  | nil => rfl
  | cons k ks ih =>
   rw [List.filter_cons]
   by_cases hk : homeOf k = some h
   ·rw [if_pos (homeOf_under hk).2, List.map_cons, List.map_cons, List.sum_cons, List.sum_cons, ih]
   ·split
    ·rw [List.map_cons, List.map_cons, List.sum_cons, List.sum_cons, ih]
    ·rw [List.map_cons, List.sum_cons, if_neg hk, ih, Nat.zero_add]
theorem usageK_none (st : St) (h : Str) (ks : List Str) (hn : parts (47 :: h) ≠ some [h]) : usageK st h ks = (0, 0) := by
 have hno : ∀ k, homeOf k ≠ some h := fun k hk => hn (homeOf_under hk).1
 unfold usageK
 congr 1
 ·rw [List.countP_eq_zero]
  intro k _
  simpa using hno k
 ·induction ks with
  | nil => rfl
  | cons k ks ih => rw [List.map_cons, List.sum_cons, if_neg (hno k), ih]
theorem usageK_srt {st : St} (hk : (st.map (·.1)).Nodup) (h : Str) : usageK st h ((srt st).map (·.1)) = usage st h := by
 rw [← usage_perm (srt_perm st) h]
 have hmem : ∀ p ∈ srt st, st.lookup p.1 = some p.2 := fun p hp => (lookup_iff hk).2 ((srt_perm st).mem_iff.1 hp)
 unfold usageK usage
 rw [List.countP_map, List.map_map]
 congr 1
 refine congrArg List.sum (List.map_congr_left fun p hp => ?_)
 simp only [Function.comp_apply, uw]
 rw [hmem p hp]
theorem usageK_le (st : St) (h : Str) (ks : List Str) (hs : ∀ k ∈ ks, k.length ≤ 128) (hd : ∀ k n, st.lookup k = some n → n.data.length ≤ 256) : (usageK st h ks).1 ≤ ks.length ∧ (usageK st h ks).2 ≤ 384 * ks.length := by
 refine ⟨List.countP_le_length, ?_⟩
 unfold usageK
 simp only
 induction ks with
 | nil => simp
 | cons k ks ih =>
  have := ih fun k hk => hs k (by simp [hk])
  have h1 := hs k (by simp)
  rw [List.map_cons, List.sum_cons, List.length_cons]
  have h2 : (match st.lookup k with | some n => n.data.length | none => 0) ≤ 256 := by
   cases e : st.lookup k with
   | none => simp
   | some n => exact hd k n e
  split <;> omega
theorem usageK_app (st : St) (h : Str) (a : List Str) (k : Str) : usageK st h (a ++ [k]) = if homeOf k = some h then ((usageK st h a).1 + 1, (usageK st h a).2 + (k.length + (match st.lookup k with | some n => n.data.length | none => 0))) else usageK st h a := by
 unfold usageK
 rw [List.countP_append, List.map_append, List.sum_append]
 by_cases hk : homeOf k = some h <;> simp [hk]
def usages (st : St) (hs : List Str) : Nat × Nat := hs.foldl (fun a h => (a.1 + (usage st h).1, a.2 + (usage st h).2)) (0, 0)
theorem usage_le {st : St} (hi : Inv st) (h : Str) : (usage st h).1 ≤ st.length ∧ (usage st h).2 ≤ 384 * st.length := by
 have := usageK_le st h ((srt st).map (·.1)) (fun k hk => by
  obtain ⟨p, hp, rfl⟩ := List.mem_map.1 hk
  exact (hi.small p ((srt_perm st).mem_iff.1 hp)).1) hi.data
 rw [usageK_srt hi.keys, List.length_map, (srt_perm st).length_eq] at this
 exact this
structure MOp where
 kind : Int
 path : Str
 data : Str
 ver : Int
 eph : Bool
 seq : Bool
structure Work where
 st : St
 res : List (Str × Int)
 eff : List (Int × Str)
def withinE (home : Str) (o : MOp) : Int :=
 if o.kind < 1 ∨ 4 < o.kind then 80
 else match parts o.path with
  | none => 20
  | some ps => if ps.head? ≠ some home ∨ (ps.length = 1 ∧ o.kind ≤ 2) then 82 else 0
def chkE (st : St) (p : Str) (v : Int) : Int := match st.lookup p with
 | none => 70
 | some n => if v ≠ -1 ∧ v ≠ n.ver then 72 else 0
def core (owner : Int) (st : St) (o : MOp) : St × Str × Int × Int :=
 if o.kind = 1 then ((create st o.path o.data (if o.eph then owner else 0) o.seq).1, (create st o.path o.data (if o.eph then owner else 0) o.seq).2.1, 0, (create st o.path o.data (if o.eph then owner else 0) o.seq).2.2)
 else if o.kind = 2 then ((remove st o.path o.ver).1, [], 0, (remove st o.path o.ver).2)
 else if o.kind = 3 then ((setD st o.path o.data o.ver).1, [], (setD st o.path o.data o.ver).2.1, (setD st o.path o.data o.ver).2.2)
 else (st, [], 0, chkE st o.path o.ver)
def overE (st : St) (home : Str) (qn qb : Int) (kind : Int) : Bool := (decide (kind = 1) || decide (kind = 3)) && (decide (qn < ((usage st home).1 : Nat)) || decide (qb < ((usage st home).2 : Nat)))
def doE (home : Str) (owner qn qb : Int) (w : Work) (o : MOp) : Int × Work :=
 if withinE home o ≠ 0 then (withinE home o, w)
 else if (core owner w.st o).2.2.2 ≠ 0 then ((core owner w.st o).2.2.2, { w with st := (core owner w.st o).1 })
 else if overE (core owner w.st o).1 home qn qb o.kind then (81, { w with st := (core owner w.st o).1 })
 else (0, ⟨(core owner w.st o).1, w.res ++ [((core owner w.st o).2.1, (core owner w.st o).2.2.1)], if o.kind = 4 then w.eff else w.eff ++ [(o.kind, if o.kind = 1 then (core owner w.st o).2.1 else o.path)]⟩)
theorem core_inv {b : Nat} {owner : Int} {st : St} {o : MOp} (h : InvB b st) (hb : b ≤ 4398046511103) : InvB (b + 1) (core owner st o).1 := by
 unfold core
 split
 ·exact invB_create h hb
 ·split
  ·exact invB_remove h hb
  ·split
   ·exact invB_set h hb
   ·exact h.mono (by omega)
theorem doE_inv {b : Nat} {home : Str} {owner qn qb : Int} {w : Work} {o : MOp} (h : InvB b w.st) (hb : b ≤ 4398046511103) : InvB (b + 1) (doE home owner qn qb w o).2.st := by
 unfold doE
 split
 ·exact h.mono (by omega)
 ·split
  ·exact core_inv h hb
  ·split
   ·exact core_inv h hb
   ·exact core_inv h hb
theorem doE_len {home : Str} {owner qn qb : Int} {w : Work} {o : MOp} : (doE home owner qn qb w o).2.res.length ≤ w.res.length + 1 ∧ (doE home owner qn qb w o).2.eff.length ≤ w.eff.length + 1 := by
 unfold doE
 split
 ·exact ⟨by simp, by simp⟩
 ·split
  ·exact ⟨by simp, by simp⟩
  ·split
   ·exact ⟨by simp, by simp⟩
   ·refine ⟨by simp, ?_⟩
    simp only
    split <;> simp
end Zt
end Go.Proofs.YthfpmipeejjogaaGreatDoor
