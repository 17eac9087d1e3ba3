/- GMul, MuB, MuD, MuE -/
import Derived.Test.YthfpmipeejjogaaGreatDoorXJ
set_option maxRecDepth 100000
set_option maxHeartbeats 4000000
set_option linter.unusedVariables false
set_option linter.unusedSimpArgs false
open Go.IntKind (i64)
open Go.Proofs.Tryz
namespace Go.Proofs.YthfpmipeejjogaaGreatDoor
namespace G
open Go SL
variable {B : World} {ro σ : AH}
def j10_multi_Apply (B : World) (ro : AH) (a0 : Option Addr) (u0 : Nat) (u1 : Option Addr) (u2 : Nat) (Q : Sl → Sl → Int → Int → AH → Prop) (σ : AH) : Prop :=
 ∃ p3, u1 = some p3 ∧
 ∃ (u4 : Option Nat), cellsAt ro σ p3 0 [.map u4] ∧
 ∃ p5, a0 = some p5 ∧
 stN p5 (fun σ =>
 stN ((⟨u2, 0, none⟩ : Addr).add 2) (fun σ =>
  ∃ u6 u7 u8, cellsAt ro σ ⟨u2, 0, none⟩ 0 [Sl.v u6, Sl.v u7, .int .i64 u8] ∧
  stN ⟨u0, 0, none⟩ (fun σ =>
  ∃ u9 u10 u11, cellsAt ro σ ⟨u0, 0, none⟩ 0 [Sl.v u9, Sl.v u10, .int .i64 u11] ∧
  Q u9 u10 u11 0 σ) [Sl.v u6, Sl.v u7, .int .i64 u8] 0 σ) [.int .i64 (-1)] 0 σ) [.map u4] 0 σ
def l16_multi_Apply (B : World) (ro : AH) (a0 : Option Addr) (a4 : Sl) (u0 : Nat) (u1 : Option Addr) (u2 : Nat) (Q : Sl → Sl → Int → Int → AH → Prop) : (Int) → AH → ((Int) → AH → Prop) → Prop := fun u3 σ Y16 =>
 if u3 < (a4.len : Int) then
 ∃ p4, a4.a = some p4 ∧ (0 : Int) ≤ u3 ∧ u3 < (a4.len : Int) ∧
 ∃ u5 u6 u7 u8 u9 u10, cellsAt ro σ (p4.add (Int.toNat u3 * 6)) 0 [.int .i64 u5, .string u6, Sl.v u7, .int .i64 u8, .bool u9, .bool u10] ∧
 nw ro σ (.cells #[.int .i64 0, .string ByteArray.empty, Sl.v (⟨none, 0, 0⟩ : Sl), .int .i64 0, .bool false, .bool false] 82) fun u11 σ =>
 stN ⟨u11, 0, none⟩ (fun σ =>
  ∃ u12 u13 u14 u15 u16 u17, cellsAt ro σ ⟨u11, 0, none⟩ 0 [.int .i64 u12, .string u13, Sl.v u14, .int .i64 u15, .bool u16, .bool u17] ∧
  c_multi_work_do B ro (some ⟨u2, 0, none⟩) u12 u13 u14 u15 u16 u17 σ fun u18 σ =>
  if ¬ (u18 = 0) then
  stN ⟨u0, 0, none⟩ (fun σ =>
   ∃ u19 u20 u21, cellsAt ro σ ⟨u0, 0, none⟩ 0 [Sl.v u19, Sl.v u20, .int .i64 u21] ∧
   Q u19 u20 u21 u18 σ) [Sl.v (⟨none, 0, 0⟩ : Sl), Sl.v (⟨none, 0, 0⟩ : Sl), .int .i64 u3] 0 σ
  else
  Y16 (i64.wrap (u3 + 1)) σ) [.int .i64 u5, .string u6, Sl.v u7, .int .i64 u8, .bool u9, .bool u10] 0 σ
 else
 j10_multi_Apply B ro a0 u0 u1 u2 Q σ
def f_multi_Apply (B : World) (ro : AH) (a0 : Option Addr) (a1 : ByteArray) (a2 : Int) (a3_0 : Int) (a3_1 : Int) (a4 : Sl) (σ : AH) (Q : Sl → Sl → Int → Int → AH → Prop) : Prop :=
 nw ro σ (.cells #[.int .i64 a3_0, .int .i64 a3_1] 69) fun u0 σ =>
 nw ro σ (.cells #[Sl.v (⟨none, 0, 0⟩ : Sl), Sl.v (⟨none, 0, 0⟩ : Sl), .int .i64 0] 77) fun u1 σ =>
 if ((a4.len : Int) = 0) ∨ (16 < (a4.len : Int)) then
 stN ⟨u1, 0, none⟩ (fun σ =>
  ∃ u2 u3 u4, cellsAt ro σ ⟨u1, 0, none⟩ 0 [Sl.v u2, Sl.v u3, .int .i64 u4] ∧
  Q u2 u3 u4 80 σ) [Sl.v (⟨none, 0, 0⟩ : Sl), Sl.v (⟨none, 0, 0⟩ : Sl), .int .i64 0] 0 σ
 else
 if (a2 < 1) ∨ (4611686018427387903 < a2) then
 stN ⟨u1, 0, none⟩ (fun σ =>
  ∃ u5 u6 u7, cellsAt ro σ ⟨u1, 0, none⟩ 0 [Sl.v u5, Sl.v u6, .int .i64 u7] ∧
  Q u5 u6 u7 10 σ) [Sl.v (⟨none, 0, 0⟩ : Sl), Sl.v (⟨none, 0, 0⟩ : Sl), .int .i64 0] 0 σ
 else
 c_ztree_Tree_Encode B ro a0 σ fun u8 σ =>
 c_ztree_Decode B ro u8 σ fun u9 u10 σ =>
 ∃ u11 u12, cellsAt ro σ ⟨u0, 0, none⟩ 0 [.int .i64 u11, .int .i64 u12] ∧
 nw ro σ (.cells #[Sl.v (⟨none, 0, 0⟩ : Sl), Sl.v (⟨none, 0, 0⟩ : Sl), .int .i64 0, .pointer u9, .string a1, .int .i64 a2, .int .i64 u11, .int .i64 u12] 173) fun u13 σ =>
 lfpD (l16_multi_Apply B ro a0 a4 u1 u9 u13 Q ) (0) σ
theorem multi_Apply_ok {a0 : Option Addr} {a1 : ByteArray} {a2 : Int} {a3_0 : Int} {a3_1 : Int} {a4 : Sl} {Q : Sl → Sl → Int → Int → AH → Prop} (h : Sep ro σ → f_multi_Apply B ro a0 a1 a2 a3_0 a3_1 a4 σ Q) : c_multi_Apply B ro a0 a1 a2 a3_0 a3_1 a4 σ Q := by
 refine zb h func36 ntmps36 fun h => ?_; unfold f_multi_Apply at h; refine z3 ?_; refine zA (A_box rfl rfl) h fun u0 h => ?_; refine zA (A_alloc rfl ty77) h fun u1 h => ?_; refine zp ?_; refine z2 (AW.seq (AW.block (z3 ?_)))
 refine zp ?_; refine zm (V_lenL rfl rfl underlying70 rfl rfl) ?_; iterate 2 refine zp ?_
 refine Lsplit 4 (decide ((a4.len : Int) = 0)) [(0, .pointer a0), (1, .string a1), (2, .int .i64 a2), (4, Sl.v a4), (8, .pointer (some ⟨u0, 0, none⟩)), (10, .pointer (some ⟨u1, 0, none⟩)), (26, .bool ((decide ((a4.len : Int) = 0)) || (decide (16 < (a4.len : Int)))))] ?_ ?_ ?_
 ·intro e3 hk3
  iterate 3 refine zn e3 ?_
  refine zk e3 ?_; exact hk3 _ (Fe e3)
 ·intro e3 hk3
  refine zy e3 ?_; refine Lypb (V_lenL rfl rfl underlying70 rfl rfl) rfl rfl rfl rfl e3 ?_
  refine zy e3 ?_; refine zk e3 ?_; exact hk3 _ (Fe e3)
 intro fr hl
 refine Lfr hl ?_
 refine zp ?_; refine z2 ?_; refine AW.iff rfl (bor_iff decide_eq_true_iff decide_eq_true_iff) h (fun h => ?_) (fun h => ?_)
 ·refine z3 ?_; refine zm (V_bld (vs := []) (cs := #[Sl.v (⟨none, 0, 0⟩ : Sl), Sl.v (⟨none, 0, 0⟩ : Sl), .int .i64 0]) rfl underlying77 ty77 pl77 rfl rfl) ?_; refine zs ty77 h fun σ h => ?_; refine zp ?_; refine z2 ?_; refine AW.ret ?_; refine blockR (thenR ?_); obtain ⟨u2, u3, u4, hc0, h⟩ := h
  exact bRM results36 (rCons (rAgg rfl underlying77 rfl ty77 hc0) (rCons (rTmp rfl) rNil)) ⟨_, _, _, _, rfl, h⟩
 refine z3 ?_; iterate 3 refine zp ?_
 refine Lsplit 3 (decide (a2 < 1)) [(0, .pointer a0), (1, .string a1), (2, .int .i64 a2), (4, Sl.v a4), (8, .pointer (some ⟨u0, 0, none⟩)), (10, .pointer (some ⟨u1, 0, none⟩)), (34, .bool ((decide (a2 < 1)) || (decide (4611686018427387903 < a2))))] ?_ ?_ ?_
 ·intro e2 hk2
  iterate 2 refine zn e2 ?_
  refine zk e2 ?_; exact hk2 _ (Fe e2)
 ·intro e2 hk2
  refine zy e2 ?_; refine zy e2 ?_; refine zk e2 ?_; exact hk2 _ (Fe e2)
 intro fr hl
 refine Lfr hl ?_
 refine zp ?_; refine z2 ?_; refine AW.iff rfl (bor_iff decide_eq_true_iff decide_eq_true_iff) h (fun h => ?_) (fun h => ?_)
 ·refine z3 ?_; refine zm (V_bld (vs := []) (cs := #[Sl.v (⟨none, 0, 0⟩ : Sl), Sl.v (⟨none, 0, 0⟩ : Sl), .int .i64 0]) rfl underlying77 ty77 pl77 rfl rfl) ?_; refine zs ty77 h fun σ h => ?_; refine zp ?_; refine z2 ?_; refine AW.ret ?_; refine blockR (thenR ?_); obtain ⟨u5, u6, u7, hc0, h⟩ := h
  exact bRM results36 (rCons (rAgg rfl underlying77 rfl ty77 hc0) (rCons (rTmp rfl) rNil)) ⟨_, _, _, _, rfl, h⟩
 refine AW.skip ?_; refine blockN (thenN (z3 ?_)); refine zp ?_; refine zc func21 h ?_; rintro v σ ⟨u8, rfl, h⟩; refine zc func27 h ?_; rintro v σ ⟨u9, u10, rfl, h⟩; iterate 5 refine zp ?_
 refine z4 ?_; iterate 3 refine zp ?_
 obtain ⟨u11, u12, hc, h⟩ := h
 refine zl (X_lda rfl underlying69 rfl ty69 rfl hc ?_)
 refine zm (V_bld (vs := [(1, .pointer u9), (2, .string a1), (3, .int .i64 a2), (4, .agg #[.int .i64 u11, .int .i64 u12])]) (cs := #[Sl.v (⟨none, 0, 0⟩ : Sl), Sl.v (⟨none, 0, 0⟩ : Sl), .int .i64 0, .pointer u9, .string a1, .int .i64 a2, .int .i64 u11, .int .i64 u12]) rfl underlying173 ty173 pl173 rfl rfl) ?_; refine zA (A_box rfl rfl) h fun u13 h => ?_; refine zp ?_; refine z2 ?_; refine AW.seqJ (fun fr σ => FrLe [(0, .pointer a0), (10, .pointer (some ⟨u1, 0, none⟩)), (12, .pointer u9), (14, .pointer (some ⟨u13, 0, none⟩))] fr ∧ j10_multi_Apply B ro a0 u1 u9 u13 Q σ) ?_ ?_
 ·rintro fr σ ⟨hl, h⟩; refine AW.weaken ?_ hl (HLe.refl _)
  unfold j10_multi_Apply at h; refine z3 ?_; iterate 2 refine zp ?_
  refine zN h fun p14 h => ?_; obtain ⟨u15, hc, h⟩ := h
  refine zl (X_lda rfl underlying128 rfl ty128 rfl hc ?_)
  refine zN h fun p16 h => ?_; refine zs ty128 h fun σ h => ?_; refine z4 ?_; refine zp ?_; refine zm (V_nil rfl rfl) ?_; refine zf underlying173 ty77 ?_; refine zf underlying77 ty3 ?_; refine zs ty3 h fun σ h => ?_; refine z4 ?_; refine zp ?_; refine zm (V_nil rfl rfl) ?_; refine zf underlying173 ty77 ?_; obtain ⟨u17, u18, u19, hc, h⟩ := h
  refine zl (X_lda rfl underlying77 rfl ty77 rfl hc ?_)
  refine zs ty77 h fun σ h => ?_; refine zp ?_; refine z2 ?_; refine AW.ret ?_; obtain ⟨u20, u21, u22, hc0, h⟩ := h
  exact bRM results36 (rCons (rAgg rfl underlying77 rfl ty77 hc0) (rCons (rTmp rfl) rNil)) ⟨_, _, _, _, rfl, h⟩
 refine z3 ?_; refine zp ?_; refine zm (V_lenL rfl rfl underlying70 rfl rfl) ?_; refine zp ?_; refine z2 (AW.block ?_)
 refine ARound.loop (fr' := [(0, .pointer a0), (10, .pointer (some ⟨u1, 0, none⟩)), (12, .pointer u9), (14, .pointer (some ⟨u13, 0, none⟩)), (48, Sl.v a4), (49, .int .i64 (a4.len : Int)), (50, .int .i64 0)]) ?_ FL
 refine h (fun u23 σ => ARound _ _ _ _ _ _ [(0, .pointer a0), (10, .pointer (some ⟨u1, 0, none⟩)), (12, .pointer u9), (14, .pointer (some ⟨u13, 0, none⟩)), (48, Sl.v a4), (49, .int .i64 (a4.len : Int)), (50, .int .i64 u23)] σ) ?_
 rintro u23 σ Y16 hY16 h
 show AW _ _ _ _ _ _ _ _
 unfold l16_multi_Apply at h; refine z3 ?_; refine zp ?_; refine z2 (AW.seq ?_)
 refine zi h (fun h => ?_) fun h => ?_
 rotate_left
 ·refine AW.exit ?_; refine thenE (thenE ?_); refine blockE ?_
  refine thenN ?_; exact ⟨FL, h⟩
 refine AW.skip ?_; refine thenN (AW.seq (AW.block (z3 ?_))); refine zp ?_; obtain ⟨p24, ha, h0, h1, h⟩ := h
 refine zm (V_ixA rfl underlying70 ty82 (ixL rfl ha) rfl h0 h1) ?_; obtain ⟨u25, u26, u27, u28, u29, u30, hc, h⟩ := h
 refine zl (X_lda rfl underlying82 rfl ty82 rfl hc ?_)
 refine zA (A_alloc rfl ty82) h fun u31 h => ?_; refine zp ?_; refine zs ty82 h fun σ h => ?_; refine z4 ?_; refine zp ?_; obtain ⟨u32, u33, u34, u35, u36, u37, hc, h⟩ := h
 refine zl (X_lda rfl underlying82 rfl ty82 rfl hc ?_)
 refine zc func96 h ?_; rintro v σ ⟨u38, rfl, h⟩; refine zp ?_; refine z4 ?_; iterate 2 refine zp ?_
 refine z2 ?_; refine AW.iff rfl (bnot_iff decide_eq_true_iff) h (fun h => ?_) (fun h => ?_)
 rotate_left
 ·refine AW.skip ?_; refine blockN (thenN (AW.reg ?_)); iterate 2 refine zp ?_
  refine z2 ?_; refine ARound.head (fr' := [(0, .pointer a0), (10, .pointer (some ⟨u1, 0, none⟩)), (12, .pointer u9), (14, .pointer (some ⟨u13, 0, none⟩)), (48, Sl.v a4), (49, .int .i64 (a4.len : Int)), (50, .int .i64 (i64.wrap (u23 + 1)))]) ?_ FL
  exact hY16 _ _ h
 refine z3 ?_; refine zp ?_; refine zm (V_bld (vs := [(2, .int .i64 u23)]) (cs := #[Sl.v (⟨none, 0, 0⟩ : Sl), Sl.v (⟨none, 0, 0⟩ : Sl), .int .i64 u23]) rfl underlying77 ty77 pl77 rfl rfl) ?_; refine zp ?_; refine zs ty77 h fun σ h => ?_; refine zp ?_; refine z2 ?_; refine AW.ret ?_; refine blockR (thenR (thenR (blockR (thenR ?_)))); obtain ⟨u39, u40, u41, hc0, h⟩ := h
 exact bRM results36 (rCons (rAgg rfl underlying77 rfl ty77 hc0) (rCons (rTmp rfl) rNil)) ⟨_, _, _, _, rfl, h⟩
def j3_multi_Usage (B : World) (ro : AH) (u0 : Nat) (u1 : Nat) (Q : Int → Int → AH → Prop) (σ : AH) : Prop :=
 ∃ u2 u3, cellsAt ro σ ⟨u1, 0, none⟩ 0 [.int .i64 u2, .int .i64 u3] ∧
 stN ⟨u0, 0, none⟩ (fun σ =>
 ∃ u4 u5, cellsAt ro σ ⟨u0, 0, none⟩ 0 [.int .i64 u4, .int .i64 u5] ∧
 Q u4 u5 σ) [.int .i64 u2, .int .i64 u3] 0 σ
def j8_multi_Usage (B : World) (ro : AH) (a0 : Option Addr) (a1 : Sl) (u0 : Nat) (u1 : Nat) (u2 : Int) (Q : Int → Int → AH → Prop) (Y6 : (Int) → AH → Prop) (σ : AH) : Prop :=
 Y6 (i64.wrap (u2 + 1)) σ
def j15_multi_Usage (B : World) (ro : AH) (a0 : Option Addr) (a1 : Sl) (u0 : Nat) (u1 : Nat) (u2 : Int) (u3 : ByteArray) (u4 : Sl) (u5 : Int) (Q : Int → Int → AH → Prop) (Y6 : (Int) → AH → Prop) (Y13 : (Int) → AH → Prop) (σ : AH) : Prop :=
 Y13 (i64.wrap (u5 + 1)) σ
def l13_multi_Usage (B : World) (ro : AH) (a0 : Option Addr) (a1 : Sl) (u0 : Nat) (u1 : Nat) (u2 : Int) (u3 : ByteArray) (u4 : Sl) (Q : Int → Int → AH → Prop) (Y6 : (Int) → AH → Prop) : (Int) → AH → ((Int) → AH → Prop) → Prop := fun u5 σ Y13 =>
 if u5 < (u4.len : Int) then
 ∃ p6, u4.a = some p6 ∧ (0 : Int) ≤ u5 ∧ u5 < (u4.len : Int) ∧
 ∃ u7, acell ro σ (p6.add (Int.toNat u5 * 1)) = some (.string u7) ∧
 c_path_Home B ro u7 σ fun u8 u9 σ =>
 if (¬ (u8 = u3)) ∨ (u3 = (⟨#[]⟩ : ByteArray)) then
  j15_multi_Usage B ro a0 a1 u0 u1 u2 u3 u4 u5 Q Y6 Y13 σ
 else
 c_ztree_Tree_Get B ro a0 u7 σ fun u10 u11 u12 u13 u14 u15 σ =>
 nw ro σ (.cells #[.int .i64 0, .int .i64 0, .int .i64 0, .int .i64 0] 32) fun u16 σ =>
 stN ⟨u16, 0, none⟩ (fun σ =>
  ∃ u17, acell ro σ ⟨u1, 0, none⟩ = some (.int .i64 u17) ∧
  stN ⟨u1, 0, none⟩ (fun σ =>
  ∃ u18, acell ro σ ((⟨u1, 0, none⟩ : Addr).add 1) = some (.int .i64 u18) ∧
  stN ((⟨u1, 0, none⟩ : Addr).add 1) (fun σ =>
   j15_multi_Usage B ro a0 a1 u0 u1 u2 u3 u4 u5 Q Y6 Y13 σ) [.int .i64 (i64.wrap (u18 + (i64.wrap ((u7.size : Int) + (u10.len : Int)))))] 0 σ) [.int .i64 (i64.wrap (u17 + 1))] 0 σ) [.int .i64 u11, .int .i64 u12, .int .i64 u13, .int .i64 u14] 0 σ
 else
 j8_multi_Usage B ro a0 a1 u0 u1 u2 Q Y6 σ
def l6_multi_Usage (B : World) (ro : AH) (a0 : Option Addr) (a1 : Sl) (u0 : Nat) (u1 : Nat) (Q : Int → Int → AH → Prop) : (Int) → AH → ((Int) → AH → Prop) → Prop := fun u2 σ Y6 =>
 if u2 < (a1.len : Int) then
 ∃ p3, a1.a = some p3 ∧ (0 : Int) ≤ u2 ∧ u2 < (a1.len : Int) ∧
 ∃ u4, acell ro σ (p3.add (Int.toNat u2 * 1)) = some (.string u4) ∧
 (⟨#[47]⟩ : ByteArray).size + u4.size ≤ 9223372036854775807 ∧
 c_ztree_Tree_Paths B ro a0 ((⟨#[47]⟩ : ByteArray) ++ u4) σ fun u5 u6 σ =>
 lfpD (l13_multi_Usage B ro a0 a1 u0 u1 u2 u4 u5 Q Y6 ) (0) σ
 else
 j3_multi_Usage B ro u0 u1 Q σ
def f_multi_Usage (B : World) (ro : AH) (a0 : Option Addr) (a1 : Sl) (σ : AH) (Q : Int → Int → AH → Prop) : Prop :=
 nw ro σ (.cells #[.int .i64 0, .int .i64 0] 69) fun u0 σ =>
 nw ro σ (.cells #[.int .i64 0, .int .i64 0] 69) fun u1 σ =>
 lfpD (l6_multi_Usage B ro a0 a1 u0 u1 Q ) (0) σ
theorem multi_Usage_ok {a0 : Option Addr} {a1 : Sl} {Q : Int → Int → AH → Prop} (h : Sep ro σ → f_multi_Usage B ro a0 a1 σ Q) : c_multi_Usage B ro a0 a1 σ Q := by
 refine zb h func39 ntmps39 fun h => ?_; unfold f_multi_Usage at h; refine z3 ?_; refine zA (A_alloc rfl ty69) h fun u0 h => ?_; refine z4 ?_; refine zA (A_alloc rfl ty69) h fun u1 h => ?_; refine z2 ?_; refine AW.seqJ (fun fr σ => FrLe [(4, .pointer (some ⟨u0, 0, none⟩)), (5, .pointer (some ⟨u1, 0, none⟩))] fr ∧ j3_multi_Usage B ro u0 u1 Q σ) ?_ ?_
 ·rintro fr σ ⟨hl, h⟩; refine AW.weaken ?_ hl (HLe.refl _)
  unfold j3_multi_Usage at h; refine z3 ?_; obtain ⟨u2, u3, hc, h⟩ := h
  refine zl (X_lda rfl underlying69 rfl ty69 rfl hc ?_)
  refine zs ty69 h fun σ h => ?_; refine z2 ?_; refine AW.ret ?_; obtain ⟨u4, u5, hc0, h⟩ := h
  exact bRM1 results39 (rCons (rAgg rfl underlying69 rfl ty69 hc0) rNil) ⟨_, _, rfl, h⟩
 refine z3 ?_; refine zp ?_; refine zm (V_lenL rfl rfl underlying25 rfl rfl) ?_; refine zp ?_; refine z2 (AW.block ?_)
 refine ARound.loop (fr' := [(0, .pointer a0), (4, .pointer (some ⟨u0, 0, none⟩)), (5, .pointer (some ⟨u1, 0, none⟩)), (17, Sl.v a1), (18, .int .i64 (a1.len : Int)), (19, .int .i64 0)]) ?_ FL
 refine h (fun u6 σ => ARound _ _ _ _ _ _ [(0, .pointer a0), (4, .pointer (some ⟨u0, 0, none⟩)), (5, .pointer (some ⟨u1, 0, none⟩)), (17, Sl.v a1), (18, .int .i64 (a1.len : Int)), (19, .int .i64 u6)] σ) ?_
 rintro u6 σ Y6 hY6 h
 show AW _ _ _ _ _ _ _ _
 unfold l6_multi_Usage at h; refine z3 ?_; refine zp ?_; refine z2 (AW.seq ?_)
 refine zi h (fun h => ?_) fun h => ?_
 rotate_left
 ·refine AW.exit ?_; refine thenE (thenE ?_); refine blockE ?_
  refine thenN ?_; exact ⟨FL, h⟩
 refine AW.skip ?_; refine thenN ?_; refine AW.seqJ (fun fr σ => FrLe [(0, .pointer a0), (4, .pointer (some ⟨u0, 0, none⟩)), (5, .pointer (some ⟨u1, 0, none⟩)), (17, Sl.v a1), (18, .int .i64 (a1.len : Int)), (19, .int .i64 u6)] fr ∧ j8_multi_Usage B ro a0 a1 u0 u1 u6 Q Y6 σ) ?_ ?_
 ·rintro fr σ ⟨hl, h⟩; refine AW.weaken ?_ hl (HLe.refl _)
  unfold j8_multi_Usage at h; refine AW.reg ?_; iterate 2 refine zp ?_
  refine z2 ?_; refine ARound.head (fr' := [(0, .pointer a0), (4, .pointer (some ⟨u0, 0, none⟩)), (5, .pointer (some ⟨u1, 0, none⟩)), (17, Sl.v a1), (18, .int .i64 (a1.len : Int)), (19, .int .i64 (i64.wrap (u6 + 1)))]) ?_ FL
  exact hY6 _ _ h
 refine AW.block (z3 ?_); obtain ⟨p7, ha, h0, h1, h⟩ := h
 refine zm (V_ixA rfl underlying25 ty9 (ixL rfl ha) rfl h0 h1) ?_; refine zL underlying9 h fun u8 h => ?_; refine zp ?_; refine z4 ?_; iterate 2 refine zp ?_
 obtain ⟨hc, h⟩ := h
 refine zm (V_cat rfl rfl rfl hc) ?_; refine zc func15 h ?_; rintro v σ ⟨u9, u10, rfl, h⟩; iterate 5 refine zp ?_
 refine z4 ?_; refine zp ?_; refine zm (V_lenL rfl rfl underlying25 rfl rfl) ?_; refine zp ?_; refine z2 (AW.block ?_)
 refine ARound.loop (fr' := [(0, .pointer a0), (4, .pointer (some ⟨u0, 0, none⟩)), (5, .pointer (some ⟨u1, 0, none⟩)), (7, .string u8), (17, Sl.v a1), (18, .int .i64 (a1.len : Int)), (19, .int .i64 u6), (30, Sl.v u9), (31, .int .i64 (u9.len : Int)), (32, .int .i64 0)]) ?_ FL
 refine h (fun u11 σ => ARound _ _ _ _ _ _ [(0, .pointer a0), (4, .pointer (some ⟨u0, 0, none⟩)), (5, .pointer (some ⟨u1, 0, none⟩)), (7, .string u8), (17, Sl.v a1), (18, .int .i64 (a1.len : Int)), (19, .int .i64 u6), (30, Sl.v u9), (31, .int .i64 (u9.len : Int)), (32, .int .i64 u11)] σ) ?_
 rintro u11 σ Y13 hY13 h
 show AW _ _ _ _ _ _ _ _
 unfold l13_multi_Usage at h; refine z3 ?_; refine zp ?_; refine z2 (AW.seq ?_)
 refine zi h (fun h => ?_) fun h => ?_
 rotate_left
 ·refine AW.exit ?_; refine thenE (thenE ?_); refine blockE ?_
  refine blockN (thenN ?_); exact ⟨FL, h⟩
 refine AW.skip ?_; refine thenN ?_; refine AW.seqJ (fun fr σ => FrLe [(0, .pointer a0), (4, .pointer (some ⟨u0, 0, none⟩)), (5, .pointer (some ⟨u1, 0, none⟩)), (7, .string u8), (17, Sl.v a1), (18, .int .i64 (a1.len : Int)), (19, .int .i64 u6), (30, Sl.v u9), (31, .int .i64 (u9.len : Int)), (32, .int .i64 u11)] fr ∧ j15_multi_Usage B ro a0 a1 u0 u1 u6 u8 u9 u11 Q Y6 Y13 σ) ?_ ?_
 ·rintro fr σ ⟨hl, h⟩; refine AW.weaken ?_ hl (HLe.refl _)
  unfold j15_multi_Usage at h; refine AW.reg ?_; iterate 2 refine zp ?_
  refine z2 ?_; refine ARound.head (fr' := [(0, .pointer a0), (4, .pointer (some ⟨u0, 0, none⟩)), (5, .pointer (some ⟨u1, 0, none⟩)), (7, .string u8), (17, Sl.v a1), (18, .int .i64 (a1.len : Int)), (19, .int .i64 u6), (30, Sl.v u9), (31, .int .i64 (u9.len : Int)), (32, .int .i64 (i64.wrap (u11 + 1)))]) ?_ FL
  exact hY13 _ _ h
 refine AW.block (z3 ?_); obtain ⟨p12, ha, h0, h1, h⟩ := h
 refine zm (V_ixA rfl underlying25 ty9 (ixL rfl ha) rfl h0 h1) ?_; refine zL underlying9 h fun u13 h => ?_; refine zp ?_; refine z2 (AW.seq (z3 ?_))
 refine zp ?_; refine zc func97 h ?_; rintro v σ ⟨u14, u15, rfl, h⟩; iterate 5 refine zp ?_
 refine z4 ?_; iterate 2 refine zp ?_
 refine zm (V_neqS rfl rfl rfl) ?_; refine zp ?_; refine Lsplit 3 (!(decide (u14 = u8))) [(0, .pointer a0), (4, .pointer (some ⟨u0, 0, none⟩)), (5, .pointer (some ⟨u1, 0, none⟩)), (7, .string u8), (11, .string u13), (17, Sl.v a1), (18, .int .i64 (a1.len : Int)), (19, .int .i64 u6), (30, Sl.v u9), (31, .int .i64 (u9.len : Int)), (32, .int .i64 u11), (47, .bool ((!(decide (u14 = u8))) || (decide (u8 = (⟨#[]⟩ : ByteArray)))))] ?_ ?_ ?_
 ·intro e3 hk3
  iterate 2 refine zn e3 ?_
  refine zk e3 ?_; exact hk3 _ (Fe e3)
 ·intro e3 hk3
  refine zy e3 ?_; refine zy e3 ?_; refine zk e3 ?_; exact hk3 _ (Fe e3)
 intro fr hl
 refine Lfr hl ?_
 refine z2 ?_; refine AW.iff rfl (bor_iff (bnot_iff decide_eq_true_iff) decide_eq_true_iff) h (fun h => ?_) (fun h => ?_)
 ·refine AW.exit ?_; refine thenE ?_; refine blockE ?_
  refine thenN ?_; exact ⟨FL, h⟩
 refine AW.skip ?_; refine thenN (z3 ?_); iterate 2 refine zp ?_
 refine zc func17 h ?_; rintro v σ ⟨u16, u17, u18, u19, u20, u21, rfl, h⟩; iterate 4 refine zp ?_
 refine zA (A_alloc rfl ty32) h fun u22 h => ?_; refine zp ?_; refine zs ty32 h fun σ h => ?_; refine zp ?_; refine z4 ?_; refine zf underlying69 ty3 ?_; refine zL underlying3 h fun u23 h => ?_; refine zp ?_; refine zf underlying69 ty3 ?_; refine zs ty3 h fun σ h => ?_; refine z2 (AW.reg ?_)
 refine zf underlying69 ty3 ?_; refine zL underlying3 h fun u24 h => ?_; refine zp ?_; refine zm (V_lenS rfl rfl underlying9 rfl rfl) ?_; refine zp ?_; refine zm (V_lenL rfl rfl underlying30 rfl rfl) ?_; iterate 2 refine zp ?_
 refine zf underlying69 ty3 ?_; refine zs ty3 h fun σ h => ?_; refine Lnil (blockN (thenN ?_)); exact ⟨FL, h⟩
def j17_multi_work_do (B : World) (ro : AH) (Q : Int → AH → Prop) (σ : AH) : Prop :=
 Q 0 σ
def j10_multi_work_do (B : World) (ro : AH) (a0 : Option Addr) (u0 : Nat) (u1 : Nat) (u2 : Nat) (Q : Int → AH → Prop) (σ : AH) : Prop :=
 ∃ p3, a0 = some p3 ∧
 ∃ u4, acell ro σ p3 = some (Sl.v u4) ∧
 ∃ u5 u6, cellsAt ro σ ⟨u1, 0, none⟩ 0 [.string u5, .int .i64 u6] ∧
 nw ro σ (.cells #[.string u5, .int .i64 u6] 84) fun u7 σ =>
 awp prog ro (Builtin.append_ #[74, 74] 74 #[Sl.v u4, Sl.v (⟨some ⟨u7, 0, none⟩, 1, 1⟩ : Sl)]) (fun v σ => ∃ (u8 : Sl), v = Sl.v u8 ∧
 ∃ p9, a0 = some p9 ∧
 stN p9 (fun σ =>
  ∃ u10, acell ro σ ⟨u0, 0, none⟩ = some (.int .i64 u10) ∧
  if ¬ (u10 = 4) then
  ∃ p11, a0 = some p11 ∧
  ∃ u12, acell ro σ (p11.add 1) = some (Sl.v u12) ∧
  ∃ u13 u14, cellsAt ro σ ⟨u2, 0, none⟩ 0 [.int .i64 u13, .string u14] ∧
  nw ro σ (.cells #[.int .i64 u13, .string u14] 108) fun u15 σ =>
  awp prog ro (Builtin.append_ #[75, 75] 75 #[Sl.v u12, Sl.v (⟨some ⟨u15, 0, none⟩, 1, 1⟩ : Sl)]) (fun v σ => ∃ (u16 : Sl), v = Sl.v u16 ∧
   ∃ p17, a0 = some p17 ∧
   stN (p17.add 1) (fun σ =>
   j17_multi_work_do B ro Q σ) [Sl.v u16] 0 σ) σ
  else
  j17_multi_work_do B ro Q σ) [Sl.v u8] 0 σ) σ
def j35_multi_work_do (B : World) (ro : AH) (a0 : Option Addr) (u0 : Nat) (u1 : Nat) (u2 : Nat) (Q : Int → AH → Prop) (u3 : Bool) (σ : AH) : Prop :=
 if u3 = true then
 Q 81 σ
 else
 j10_multi_work_do B ro a0 u0 u1 u2 Q σ
def j26_multi_work_do (B : World) (ro : AH) (a0 : Option Addr) (u0 : Nat) (u1 : Nat) (u2 : Nat) (Q : Int → AH → Prop) (u3 : Bool) (σ : AH) : Prop :=
 if u3 = true then
 ∃ p4, a0 = some p4 ∧
 ∃ p5, a0 = some p5 ∧
 ∃ u6, acell ro σ (p4.add 3) = some (.pointer u6) ∧
 ∃ u7, acell ro σ (p5.add 4) = some (.string u7) ∧
 nw ro σ (.cells #[.string u7] 9) fun u8 σ =>
 c_multi_Usage B ro u6 (⟨some ⟨u8, 0, none⟩, 1, 1⟩ : Sl) σ fun u9 u10 σ =>
 nw ro σ (.cells #[.int .i64 0, .int .i64 0] 69) fun u11 σ =>
 stN ⟨u11, 0, none⟩ (fun σ =>
  ∃ p12, a0 = some p12 ∧
  ∃ u13, acell ro σ ⟨u11, 0, none⟩ = some (.int .i64 u13) ∧
  ∃ u14, acell ro σ (p12.add 6) = some (.int .i64 u14) ∧
  if u14 < u13 then
  j35_multi_work_do B ro a0 u0 u1 u2 Q true σ
  else
  ∃ p15, a0 = some p15 ∧
  ∃ u16, acell ro σ ((⟨u11, 0, none⟩ : Addr).add 1) = some (.int .i64 u16) ∧
  ∃ u17, acell ro σ ((p15.add 6).add 1) = some (.int .i64 u17) ∧
  j35_multi_work_do B ro a0 u0 u1 u2 Q (decide (u17 < u16)) σ) [.int .i64 u9, .int .i64 u10] 0 σ
 else
 j10_multi_work_do B ro a0 u0 u1 u2 Q σ
def j8_multi_work_do (B : World) (ro : AH) (a0 : Option Addr) (u0 : Nat) (u1 : Nat) (u2 : Nat) (Q : Int → AH → Prop) (u3 : Int) (σ : AH) : Prop :=
 if ¬ (u3 = 0) then
 Q u3 σ
 else
 ∃ u4, acell ro σ ⟨u0, 0, none⟩ = some (.int .i64 u4) ∧
 if u4 = 1 then
 j26_multi_work_do B ro a0 u0 u1 u2 Q true σ
 else
 ∃ u5, acell ro σ ⟨u0, 0, none⟩ = some (.int .i64 u5) ∧
 j26_multi_work_do B ro a0 u0 u1 u2 Q (decide (u5 = 3)) σ
def j45_multi_work_do (B : World) (ro : AH) (a0 : Option Addr) (u0 : Nat) (u1 : Nat) (u2 : Nat) (Q : Int → AH → Prop) (u3 : Int) (σ : AH) : Prop :=
 ∃ p4, a0 = some p4 ∧
 ∃ u5, acell ro σ (p4.add 3) = some (.pointer u5) ∧
 ∃ u6, acell ro σ ((⟨u0, 0, none⟩ : Addr).add 1) = some (.string u6) ∧
 ∃ u7, acell ro σ ((⟨u0, 0, none⟩ : Addr).add 2) = some (Sl.v u7) ∧
 ∃ u8, acell ro σ ((⟨u0, 0, none⟩ : Addr).add 5) = some (.bool u8) ∧
 c_ztree_Tree_Create B ro u5 u6 u7 u3 u8 σ fun u9 u10 σ =>
 stN ⟨u1, 0, none⟩ (fun σ =>
 ∃ u11, acell ro σ ⟨u1, 0, none⟩ = some (.string u11) ∧
 stN ((⟨u2, 0, none⟩ : Addr).add 1) (fun σ =>
  j8_multi_work_do B ro a0 u0 u1 u2 Q u10 σ) [.string u11] 0 σ) [.string u9] 0 σ
def j79_multi_work_do (B : World) (ro : AH) (a0 : Option Addr) (u0 : Nat) (u1 : Nat) (u2 : Nat) (u3 : Int) (Q : Int → AH → Prop) (u4 : Bool) (σ : AH) : Prop :=
 if u4 = true then
 j8_multi_work_do B ro a0 u0 u1 u2 Q 72 σ
 else
 j8_multi_work_do B ro a0 u0 u1 u2 Q u3 σ
def j77_multi_work_do (B : World) (ro : AH) (a0 : Option Addr) (u0 : Nat) (u1 : Nat) (u2 : Nat) (u3 : Nat) (u4 : Int) (Q : Int → AH → Prop) (u5 : Bool) (σ : AH) : Prop :=
 if u5 = true then
 ∃ u6, acell ro σ ((⟨u0, 0, none⟩ : Addr).add 3) = some (.int .i64 u6) ∧
 ∃ u7, acell ro σ ⟨u3, 0, none⟩ = some (.int .i64 u7) ∧
 j79_multi_work_do B ro a0 u0 u1 u2 u4 Q (!(decide (u6 = u7))) σ
 else
 j79_multi_work_do B ro a0 u0 u1 u2 u4 Q false σ
def f_multi_work_do (B : World) (ro : AH) (a0 : Option Addr) (a1_0 : Int) (a1_1 : ByteArray) (a1_2 : Sl) (a1_3 : Int) (a1_4 : Bool) (a1_5 : Bool) (σ : AH) (Q : Int → AH → Prop) : Prop :=
 nw ro σ (.cells #[.int .i64 a1_0, .string a1_1, Sl.v a1_2, .int .i64 a1_3, .bool a1_4, .bool a1_5] 82) fun u0 σ =>
 ∃ u1 u2 u3 u4 u5 u6, cellsAt ro σ ⟨u0, 0, none⟩ 0 [.int .i64 u1, .string u2, Sl.v u3, .int .i64 u4, .bool u5, .bool u6] ∧
 c_multi_work_within B ro a0 u1 u2 u3 u4 u5 u6 σ fun u7 σ =>
 if ¬ (u7 = 0) then
 Q u7 σ
 else
 nw ro σ (.cells #[.string ByteArray.empty, .int .i64 0] 84) fun u8 σ =>
 ∃ u9, acell ro σ ⟨u0, 0, none⟩ = some (.int .i64 u9) ∧
 ∃ u10, acell ro σ ((⟨u0, 0, none⟩ : Addr).add 1) = some (.string u10) ∧
 nw ro σ (.cells #[.int .i64 0, .string ByteArray.empty] 108) fun u11 σ =>
 stN ⟨u11, 0, none⟩ (fun σ =>
 ∃ u12, acell ro σ ⟨u0, 0, none⟩ = some (.int .i64 u12) ∧
 if u12 = 1 then
  ∃ u13, acell ro σ ((⟨u0, 0, none⟩ : Addr).add 4) = some (.bool u13) ∧
  if u13 = true then
  ∃ p14, a0 = some p14 ∧
  ∃ u15, acell ro σ (p14.add 5) = some (.int .i64 u15) ∧
  j45_multi_work_do B ro a0 u0 u8 u11 Q u15 σ
  else
  j45_multi_work_do B ro a0 u0 u8 u11 Q 0 σ
 else
 if u12 = 2 then
  ∃ p16, a0 = some p16 ∧
  ∃ u17, acell ro σ (p16.add 3) = some (.pointer u17) ∧
  ∃ u18, acell ro σ ((⟨u0, 0, none⟩ : Addr).add 1) = some (.string u18) ∧
  ∃ u19, acell ro σ ((⟨u0, 0, none⟩ : Addr).add 3) = some (.int .i64 u19) ∧
  c_ztree_Tree_Delete B ro u17 u18 u19 σ fun u20 σ =>
  j8_multi_work_do B ro a0 u0 u8 u11 Q u20 σ
 else
 if u12 = 3 then
  ∃ p21, a0 = some p21 ∧
  ∃ u22, acell ro σ (p21.add 3) = some (.pointer u22) ∧
  ∃ u23, acell ro σ ((⟨u0, 0, none⟩ : Addr).add 1) = some (.string u23) ∧
  ∃ u24, acell ro σ ((⟨u0, 0, none⟩ : Addr).add 2) = some (Sl.v u24) ∧
  ∃ u25, acell ro σ ((⟨u0, 0, none⟩ : Addr).add 3) = some (.int .i64 u25) ∧
  c_ztree_Tree_Set B ro u22 u23 u24 u25 σ fun u26 u27 σ =>
  stN ((⟨u8, 0, none⟩ : Addr).add 1) (fun σ =>
  j8_multi_work_do B ro a0 u0 u8 u11 Q u27 σ) [.int .i64 u26] 0 σ
 else
 if u12 = 4 then
  nw ro σ (.cells #[.int .i64 0, .int .i64 0, .int .i64 0, .int .i64 0] 32) fun u28 σ =>
  ∃ p29, a0 = some p29 ∧
  ∃ u30, acell ro σ (p29.add 3) = some (.pointer u30) ∧
  ∃ u31, acell ro σ ((⟨u0, 0, none⟩ : Addr).add 1) = some (.string u31) ∧
  c_ztree_Tree_Get B ro u30 u31 σ fun u32 u33 u34 u35 u36 u37 σ =>
  stN ⟨u28, 0, none⟩ (fun σ =>
  if u37 = 0 then
   ∃ u38, acell ro σ ((⟨u0, 0, none⟩ : Addr).add 3) = some (.int .i64 u38) ∧
   j77_multi_work_do B ro a0 u0 u8 u11 u28 u37 Q (!(decide (u38 = (-1)))) σ
  else
  j77_multi_work_do B ro a0 u0 u8 u11 u28 u37 Q false σ) [.int .i64 u33, .int .i64 u34, .int .i64 u35, .int .i64 u36] 0 σ
 else
 j8_multi_work_do B ro a0 u0 u8 u11 Q 0 σ) [.int .i64 u9, .string u10] 0 σ
theorem multi_work_do_ok {a0 : Option Addr} {a1_0 : Int} {a1_1 : ByteArray} {a1_2 : Sl} {a1_3 : Int} {a1_4 : Bool} {a1_5 : Bool} {Q : Int → AH → Prop} (h : Sep ro σ → f_multi_work_do B ro a0 a1_0 a1_1 a1_2 a1_3 a1_4 a1_5 σ Q) : c_multi_work_do B ro a0 a1_0 a1_1 a1_2 a1_3 a1_4 a1_5 σ Q := by
 refine zb h func96 ntmps96 fun h => ?_; unfold f_multi_work_do at h; refine z3 ?_; refine zA (A_box rfl rfl) h fun u0 h => ?_; refine zp ?_; refine z2 (AW.seq (z3 ?_))
 refine zp ?_; obtain ⟨u1, u2, u3, u4, u5, u6, hc, h⟩ := h
 refine zl (X_lda rfl underlying82 rfl ty82 rfl hc ?_)
 refine zc func125 h ?_; rintro v σ ⟨u7, rfl, h⟩; refine zp ?_; refine z4 ?_; iterate 2 refine zp ?_
 refine z2 ?_; refine AW.iff rfl (bnot_iff decide_eq_true_iff) h (fun h => ?_) (fun h => ?_)
 ·refine z3 ?_; iterate 2 refine zp ?_
  refine z2 ?_; refine AW.ret ?_; refine thenR ?_; exact bR1 results96 rfl ⟨_, rfl, h⟩
 refine AW.skip ?_; refine thenN (z3 ?_); refine zA (A_alloc rfl ty84) h fun u8 h => ?_; refine z4 ?_; refine zp ?_; refine z4 ?_; refine zf underlying82 ty3 ?_; refine zL underlying3 h fun u9 h => ?_; refine zf underlying82 ty9 ?_; refine zL underlying9 h fun u10 h => ?_; refine zm (V_bld (vs := [(0, .int .i64 u9), (1, .string u10)]) (cs := #[.int .i64 u9, .string u10]) rfl underlying108 ty108 pl108 rfl rfl) ?_
 refine zA (A_alloc rfl ty108) h fun u11 h => ?_; refine zs ty108 h fun σ h => ?_; refine z2 ?_; refine AW.seqJ (fun fr σ => ∃ (u12 : Int), FrLe [(0, .pointer a0), (3, .pointer (some ⟨u0, 0, none⟩)), (6, .pointer (some ⟨u8, 0, none⟩)), (8, .pointer (some ⟨u11, 0, none⟩)), (7, .int .i64 u12)] fr ∧ j8_multi_work_do B ro a0 u0 u8 u11 Q u12 σ) ?_ ?_
 ·rintro fr σ ⟨u12, hl, h⟩; refine AW.weaken ?_ hl (HLe.refl _)
  unfold j8_multi_work_do at h; refine AW.seq (z3 ?_); iterate 2 refine zp ?_
  refine z2 ?_; refine AW.iff rfl (bnot_iff decide_eq_true_iff) h (fun h => ?_) (fun h => ?_)
  ·refine z3 ?_; iterate 2 refine zp ?_
   refine z2 ?_; refine AW.ret ?_; refine thenR ?_; exact bR1 results96 rfl ⟨_, rfl, h⟩
  refine AW.skip ?_; refine thenN ?_; refine AW.seqJ (fun fr σ => FrLe [(0, .pointer a0), (3, .pointer (some ⟨u0, 0, none⟩)), (6, .pointer (some ⟨u8, 0, none⟩)), (8, .pointer (some ⟨u11, 0, none⟩))] fr ∧ j10_multi_work_do B ro a0 u0 u8 u11 Q σ) ?_ ?_
  ·rintro fr σ ⟨hl, h⟩; refine AW.weaken ?_ hl (HLe.refl _)
   unfold j10_multi_work_do at h; refine AW.seq ?_; refine AW.drawn0 (fun i => ([0, 0, 0, 0, 0, 3, 3, 1, 2, 0, 0, 0, 2] : List Nat).getD i 2) [(6, 7), (6, 8)] [0, 1, 2, 3, 4, 5, 6, 7, 8, 9, 10, 11, 12] mixed (by decide +kernel) ?_
   iterate 2 refine zq ?_
   obtain ⟨p13, hc, h⟩ := h
   refine Dp rfl rfl rfl rfl (V_nil rfl (by rw [← hc]; rfl)) ?_
   refine zg underlying173 ty77 ?_; refine zg underlying77 ty74 ?_; obtain ⟨u14, hc, h⟩ := h
   refine Dr rfl rfl rfl rfl (R_ld rfl underlying74 rfl rfl hc) ?_
   obtain ⟨u15, u16, hc, h⟩ := h
   refine Dr rfl rfl rfl rfl (R_lda rfl underlying84 rfl ty84 rfl hc) ?_
   refine Da rfl rfl rfl rfl (A_bsl (vs := [(0, .agg #[.string u15, .int .i64 u16])]) (cs := #[.string u15, .int .i64 u16]) rfl underlying74 ty84 (by decide) rfl rfl) fun u17 g1 g2 => ?_
   replace h := h u17 g1 g2
   refine Dg rfl rfl rfl rfl (X_bi (s := Builtin.append_ #[74, 74] 74 #[Sl.v u14, Sl.v (⟨some ⟨u17, 0, none⟩, 1, 1⟩ : Sl)]) rfl rfl (fun _ => rfl) (awp_mono _ h ?_))
   rintro v σ ⟨u18, rfl, h⟩; obtain ⟨p19, hc, h⟩ := h
   refine Dp rfl rfl rfl rfl (V_nil rfl (by rw [← hc]; rfl)) ?_
   refine zg underlying173 ty77 ?_; refine zg underlying77 ty74 ?_; refine Dg rfl rfl rfl rfl (X_st rfl ty74 rfl rfl rfl rfl (stN_mono h fun σ h => ?_))
   refine Dend ?_
   refine thenN ?_; refine AW.seqJ (fun fr σ => FrLe [] fr ∧ j17_multi_work_do B ro Q σ) ?_ ?_
   ·rintro fr σ ⟨hl, h⟩; refine AW.weaken ?_ hl (HLe.refl _)
    unfold j17_multi_work_do at h; refine z3 ?_; refine zp ?_; refine z2 ?_; refine AW.ret ?_; exact bR1 results96 rfl ⟨_, rfl, h⟩
   refine z3 ?_; refine zf underlying82 ty3 ?_; refine zL underlying3 h fun u20 h => ?_; refine zp ?_; refine z2 ?_; refine AW.iff rfl (bnot_iff decide_eq_true_iff) h (fun h => ?_) (fun h => ?_)
   rotate_left
   ·refine AW.skip ?_; refine thenN ?_; exact ⟨FL, h⟩
   refine AW.drawn0 (fun i => ([0, 0, 0, 0, 0, 3, 3, 1, 2, 0, 0, 0, 2] : List Nat).getD i 2) [(6, 7), (6, 8)] [0, 1, 2, 3, 4, 5, 6, 7, 8, 9, 10, 11, 12] mixed (by decide +kernel) ?_
   iterate 2 refine zq ?_
   obtain ⟨p21, hc, h⟩ := h
   refine Dp rfl rfl rfl rfl (V_nil rfl (by rw [← hc]; rfl)) ?_
   refine zg underlying173 ty77 ?_; refine zg underlying77 ty75 ?_; obtain ⟨u22, hc, h⟩ := h
   refine Dr rfl rfl rfl rfl (R_ld rfl underlying75 rfl rfl hc) ?_
   obtain ⟨u23, u24, hc, h⟩ := h
   refine Dr rfl rfl rfl rfl (R_lda rfl underlying108 rfl ty108 rfl hc) ?_
   refine Da rfl rfl rfl rfl (A_bsl (vs := [(0, .agg #[.int .i64 u23, .string u24])]) (cs := #[.int .i64 u23, .string u24]) rfl underlying75 ty108 (by decide) rfl rfl) fun u25 g1 g2 => ?_
   replace h := h u25 g1 g2
   refine Dg rfl rfl rfl rfl (X_bi (s := Builtin.append_ #[75, 75] 75 #[Sl.v u22, Sl.v (⟨some ⟨u25, 0, none⟩, 1, 1⟩ : Sl)]) rfl rfl (fun _ => rfl) (awp_mono _ h ?_))
   rintro v σ ⟨u26, rfl, h⟩; obtain ⟨p27, hc, h⟩ := h
   refine Dp rfl rfl rfl rfl (V_nil rfl (by rw [← hc]; rfl)) ?_
   refine zg underlying173 ty77 ?_; refine zg underlying77 ty75 ?_; refine Dg rfl rfl rfl rfl (X_st rfl ty75 rfl rfl rfl rfl (stN_mono h fun σ h => ?_))
   refine Dend ?_
   refine thenN ?_; exact ⟨FL, h⟩
  refine z3 ?_; refine zf underlying82 ty3 ?_; refine zL underlying3 h fun u28 h => ?_; iterate 2 refine zp ?_
  refine LsplitJ 4 (decide (u28 = 1)) decide_eq_true_iff h (fun fr σ => ∃ (u29 : Bool), FrLe [(0, .pointer a0), (3, .pointer (some ⟨u0, 0, none⟩)), (6, .pointer (some ⟨u8, 0, none⟩)), (8, .pointer (some ⟨u11, 0, none⟩)), (117, .bool u29)] fr ∧ j26_multi_work_do B ro a0 u0 u8 u11 Q u29 σ) ?_ ?_ ?_
  ·intro h e3 hk3; iterate 3 refine zn e3 ?_
   refine zk e3 ?_; exact hk3 _ _ ⟨_, FL, h⟩
  ·intro h e3 hk3; refine Lypb (V_fld rfl underlying82 rfl ty3 (by decide) rfl) rfl rfl rfl rfl e3 ?_
   obtain ⟨u30, hc, h⟩ := h
   refine Lyb rfl rfl rfl rfl e3 (X_ld rfl underlying3 rfl rfl hc ?_)
   refine zy e3 ?_; refine zk e3 ?_; exact hk3 _ _ ⟨_, FL, h⟩
  rintro fr σ ⟨u29, hl, h⟩; unfold j26_multi_work_do at h; refine Lfr hl ?_
  refine z2 ?_; refine zj h (fun h => ?_) fun h => ?_
  rotate_left
  ·refine AW.skip ?_; refine thenN ?_; exact ⟨FL, h⟩
  refine AW.seq ?_; refine AW.drawn0 (fun i => ([0, 0, 0, 3, 0, 0, 0, 3, 1, 2, 1, 2] : List Nat).getD i 2) [(7, 8), (7, 9)] [0, 1, 2, 4, 5, 6, 3, 7, 8, 9, 10, 11] mixed (by decide +kernel) ?_
  refine zq ?_; obtain ⟨p31, hc, h⟩ := h
  refine Dp rfl rfl rfl rfl (V_nil rfl (by rw [← hc]; rfl)) ?_
  refine zg underlying173 ty23 ?_; refine zq ?_; obtain ⟨p32, hc, h⟩ := h
  refine Dp rfl rfl rfl rfl (V_nil rfl (by rw [← hc]; rfl)) ?_
  refine zg underlying173 ty9 ?_; obtain ⟨u33, hc, h⟩ := h
  refine Dr rfl rfl rfl rfl (R_ld rfl underlying23 rfl rfl hc) ?_
  obtain ⟨u34, hc, h⟩ := h
  refine Dr rfl rfl rfl rfl (R_ld rfl underlying9 rfl rfl hc) ?_
  refine Da rfl rfl rfl rfl (A_bsl (vs := [(0, .string u34)]) (cs := #[.string u34]) rfl underlying25 ty9 (by decide) rfl rfl) fun u35 g1 g2 => ?_
  replace h := h u35 g1 g2
  refine Dg rfl rfl rfl rfl (X_call rfl func39 rfl rfl rfl (ACalls.mono h ?_))
  rintro v σ ⟨u36, u37, rfl, h⟩; refine Da rfl rfl rfl rfl (A_alloc rfl ty69) fun u38 g1 g2 => ?_
  replace h := h u38 g1 g2
  refine Dg rfl rfl rfl rfl (X_st rfl ty69 rfl rfl rfl rfl (stN_mono h fun σ h => ?_))
  refine Dend ?_
  refine thenN ?_; refine AW.seqJ (fun fr σ => ∃ (u39 : Bool), FrLe [(0, .pointer a0), (3, .pointer (some ⟨u0, 0, none⟩)), (6, .pointer (some ⟨u8, 0, none⟩)), (8, .pointer (some ⟨u11, 0, none⟩)), (145, .bool u39)] fr ∧ j35_multi_work_do B ro a0 u0 u8 u11 Q u39 σ) ?_ ?_
  ·rintro fr σ ⟨u39, hl, h⟩; refine AW.weaken ?_ hl (HLe.refl _)
   unfold j35_multi_work_do at h; refine zj h (fun h => ?_) fun h => ?_
   rotate_left
   ·refine AW.skip ?_; refine thenN ?_; exact ⟨FL, h⟩
   refine z3 ?_; refine zp ?_; refine z2 ?_; refine AW.ret ?_; refine thenR ?_; exact bR1 results96 rfl ⟨_, rfl, h⟩
  refine AW.drawn0 (fun i => ([0, 3, 0, 0, 0, 0, 3, 0, 0, 0, 3, 0, 0, 0, 0, 3, 0, 0] : List Nat).getD i 2) [] [0, 2, 3, 4, 5, 1, 6, 7, 8, 9, 11, 12, 13, 14, 10, 15, 16, 17] mixed (by decide +kernel) ?_
  refine zg underlying69 ty3 ?_; refine zq ?_; obtain ⟨p40, hc, h⟩ := h
  refine Dp rfl rfl rfl rfl (V_nil rfl (by rw [← hc]; rfl)) ?_
  refine zg underlying173 ty69 ?_; refine zg underlying69 ty3 ?_; obtain ⟨u41, hc, h⟩ := h
  refine Dr rfl rfl rfl rfl (R_ld rfl underlying3 rfl rfl hc) ?_
  obtain ⟨u42, hc, h⟩ := h
  refine Dr rfl rfl rfl rfl (R_ld rfl underlying3 rfl rfl hc) ?_
  iterate 2 refine zq ?_
  refine splitP (decide (u42 < u41)) decide_eq_true_iff h ?_ ?_
  ·intro h e8
   refine Dpn rfl rfl rfl rfl rfl (.inl (by rw [e8]; rfl)) rfl ?_
   refine Dpn rfl rfl rfl rfl rfl (.inl (by rw [e8]; rfl)) rfl ?_
   refine Dpn rfl rfl rfl rfl rfl (.inl (by rw [e8]; rfl)) rfl ?_
   refine Dpn rfl rfl rfl rfl rfl (.inl (by rw [e8]; rfl)) rfl ?_
   refine Dpn rfl rfl rfl rfl rfl (.inl (by rw [e8]; rfl)) rfl ?_
   refine Drn rfl rfl rfl rfl rfl (.inl (by rw [e8]; rfl)) rfl ?_
   refine Drn rfl rfl rfl rfl rfl (.inl (by rw [e8]; rfl)) rfl ?_
   refine Dpn rfl rfl rfl rfl rfl (.inl (by rw [e8]; rfl)) rfl ?_
   refine Dp rfl rfl rfl rfl (V_pickT rfl (evb e8) rfl) ?_
   refine Dend ?_
   refine thenN ?_; exact ⟨_, FL, h⟩
  intro h e8
  refine Dpy rfl rfl rfl rfl rfl e8 rfl (V_fld rfl underlying69 rfl ty3 (by decide) rfl) ?_
  refine Dpy rfl rfl rfl rfl rfl e8 rfl (V_move rfl rfl) ?_
  obtain ⟨p43, hc, h⟩ := h
  refine Dpy rfl rfl rfl rfl rfl e8 rfl (V_nil rfl (by rw [← hc]; rfl)) ?_
  refine Dpy rfl rfl rfl rfl rfl e8 rfl (V_fld rfl underlying173 rfl ty69 (by decide) rfl) ?_
  refine Dpy rfl rfl rfl rfl rfl e8 rfl (V_fld rfl underlying69 rfl ty3 (by decide) rfl) ?_
  obtain ⟨u44, hc, h⟩ := h
  refine Dry rfl rfl rfl rfl rfl e8 rfl (R_ld rfl underlying3 rfl rfl hc) ?_
  obtain ⟨u45, hc, h⟩ := h
  refine Dry rfl rfl rfl rfl rfl e8 rfl (R_ld rfl underlying3 rfl rfl hc) ?_
  refine Dpy rfl rfl rfl rfl rfl e8 rfl (V_gtr rfl rfl rfl) ?_
  refine Dp rfl rfl rfl rfl (V_pickF rfl (evb e8) rfl) ?_
  refine Dend ?_
  refine thenN ?_; exact ⟨_, FL, h⟩
 refine z3 ?_; refine zf underlying82 ty3 ?_; refine zL underlying3 h fun u46 h => ?_; refine z2 (AW.block (z3 ?_))
 iterate 2 refine zp ?_
 refine z2 ?_; refine zi h (fun h => ?_) fun h => ?_
 ·refine z3 ?_; refine zp ?_; refine z2 ?_; refine AW.seqJ (fun fr σ => ∃ (u47 : Int), FrLe [(0, .pointer a0), (3, .pointer (some ⟨u0, 0, none⟩)), (6, .pointer (some ⟨u8, 0, none⟩)), (8, .pointer (some ⟨u11, 0, none⟩)), (9, .int .i64 u47)] fr ∧ j45_multi_work_do B ro a0 u0 u8 u11 Q u47 σ) ?_ ?_
  rotate_left
  ·refine z3 ?_; refine zf underlying82 ty4 ?_; refine zL underlying4 h fun u48 h => ?_; refine z2 ?_; refine zj h (fun h => ?_) fun h => ?_
   rotate_left
   ·refine AW.skip ?_; refine thenN ?_; exact ⟨_, FL, h⟩
   refine AW.reg ?_; refine zp ?_; refine zN h fun p49 h => ?_; refine zf underlying173 ty3 ?_; refine zL underlying3 h fun u50 h => ?_; refine zp ?_; refine z2 ?_; exact ⟨_, FL, h⟩
  rintro fr σ ⟨u47, hl, h⟩; refine AW.weaken ?_ hl (HLe.refl _)
  unfold j45_multi_work_do at h; refine AW.seq ?_; refine AW.drawn0 (fun i => ([0, 0, 0, 3, 0, 3, 0, 3, 0, 0, 3, 2, 0, 0, 0, 0, 2, 0] : List Nat).getD i 2) [] [0, 1, 2, 4, 6, 8, 9, 3, 5, 7, 10, 11, 12, 13, 14, 15, 16, 17] mixed (by decide +kernel) ?_
  refine zq ?_; obtain ⟨p51, hc, h⟩ := h
  refine Dp rfl rfl rfl rfl (V_nil rfl (by rw [← hc]; rfl)) ?_
  refine zg underlying173 ty23 ?_; refine zg underlying82 ty9 ?_; refine zg underlying82 ty30 ?_; refine zq ?_; refine zg underlying82 ty4 ?_; obtain ⟨u52, hc, h⟩ := h
  refine Dr rfl rfl rfl rfl (R_ld rfl underlying23 rfl rfl hc) ?_
  obtain ⟨u53, hc, h⟩ := h
  refine Dr rfl rfl rfl rfl (R_ld rfl underlying9 rfl rfl hc) ?_
  obtain ⟨u54, hc, h⟩ := h
  refine Dr rfl rfl rfl rfl (R_ld rfl underlying30 rfl rfl hc) ?_
  obtain ⟨u55, hc, h⟩ := h
  refine Dr rfl rfl rfl rfl (R_ld rfl underlying4 rfl rfl hc) ?_
  refine Dg rfl rfl rfl rfl (X_call rfl func22 rfl rfl rfl (ACalls.mono h ?_))
  rintro v σ ⟨u56, u57, rfl, h⟩; iterate 3 refine zq ?_
  refine zg underlying84 ty9 ?_; refine Dg rfl rfl rfl rfl (X_st rfl ty9 rfl rfl rfl rfl (stN_mono h fun σ h => ?_))
  refine zq ?_; refine Dend ?_
  refine thenN (AW.reg ?_); refine zf underlying84 ty9 ?_; refine zL underlying9 h fun u58 h => ?_; refine zf underlying108 ty9 ?_; refine zs ty9 h fun σ h => ?_; refine Lnil (blockN (thenN ?_)); exact ⟨_, FL, h⟩
 refine z3 ?_; iterate 2 refine zp ?_
 refine z2 ?_; refine zi h (fun h => ?_) fun h => ?_
 ·refine AW.drawn0 (fun i => ([0, 0, 0, 3, 0, 3, 0, 3, 2, 0] : List Nat).getD i 2) [] [0, 1, 2, 4, 6, 3, 5, 7, 8, 9] mixed (by decide +kernel) ?_
  refine zq ?_; obtain ⟨p59, hc, h⟩ := h
  refine Dp rfl rfl rfl rfl (V_nil rfl (by rw [← hc]; rfl)) ?_
  refine zg underlying173 ty23 ?_; refine zg underlying82 ty9 ?_; refine zg underlying82 ty3 ?_; obtain ⟨u60, hc, h⟩ := h
  refine Dr rfl rfl rfl rfl (R_ld rfl underlying23 rfl rfl hc) ?_
  obtain ⟨u61, hc, h⟩ := h
  refine Dr rfl rfl rfl rfl (R_ld rfl underlying9 rfl rfl hc) ?_
  obtain ⟨u62, hc, h⟩ := h
  refine Dr rfl rfl rfl rfl (R_ld rfl underlying3 rfl rfl hc) ?_
  refine Dg rfl rfl rfl rfl (X_call rfl func24 rfl rfl rfl (ACalls.mono h ?_))
  rintro v σ ⟨u63, rfl, h⟩; refine zq ?_; refine Dend ?_
  refine blockN (thenN ?_); exact ⟨_, FL, h⟩
 refine z3 ?_; iterate 2 refine zp ?_
 refine z2 ?_; refine zi h (fun h => ?_) fun h => ?_
 ·refine AW.drawn0 (fun i => ([0, 0, 0, 3, 0, 3, 0, 3, 0, 3, 2, 0, 0, 0, 0, 2, 0] : List Nat).getD i 2) [] [0, 1, 2, 4, 6, 8, 3, 5, 7, 9, 10, 11, 12, 13, 14, 15, 16] mixed (by decide +kernel) ?_
  refine zq ?_; obtain ⟨p64, hc, h⟩ := h
  refine Dp rfl rfl rfl rfl (V_nil rfl (by rw [← hc]; rfl)) ?_
  refine zg underlying173 ty23 ?_; refine zg underlying82 ty9 ?_; refine zg underlying82 ty30 ?_; refine zg underlying82 ty3 ?_; obtain ⟨u65, hc, h⟩ := h
  refine Dr rfl rfl rfl rfl (R_ld rfl underlying23 rfl rfl hc) ?_
  obtain ⟨u66, hc, h⟩ := h
  refine Dr rfl rfl rfl rfl (R_ld rfl underlying9 rfl rfl hc) ?_
  obtain ⟨u67, hc, h⟩ := h
  refine Dr rfl rfl rfl rfl (R_ld rfl underlying30 rfl rfl hc) ?_
  obtain ⟨u68, hc, h⟩ := h
  refine Dr rfl rfl rfl rfl (R_ld rfl underlying3 rfl rfl hc) ?_
  refine Dg rfl rfl rfl rfl (X_call rfl func25 rfl rfl rfl (ACalls.mono h ?_))
  rintro v σ ⟨u69, u70, rfl, h⟩; iterate 3 refine zq ?_
  refine zg underlying84 ty3 ?_; refine Dg rfl rfl rfl rfl (X_st rfl ty3 rfl rfl rfl rfl (stN_mono h fun σ h => ?_))
  refine zq ?_; refine Dend ?_
  refine blockN (thenN ?_); exact ⟨_, FL, h⟩
 refine z3 ?_; iterate 2 refine zp ?_
 refine z2 ?_; refine zi h (fun h => ?_) fun h => ?_
 rotate_left
 ·refine AW.skip ?_; refine blockN (thenN ?_); exact ⟨_, FL, h⟩
 refine z3 ?_; refine zA (A_alloc rfl ty32) h fun u71 h => ?_; refine z2 (AW.seq ?_)
 refine AW.drawn0 (fun i => ([0, 0, 0, 3, 0, 3, 2, 0, 0, 0, 0, 2, 0] : List Nat).getD i 2) [] [0, 1, 2, 4, 3, 5, 6, 7, 8, 9, 10, 11, 12] mixed (by decide +kernel) ?_
 refine zq ?_; obtain ⟨p72, hc, h⟩ := h
 refine Dp rfl rfl rfl rfl (V_nil rfl (by rw [← hc]; rfl)) ?_
 refine zg underlying173 ty23 ?_; refine zg underlying82 ty9 ?_; obtain ⟨u73, hc, h⟩ := h
 refine Dr rfl rfl rfl rfl (R_ld rfl underlying23 rfl rfl hc) ?_
 obtain ⟨u74, hc, h⟩ := h
 refine Dr rfl rfl rfl rfl (R_ld rfl underlying9 rfl rfl hc) ?_
 refine Dg rfl rfl rfl rfl (X_call rfl func17 rfl rfl rfl (ACalls.mono h ?_))
 rintro v σ ⟨u75, u76, u77, u78, u79, u80, rfl, h⟩; iterate 4 refine zq ?_
 refine Dg rfl rfl rfl rfl (X_st rfl ty32 rfl rfl rfl rfl (stN_mono h fun σ h => ?_))
 refine zq ?_; refine Dend ?_
 refine thenN (z3 ?_); iterate 3 refine zp ?_
 refine LsplitJ 4 (decide (u80 = 0)) decide_eq_true_iff h (fun fr σ => ∃ (u81 : Bool), FrLe [(0, .pointer a0), (3, .pointer (some ⟨u0, 0, none⟩)), (6, .pointer (some ⟨u8, 0, none⟩)), (7, .int .i64 u80), (8, .pointer (some ⟨u11, 0, none⟩)), (10, .pointer (some ⟨u71, 0, none⟩)), (99, .bool u81)] fr ∧ j77_multi_work_do B ro a0 u0 u8 u11 u71 u80 Q u81 σ) ?_ ?_ ?_
 ·intro h e2 hk2; refine Lypb (V_fld rfl underlying82 rfl ty3 (by decide) rfl) rfl rfl rfl rfl e2 ?_
  obtain ⟨u82, hc, h⟩ := h
  refine Lyb rfl rfl rfl rfl e2 (X_ld rfl underlying3 rfl rfl hc ?_)
  refine zy e2 ?_; refine zk e2 ?_; exact hk2 _ _ ⟨_, FL, h⟩
 ·intro h e2 hk2; iterate 3 refine zn e2 ?_
  refine zk e2 ?_; exact hk2 _ _ ⟨_, FL, h⟩
 rintro fr σ ⟨u81, hl, h⟩; unfold j77_multi_work_do at h; refine Lfr hl ?_
 refine zp ?_; refine LsplitJ 6 u81 Iff.rfl h (fun fr σ => ∃ (u83 : Bool), FrLe [(0, .pointer a0), (3, .pointer (some ⟨u0, 0, none⟩)), (6, .pointer (some ⟨u8, 0, none⟩)), (7, .int .i64 u80), (8, .pointer (some ⟨u11, 0, none⟩)), (106, .bool u83)] fr ∧ j79_multi_work_do B ro a0 u0 u8 u11 u80 Q u83 σ) ?_ ?_ ?_
 ·intro h e7 hk7; refine Lypb (V_fld rfl underlying82 rfl ty3 (by decide) rfl) rfl rfl rfl rfl e7 ?_
  obtain ⟨u84, hc, h⟩ := h
  refine Lyb rfl rfl rfl rfl e7 (X_ld rfl underlying3 rfl rfl hc ?_)
  refine Lypb (V_fld rfl underlying32 rfl ty3 (by decide) rfl) rfl rfl rfl rfl e7 ?_
  obtain ⟨u85, hc, h⟩ := h
  refine Lyb rfl rfl rfl rfl e7 (X_ld rfl underlying3 rfl rfl hc ?_)
  refine zy e7 ?_; refine zk e7 ?_; exact hk7 _ _ ⟨_, FL, h⟩
 ·intro h e7 hk7; iterate 5 refine zn e7 ?_
  refine zk e7 ?_; exact hk7 _ _ ⟨_, FL, h⟩
 rintro fr σ ⟨u83, hl, h⟩; unfold j79_multi_work_do at h; refine Lfr hl ?_
 refine z2 ?_; refine zj h (fun h => ?_) fun h => ?_
 rotate_left
 ·refine AW.skip ?_; refine blockN (thenN ?_); exact ⟨_, FL, h⟩
 refine AW.reg ?_; refine zp ?_; refine Lnil (blockN (thenN ?_)); exact ⟨_, FL, h⟩
def j8_multi_work_within (B : World) (ro : AH) (Q : Int → AH → Prop) (u0 : Bool) (σ : AH) : Prop :=
 if u0 = true then
 Q 82 σ
 else
 Q 0 σ
def j6_multi_work_within (B : World) (ro : AH) (a0 : Option Addr) (u0 : Nat) (u1 : Sl) (u2 : Int) (Q : Int → AH → Prop) (u3 : Bool) (σ : AH) : Prop :=
 if u3 = true then
 Q 80 σ
 else
 if ¬ (u2 = 0) then
 Q u2 σ
 else
 if (u1.len : Int) = 0 then
 if True then
  j8_multi_work_within B ro Q true σ
 else
 if (u1.len : Int) = 1 then
  ∃ u4, acell ro σ ⟨u0, 0, none⟩ = some (.int .i64 u4) ∧
  j8_multi_work_within B ro Q (decide (u4 ≤ 2)) σ
 else
 j8_multi_work_within B ro Q false σ
 else
 ∃ p5, u1.a = some p5 ∧ (0 : Int) ≤ 0 ∧ 0 < (u1.len : Int) ∧
 ∃ p6, a0 = some p6 ∧
 ∃ u7, acell ro σ (p5.add (Int.toNat 0 * 1)) = some (.string u7) ∧
 ∃ u8, acell ro σ (p6.add 4) = some (.string u8) ∧
 if ¬ (u7 = u8) then
 j8_multi_work_within B ro Q true σ
 else
 if (u1.len : Int) = 1 then
 ∃ u9, acell ro σ ⟨u0, 0, none⟩ = some (.int .i64 u9) ∧
 j8_multi_work_within B ro Q (decide (u9 ≤ 2)) σ
 else
 j8_multi_work_within B ro Q false σ
def f_multi_work_within (B : World) (ro : AH) (a0 : Option Addr) (a1_0 : Int) (a1_1 : ByteArray) (a1_2 : Sl) (a1_3 : Int) (a1_4 : Bool) (a1_5 : Bool) (σ : AH) (Q : Int → AH → Prop) : Prop :=
 nw ro σ (.cells #[.int .i64 a1_0, .string a1_1, Sl.v a1_2, .int .i64 a1_3, .bool a1_4, .bool a1_5] 82) fun u0 σ =>
 ∃ u1, acell ro σ ((⟨u0, 0, none⟩ : Addr).add 1) = some (.string u1) ∧
 c_path_Parts B ro u1 σ fun u2 u3 σ =>
 ∃ u4, acell ro σ ⟨u0, 0, none⟩ = some (.int .i64 u4) ∧
 if u4 < 1 then
 j6_multi_work_within B ro a0 u0 u2 u3 Q true σ
 else
 ∃ u5, acell ro σ ⟨u0, 0, none⟩ = some (.int .i64 u5) ∧
 j6_multi_work_within B ro a0 u0 u2 u3 Q (decide (4 < u5)) σ
theorem multi_work_within_ok {a0 : Option Addr} {a1_0 : Int} {a1_1 : ByteArray} {a1_2 : Sl} {a1_3 : Int} {a1_4 : Bool} {a1_5 : Bool} {Q : Int → AH → Prop} (h : Sep ro σ → f_multi_work_within B ro a0 a1_0 a1_1 a1_2 a1_3 a1_4 a1_5 σ Q) : c_multi_work_within B ro a0 a1_0 a1_1 a1_2 a1_3 a1_4 a1_5 σ Q := by
 refine zb h func125 ntmps125 fun h => ?_; unfold f_multi_work_within at h; refine z3 ?_; refine zA (A_box rfl rfl) h fun u0 h => ?_; refine zp ?_; refine z4 ?_; refine zf underlying82 ty9 ?_; refine zL underlying9 h fun u1 h => ?_; refine zc func106 h ?_; rintro v σ ⟨u2, u3, rfl, h⟩; iterate 5 refine zp ?_
 refine z2 (AW.seq (AW.block (z3 ?_)))
 refine zf underlying82 ty3 ?_; refine zL underlying3 h fun u4 h => ?_; iterate 2 refine zp ?_
 refine LsplitJ 4 (decide (u4 < 1)) decide_eq_true_iff h (fun fr σ => ∃ (u5 : Bool), FrLe [(0, .pointer a0), (3, .pointer (some ⟨u0, 0, none⟩)), (5, Sl.v u2), (6, .int .i64 u3), (21, .bool u5)] fr ∧ j6_multi_work_within B ro a0 u0 u2 u3 Q u5 σ) ?_ ?_ ?_
 ·intro h e3 hk3; iterate 3 refine zn e3 ?_
  refine zk e3 ?_; exact hk3 _ _ ⟨_, FL, h⟩
 ·intro h e3 hk3; refine Lypb (V_fld rfl underlying82 rfl ty3 (by decide) rfl) rfl rfl rfl rfl e3 ?_
  obtain ⟨u6, hc, h⟩ := h
  refine Lyb rfl rfl rfl rfl e3 (X_ld rfl underlying3 rfl rfl hc ?_)
  refine zy e3 ?_; refine zk e3 ?_; exact hk3 _ _ ⟨_, FL, h⟩
 rintro fr σ ⟨u5, hl, h⟩; unfold j6_multi_work_within at h; refine Lfr hl ?_
 refine zp ?_; refine z2 ?_; refine zj h (fun h => ?_) fun h => ?_
 ·refine z3 ?_; refine zp ?_; refine z2 ?_; refine AW.ret ?_; refine blockR (thenR ?_); exact bR1 results125 rfl ⟨_, rfl, h⟩
 refine z3 ?_; iterate 3 refine zp ?_
 refine z2 ?_; refine AW.iff rfl (bnot_iff decide_eq_true_iff) h (fun h => ?_) (fun h => ?_)
 ·refine z3 ?_; iterate 2 refine zp ?_
  refine z2 ?_; refine AW.ret ?_; refine blockR (thenR ?_); exact bR1 results125 rfl ⟨_, rfl, h⟩
 refine AW.seqJ (fun fr σ => ∃ (u7 : Bool), FrLe [(26, .bool u7)] fr ∧ j8_multi_work_within B ro Q u7 σ) ?_ ?_
 ·rintro fr σ ⟨u7, hl, h⟩; refine AW.weaken ?_ hl (HLe.refl _)
  unfold j8_multi_work_within at h; refine zj h (fun h => ?_) fun h => ?_
  ·refine z3 ?_; refine zp ?_; refine z2 ?_; refine AW.ret ?_; refine blockR (thenR ?_); exact bR1 results125 rfl ⟨_, rfl, h⟩
  refine AW.skip ?_; refine blockN (thenN (z3 ?_)); refine zp ?_; refine z2 ?_; refine AW.ret ?_; exact bR1 results125 rfl ⟨_, rfl, h⟩
 refine AW.drawn0 (fun i => ([0, 0, 0, 0, 0, 0, 3, 0, 0, 0, 3, 0, 0, 0, 0, 0, 0, 0, 0, 3, 0, 0, 0, 0] : List Nat).getD i 2) [] [0, 1, 2, 3, 4, 5, 7, 8, 9, 6, 10, 11, 12, 13, 14, 15, 16, 17, 18, 19, 20, 21, 22, 23] mixed (by decide +kernel) ?_
 refine zq ?_; refine Dp rfl rfl rfl rfl (V_lenL rfl rfl underlying25 rfl rfl) ?_
 iterate 2 refine zq ?_
 refine splitP (decide ((u2.len : Int) = 0)) decide_eq_true_iff h ?_ ?_
 ·intro h e3
  refine Dpn rfl rfl rfl rfl rfl (.inl (by rw [e3]; rfl)) rfl ?_
  refine Dpn rfl rfl rfl rfl rfl (.inl (by rw [e3]; rfl)) rfl ?_
  refine Dpn rfl rfl rfl rfl rfl (.inl (by rw [e3]; rfl)) rfl ?_
  refine Dpn rfl rfl rfl rfl rfl (.inl (by rw [e3]; rfl)) rfl ?_
  refine Dpn rfl rfl rfl rfl rfl (.inl (by rw [e3]; rfl)) rfl ?_
  refine Drn rfl rfl rfl rfl rfl (.inl (by rw [e3]; rfl)) rfl ?_
  refine Drn rfl rfl rfl rfl rfl (.inl (by rw [e3]; rfl)) rfl ?_
  refine Dpn rfl rfl rfl rfl rfl (.inl (by rw [e3]; rfl)) rfl ?_
  refine Dp rfl rfl rfl rfl (V_pickT rfl (evb e3) rfl) ?_
  refine zq ?_; refine splitP true (by simp) h ?_ ?_
  ·intro h e13
   refine Dpn rfl rfl rfl rfl rfl (.inl (by rw [e13]; rfl)) rfl ?_
   refine Dpn rfl rfl rfl rfl rfl (.inl (by rw [e13]; rfl)) rfl ?_
   refine Dpn rfl rfl rfl rfl rfl (.inl (by rw [e13]; rfl)) rfl ?_
   refine Dpn rfl rfl rfl rfl rfl (.inl (by rw [e13]; rfl)) rfl ?_
   refine Dpn rfl rfl rfl rfl rfl (.inr rfl) rfl ?_
   refine Drn rfl rfl rfl rfl rfl (.inr rfl) rfl ?_
   refine Dpn rfl rfl rfl rfl rfl (.inr rfl) rfl ?_
   refine Dpn rfl rfl rfl rfl rfl (.inl (by rw [e13]; rfl)) rfl ?_
   refine Dp rfl rfl rfl rfl (V_pickT rfl (evb e13) rfl) ?_
   refine zq ?_; refine Dend ?_
   refine thenN ?_; exact ⟨_, FL, h⟩
  intro h e13
  refine Dpy rfl rfl rfl rfl rfl e13 rfl (V_move rfl rfl) ?_
  refine Dpy rfl rfl rfl rfl rfl e13 rfl (V_lenL rfl rfl underlying25 rfl rfl) ?_
  refine Dpy rfl rfl rfl rfl rfl e13 rfl (V_eql rfl rfl rfl) ?_
  refine Dpy rfl rfl rfl rfl rfl e13 rfl (V_move rfl rfl) ?_
  refine splitP (decide ((u2.len : Int) = 1)) decide_eq_true_iff h ?_ ?_
  rotate_left
  ·intro h e17
   refine Dpn rfl rfl rfl rfl rfl (.inl (by rw [e17]; rfl)) rfl ?_
   refine Drn rfl rfl rfl rfl rfl (.inl (by rw [e17]; rfl)) rfl ?_
   refine Dpn rfl rfl rfl rfl rfl (.inl (by rw [e17]; rfl)) rfl ?_
   refine Dpy rfl rfl rfl rfl rfl e13 rfl (V_pickF rfl (evb e17) rfl) ?_
   refine Dp rfl rfl rfl rfl (V_pickF rfl (evb e13) rfl) ?_
   refine zq ?_; refine Dend ?_
   refine thenN ?_; exact ⟨_, FL, h⟩
  intro h e17
  refine Dpy rfl rfl rfl rfl rfl e17 rfl (V_fld rfl underlying82 rfl ty3 (by decide) rfl) ?_
  obtain ⟨u8, hc, h⟩ := h
  refine Dry rfl rfl rfl rfl rfl e17 rfl (R_ld rfl underlying3 rfl rfl hc) ?_
  refine Dpy rfl rfl rfl rfl rfl e17 rfl (V_leq rfl rfl rfl) ?_
  refine Dpy rfl rfl rfl rfl rfl e13 rfl (V_pickT rfl (evb e17) rfl) ?_
  refine Dp rfl rfl rfl rfl (V_pickF rfl (evb e13) rfl) ?_
  refine zq ?_; refine Dend ?_
  refine thenN ?_; exact ⟨_, FL, h⟩
 intro h e3
 refine Dpy rfl rfl rfl rfl rfl e3 rfl (V_move rfl rfl) ?_
 obtain ⟨p9, ha, h0, h1, h⟩ := h
 refine Dpy rfl rfl rfl rfl rfl e3 rfl (V_ixA rfl underlying25 ty9 (ixL rfl ha) rfl h0 h1) ?_
 refine Dpy rfl rfl rfl rfl rfl e3 rfl (V_move rfl rfl) ?_
 obtain ⟨p10, hc, h⟩ := h
 refine Dpy rfl rfl rfl rfl rfl e3 rfl (V_nil rfl (by rw [← hc]; rfl)) ?_
 refine Dpy rfl rfl rfl rfl rfl e3 rfl (V_fld rfl underlying173 rfl ty9 (by decide) rfl) ?_
 obtain ⟨u11, hc, h⟩ := h
 refine Dry rfl rfl rfl rfl rfl e3 rfl (R_ld rfl underlying9 rfl rfl hc) ?_
 obtain ⟨u12, hc, h⟩ := h
 refine Dry rfl rfl rfl rfl rfl e3 rfl (R_ld rfl underlying9 rfl rfl hc) ?_
 refine Dpy rfl rfl rfl rfl rfl e3 rfl (V_neqS rfl rfl rfl) ?_
 refine Dp rfl rfl rfl rfl (V_pickF rfl (evb e3) rfl) ?_
 refine zq ?_; refine splitP (!(decide (u11 = u12))) (bnot_iff decide_eq_true_iff) h ?_ ?_
 ·intro h e13
  refine Dpn rfl rfl rfl rfl rfl (.inl (by rw [e13]; rfl)) rfl ?_
  refine Dpn rfl rfl rfl rfl rfl (.inl (by rw [e13]; rfl)) rfl ?_
  refine Dpn rfl rfl rfl rfl rfl (.inl (by rw [e13]; rfl)) rfl ?_
  refine Dpn rfl rfl rfl rfl rfl (.inl (by rw [e13]; rfl)) rfl ?_
  refine Dpn rfl rfl rfl rfl rfl (.inr rfl) rfl ?_
  refine Drn rfl rfl rfl rfl rfl (.inr rfl) rfl ?_
  refine Dpn rfl rfl rfl rfl rfl (.inr rfl) rfl ?_
  refine Dpn rfl rfl rfl rfl rfl (.inl (by rw [e13]; rfl)) rfl ?_
  refine Dp rfl rfl rfl rfl (V_pickT rfl (evb e13) rfl) ?_
  refine zq ?_; refine Dend ?_
  refine thenN ?_; exact ⟨_, FL, h⟩
 intro h e13
 refine Dpy rfl rfl rfl rfl rfl e13 rfl (V_move rfl rfl) ?_
 refine Dpy rfl rfl rfl rfl rfl e13 rfl (V_lenL rfl rfl underlying25 rfl rfl) ?_
 refine Dpy rfl rfl rfl rfl rfl e13 rfl (V_eql rfl rfl rfl) ?_
 refine Dpy rfl rfl rfl rfl rfl e13 rfl (V_move rfl rfl) ?_
 refine splitP (decide ((u2.len : Int) = 1)) decide_eq_true_iff h ?_ ?_
 rotate_left
 ·intro h e17
  refine Dpn rfl rfl rfl rfl rfl (.inl (by rw [e17]; rfl)) rfl ?_
  refine Drn rfl rfl rfl rfl rfl (.inl (by rw [e17]; rfl)) rfl ?_
  refine Dpn rfl rfl rfl rfl rfl (.inl (by rw [e17]; rfl)) rfl ?_
  refine Dpy rfl rfl rfl rfl rfl e13 rfl (V_pickF rfl (evb e17) rfl) ?_
  refine Dp rfl rfl rfl rfl (V_pickF rfl (evb e13) rfl) ?_
  refine zq ?_; refine Dend ?_
  refine thenN ?_; exact ⟨_, FL, h⟩
 intro h e17
 refine Dpy rfl rfl rfl rfl rfl e17 rfl (V_fld rfl underlying82 rfl ty3 (by decide) rfl) ?_
 obtain ⟨u13, hc, h⟩ := h
 refine Dry rfl rfl rfl rfl rfl e17 rfl (R_ld rfl underlying3 rfl rfl hc) ?_
 refine Dpy rfl rfl rfl rfl rfl e17 rfl (V_leq rfl rfl rfl) ?_
 refine Dpy rfl rfl rfl rfl rfl e13 rfl (V_pickT rfl (evb e17) rfl) ?_
 refine Dp rfl rfl rfl rfl (V_pickF rfl (evb e13) rfl) ?_
 refine zq ?_; refine Dend ?_
 refine thenN ?_; exact ⟨_, FL, h⟩
end G
namespace Zt
open Go SL G Pa
variable {B : World} {ro σ σ' : AH} {tag tag' : Nat → Nat}
theorem partsN2_ok {s : ByteArray} {Q : Sl → Int → AH → Prop} (r : Nat) (g : Glob ro) (hs : SL.Sep ro σ) (hnone : parts (L s) = none → ∀ tag' σ', Step [] ro tag σ tag' σ' → Q ⟨none, 0, 0⟩ 20 σ')
  (hsome : ∀ ps, parts (L s) = some ps → ∀ sl tag' σ', Step [] ro tag σ tag' σ' → Row tag' σ' r 9 sl (ps.map Pa.vS) → Q sl 0 σ') : c_path_Parts B ro s σ Q := by
 have base : c_path_Parts B ro s (fun _ => none) (fun sl e σ' => (parts (L s) = none ∧ e = 20 ∧ sl = ⟨none, 0, 0⟩) ∨ ∃ ps tag', parts (L s) = some ps ∧ e = 0 ∧ Row tag' σ' r 9 sl (ps.map Pa.vS)) :=
  Pa.partsN_ok (tag := fun _ => 0) r g (fun h _ => .inl ⟨h, rfl, rfl⟩) fun ps h sl tag' σ' _ hr => .inr ⟨ps, tag', h, rfl, hr⟩
 have fr := c_path_Parts_frame (ψ := σ) base (fun b o h => by cases h)
 have e : join (fun _ => none) σ = σ := by funext b; rfl
 rw [e] at fr
 refine c_path_Parts_mono fr ?_
 rintro sl ev σ' hsep ⟨τ, rfl, hd, hq⟩
 have keep : ∀ (tg : Nat → Nat), (∀ b, τ b = none → tg b = tag b) → Step [] ro tag σ tg (join τ σ) := fun tg htg => by
  have hn : ∀ b o, σ b = some o → τ b = none := fun b o ho => by
   cases h : τ b with
   | none => rfl
   | some x => have := hd b x h; rw [ho] at this; cases this
  refine ⟨fun b o ho _ => ⟨htg b (hn b o ho), join_right hd ho⟩, fun b o ho => ⟨htg b (hn b o ho), o, join_right hd ho⟩, hsep⟩
 rcases hq with ⟨h, rfl, rfl⟩ | ⟨ps, tg, h, rfl, hr⟩
 ·exact hnone h tag _ (keep tag fun _ _ => rfl)
 ·refine hsome ps h sl (fun b => if (τ b).isSome then tg b else tag b) _ (keep _ fun b hb => by simp [hb]) ?_
  rcases hr with h | ⟨b, cs, ha, ht, hb, hx⟩
  ·exact .inl h
  ·exact .inr ⟨b, cs, ha, by simp [hb, ht], by unfold join; rw [hb], hx⟩
theorem parts2_ok {s : ByteArray} {Q : Sl → Int → AH → Prop} (r : Nat) (g : Glob ro) (hs : SL.Sep ro σ) (hnone : parts (L s) = none → ∀ sl tag' σ', Step [] ro tag σ tag' σ' → Q sl 20 σ')
  (hsome : ∀ ps, parts (L s) = some ps → ∀ sl tag' σ', Step [] ro tag σ tag' σ' → Row tag' σ' r 9 sl (ps.map Pa.vS) → Q sl 0 σ') : c_path_Parts B ro s σ Q := partsN2_ok r g hs (fun h tag' σ' st => hnone h _ tag' σ' st) hsome
theorem home_ok {s : ByteArray} {ps : List Str} {Q : ByteArray → Int → AH → Prop} (g : Glob ro) (hps : parts (L s) = some ps) (hQ : ∀ tag' σ', Step [] ro tag σ tag' σ' → Q (S ((homeOf (L s)).getD [])) 0 σ') : c_path_Home B ro s σ Q := by
 refine path_Home_ok fun hs => ?_
 unfold f_path_Home
 refine parts2_ok (tag := tag) 0 g hs (fun h => by rw [hps] at h; cases h) fun ps' h sl tag1 σ1 st1 r1 => ?_
 rw [hps] at h; cases h
 have hln : sl.len = ps.length := by rw [r1.len, List.length_map]
 have hh := homeOf_parts hps
 by_cases h0 : ps = []
 ·subst h0
  rw [if_pos (by rw [hln]; rfl)]
  rw [hh] at hQ
  exact hQ tag1 σ1 st1
 ·have hpos := List.length_pos_iff.2 h0
  rw [if_neg (by omega)]
  obtain ⟨p, hp, _, hget⟩ := Row.sget r1 st1.sep hpos
  refine ⟨p, hp, by decide, by omega, _, hget 0 hpos, ?_⟩
  rw [hh, List.head?_eq_getElem?, List.getElem?_eq_getElem hpos] at hQ
  exact hQ tag1 σ1 st1
theorem usage_ok {r T M q0 : Nat} {bs : List Nat} {st : St} {hs : List Str} {s : Sl} {Q : Int → Int → AH → Prop} (g : Glob ro) (hr : r < 64) (hr' : r ∉ [0, 2, 3, 4, 6, 20]) (h : TreeAt tag σ r T M bs st) (hi : Inv st) (hn : st.length ≤ 4294967296)
  (hrow : Row tag σ q0 9 s (hs.map Pa.vS)) (hq0 : q0 % 64 ∉ [0, 2, 3, 4, 20]) (hhl : ∀ x ∈ hs, x.length ≤ 4611686018427387903) (hhn : hs.length ≤ 1024)
  (hQ : ∀ tag' σ', StepS [0, 2, 3, 4, 20] ro tag σ tag' σ' → Q ((usages st hs).1 : Nat) ((usages st hs).2 : Nat) σ') : c_multi_Usage B ro (some ⟨T, 0, none⟩) s σ Q := by
 refine multi_Usage_ok fun hsep => ?_
 unfold f_multi_Usage
 simp only [List.mem_cons, List.not_mem_nil, or_false, not_or] at hr' hq0
 refine nw_cells (tag := tag) 2 hsep fun x4 tag1 σ1 st1 r1 => ?_
 refine nw_cells (tag := tag1) 3 (st1 []).sep fun x5 tag2 σ2 st2 r2 => ?_
 have hsl : s.len = hs.length := by rw [hrow.len, List.length_map]
 have hpaths : ∀ p ∈ st, ∃ ps, parts p.1 = some ps := fun p hp => hi.path _ _ ((lookup_iff hi.keys (k := p.1) (n := p.2)).2 hp)
 let acc (j : Nat) : Nat × Nat := usages st (hs.take j)
 have hacc : ∀ j, j ≤ hs.length → (acc j).1 ≤ j * st.length ∧ (acc j).2 ≤ j * (384 * st.length) := by
  intro j
  induction j with
  | zero => intro _; exact ⟨by simp [acc, usages], by simp [acc, usages]⟩
  | succ j ih =>
   intro hj
   have := ih (by omega)
   have hu := usage_le hi hs[j]
   have e : acc (j + 1) = ((acc j).1 + (usage st hs[j]).1, (acc j).2 + (usage st hs[j]).2) := by
    simp only [acc, usages]
    rw [List.take_add_one, List.getElem?_eq_getElem (by omega), List.foldl_append]; rfl
   rw [e]
   simp only [Nat.add_mul, Nat.one_mul]
   omega
 have hbound : ∀ j, j ≤ hs.length → (acc j).1 ≤ 4398046511104 ∧ (acc j).2 ≤ 1688849860263936 := fun j hj => by
  have h1 := hacc j hj
  have h2 : j * st.length ≤ 1024 * 4294967296 := Nat.mul_le_mul (by omega) hn
  have h3 : j * (384 * st.length) ≤ 1024 * (384 * 4294967296) := Nat.mul_le_mul (by omega) (Nat.mul_le_mul_left _ hn)
  omega
 suffices ∀ (m j : Nat) (tag3 : Nat → Nat) (σ3 : AH), j + m = hs.length → StepS [0, 2, 3, 4, 20] ro tag σ tag3 σ3 → TreeAt tag3 σ3 r T M bs st → Row tag3 σ3 q0 9 s (hs.map Pa.vS) → Row tag3 σ3 2 69 ⟨some ⟨x4, 0, none⟩, 2, 2⟩ [vI 0, vI 0] → Row tag3 σ3 3 69 ⟨some ⟨x5, 0, none⟩, 2, 2⟩ [vI (acc j).1, vI (acc j).2] →
   lfpD (l6_multi_Usage B ro (some ⟨T, 0, none⟩) s x4 x5 Q) (j : Int) σ3 from
  this _ 0 tag2 σ2 (Nat.zero_add _) (((st1 []).s (by simp)).trans ((st2 []).s (by simp))) ((h.keep (st1 [])).keep (st2 [])) ((hrow.keep (st1 [])).keep (st2 [])) (r1.keep (st2 [])) r2
 intro m
 induction m with
 | zero =>
  intro j tag3 σ3 hj hst hA hrow3 h4 h5
  refine lfpD.intro ?_
  unfold l6_multi_Usage
  rw [if_neg (by omega)]
  unfold j3_multi_Usage
  obtain ⟨p5, hp5, hg5⟩ := h5.ptr hst.sep (by simp)
  cases hp5
  refine ⟨_, _, cellsAt_of 0 fun i v hv => by rw [Nat.zero_add]; have := hg5 i v hv; rwa [Nat.mul_one] at this, ?_⟩
  refine h4.stAll hst.sep (by simp) (by simp [storable]) fun σ4 st4 r4 => ?_
  obtain ⟨p4, hp4, hg4⟩ := r4.ptr st4.sep (by simp)
  cases hp4
  refine ⟨_, _, cellsAt_of 0 fun i v hv => by rw [Nat.zero_add]; have := hg4 i v hv; rwa [Nat.mul_one] at this, ?_⟩
  have e : acc j = usages st hs := by simp only [acc]; rw [List.take_of_length_le (by omega)]
  rw [e]
  exact hQ tag3 σ4 (hst.trans (st4.s (by simp)))
 | succ m ih =>
  intro j tag3 σ3 hj hst hA hrow3 h4 h5
  have hjl : j < hs.length := by omega
  obtain ⟨pp, hpp, _, hget⟩ := Row.sget hrow3 hst.sep hjl
  refine lfpD.intro ?_
  unfold l6_multi_Usage
  rw [if_pos (by omega)]
  refine ⟨pp, hpp, by omega, by omega, S hs[j], by rw [Int.toNat_natCast]; exact hget j hjl, ?_⟩
  have hxl := hhl _ (List.getElem_mem hjl)
  refine ⟨by rw [show (⟨#[47]⟩ : ByteArray).size = 1 from rfl, show (S hs[j]).size = hs[j].length from by rw [← L_len, L_S]]; omega, ?_⟩
  have hcat : (⟨#[47]⟩ : ByteArray) ++ S hs[j] = S (47 :: hs[j]) := by
   rw [show (⟨#[47]⟩ : ByteArray) = S [47] from rfl, S_append]; rfl
  rw [hcat]
  have hu := usage_le hi hs[j]
  have hej : acc (j + 1) = ((acc j).1 + (usage st hs[j]).1, (acc j).2 + (usage st hs[j]).2) := by
   simp only [acc, usages]
   rw [List.take_add_one, List.getElem?_eq_getElem hjl, List.foldl_append]; rfl
  have hbj := hbound (j + 1) (by omega)
  rw [hej] at hbj
  simp only at hbj
  have inner : ∀ (l : List Str) (sl : Sl) (m2 i : Nat) (tag5 : Nat → Nat) (σ5 : AH), i + m2 = l.length → l.length ≤ st.length → (∀ k ∈ l, k ∈ st.map (·.1)) → usageK st hs[j] l = usage st hs[j] → StepS [0, 2, 3, 4, 20] ro tag σ tag5 σ5 → TreeAt tag5 σ5 r T M bs st → Row tag5 σ5 q0 9 s (hs.map Pa.vS) → Row tag5 σ5 2 69 ⟨some ⟨x4, 0, none⟩, 2, 2⟩ [vI 0, vI 0] → Row tag5 σ5 20 9 sl (l.map Pa.vS) →
    Row tag5 σ5 3 69 ⟨some ⟨x5, 0, none⟩, 2, 2⟩ [vI ((acc j).1 + (usageK st hs[j] (l.take i)).1 : Nat), vI ((acc j).2 + (usageK st hs[j] (l.take i)).2 : Nat)] →
    lfpD (l13_multi_Usage B ro (some ⟨T, 0, none⟩) s x4 x5 (j : Int) (S hs[j]) sl Q (lfpD (l6_multi_Usage B ro (some ⟨T, 0, none⟩) s x4 x5 Q))) (i : Int) σ5 := by
   intro l sl m2
   induction m2 with
   | zero =>
    intro i tag5 σ5 hil hll hlk hul hst5 hA5 hrow5 h45 h20 h35
    refine lfpD.intro ?_
    unfold l13_multi_Usage
    have hsll : sl.len = l.length := by rw [h20.len, List.length_map]
    rw [if_neg (by omega)]
    unfold j8_multi_Usage
    rw [Pa.inc j (by omega)]
    rw [List.take_of_length_le (by omega), hul] at h35
    exact ih (j + 1) tag5 σ5 (by omega) hst5 hA5 hrow5 h45 (by rw [hej]; exact h35)
   | succ m2 ih2 =>
    intro i tag5 σ5 hil hll hlk hul hst5 hA5 hrow5 h45 h20 h35
    have hil' : i < l.length := by omega
    have hsll : sl.len = l.length := by rw [h20.len, List.length_map]
    obtain ⟨pl, hpl, _, hgetl⟩ := Row.sget h20 hst5.sep hil'
    obtain ⟨n, hnl⟩ := lookup_in (hlk _ (List.getElem_mem hil'))
    obtain ⟨ps, hps⟩ := hi.path _ _ hnl
    have hda := hi.data _ _ hnl
    have hk128 : l[i].length ≤ 128 := (hi.small _ ((lookup_iff hi.keys).1 hnl)).1
    refine lfpD.intro ?_
    unfold l13_multi_Usage
    rw [if_pos (by omega)]
    refine ⟨pl, hpl, by omega, by omega, S l[i], by rw [Int.toNat_natCast]; exact hgetl i hil', ?_⟩
    refine home_ok (tag := tag5) g (by rw [L_S]; exact hps) fun tag6 σ6 st6 => ?_
    rw [L_S]
    have etk : usageK st hs[j] (l.take (i + 1)) = if homeOf l[i] = some hs[j] then ((usageK st hs[j] (l.take i)).1 + 1, (usageK st hs[j] (l.take i)).2 + (l[i].length + n.data.length)) else usageK st hs[j] (l.take i) := by
     rw [List.take_add_one, List.getElem?_eq_getElem hil']
     simp only [Option.toList_some]
     rw [usageK_app, hnl]
    have ul := usageK_le st hs[j] (l.take (i + 1)) (fun k hk => by
     obtain ⟨n', hn'⟩ := lookup_in (hlk k (List.mem_of_mem_take hk))
     exact (hi.small _ ((lookup_iff hi.keys).1 hn')).1) hi.data
    by_cases hh : homeOf l[i] = some hs[j]
    ·rw [hh]
     simp only [Option.getD_some]
     rw [if_neg (by
      rintro (h | h)
      ·exact h trivial
      ·exact homeOf_ne hh (S_inj.1 h))]
     rw [if_pos hh] at etk
     refine get_ok g hr (by omega) (by omega) (hA5.keep st6) (fun p n h => hi.data p n h) (fun hb => by rw [L_S, hps] at hb; cases hb) (fun _ _ hb => by rw [L_S, hnl] at hb; cases hb) (fun n' hn' ds tag7 σ7 st7 hr7 => ?_)
     rw [L_S, hnl] at hn'; cases hn'
     refine nw_st (tag := tag7) 4 st7.sep rfl (by simp [storable]) fun x tag8 σ8 st8 r8 => ?_
     have h38 := ((h35.keep st6).keepC st7).keep (st8 [])
     obtain ⟨p5, hp5, hg5⟩ := h38.ptr (st8 []).sep (by simp)
     cases hp5
     refine ⟨_, hg5 0 _ rfl, ?_⟩
     refine h38.st (i := 0) (st8 []).sep rfl (by simp) rfl fun σ9 st9 r9 => ?_
     obtain ⟨p9, hp9, hg9⟩ := r9.ptr st9.sep (by simp)
     cases hp9
     refine ⟨_, hg9 1 _ rfl, ?_⟩
     refine r9.st (i := 1) st9.sep rfl (by simp) rfl fun σa sta ra => ?_
     unfold j15_multi_Usage
     rw [Pa.inc i (by omega)]
     have hdl : (ds.len : Int) = n.data.length := by rw [hr7.len, List.length_map]
     have hsz : ((S l[i]).size : Int) = l[i].length := by rw [← L_len, L_S]
     have k9 : ∀ (R : Nat), R ≠ 3 → R ∉ [3] := fun R h => by simpa using h
     rw [etk] at ul
     simp only at ul
     have lt : (l.take (i + 1)).length ≤ st.length := by rw [List.length_take]; omega
     refine ih2 (i + 1) tag8 σa (by omega) hll hlk hul (hst5.trans ((st6.s (by simp)).trans ((st7.s (by simp)).trans (((st8 []).s (by simp)).trans ((st9.s (by simp)).trans (sta.s (by simp))))))) ?_ ?_ ?_ ?_ ?_
     ·exact ((((hA5.keep st6).keepC st7 (by omega) (by omega)).keep (st8 [])).keep st9 (by simp; omega)).keep sta (by simp; omega)
     ·exact ((((hrow5.keep st6).keepC st7 (by omega)).keep (st8 [])).keep st9 (by simp; omega)).keep sta (by simp; omega)
     ·exact ((((h45.keep st6).keepC st7 (by omega)).keep (st8 [])).keep st9).keep sta
     ·exact ((((h20.keep st6).keepC st7 (by omega)).keep (st8 [])).keep st9).keep sta
     ·rw [etk]
      have e1 : i64.wrap ((((acc j).1 + (usageK st hs[j] (l.take i)).1 : Nat) : Int) + 1) = (((acc j).1 + ((usageK st hs[j] (l.take i)).1 + 1) : Nat) : Int) := by
       rw [w64_eq (by omega) (by omega)]; omega
      have e2 : i64.wrap ((((acc j).2 + (usageK st hs[j] (l.take i)).2 : Nat) : Int) + i64.wrap (((S l[i]).size : Int) + (ds.len : Int))) = (((acc j).2 + ((usageK st hs[j] (l.take i)).2 + (l[i].length + n.data.length)) : Nat) : Int) := by
       rw [hdl, hsz, w64_eq (n := (l[i].length : Int) + (n.data.length : Int)) (by omega) (by omega), w64_eq (by omega) (by omega)]; omega
      simp only
      rw [← e1, ← e2]
      exact ra
    ·rw [if_pos (by
      by_cases h0 : hs[j] = []
      ·exact .inr (by rw [h0]; rfl)
      ·refine .inl fun h => hh ?_
       have := S_inj.1 h
       cases e : homeOf l[i] with
       | none => rw [e] at this; exact absurd this.symm h0
       | some x => rw [e] at this; simp at this; rw [this])]
     rw [if_neg hh] at etk
     unfold j15_multi_Usage
     rw [Pa.inc i (by omega)]
     exact ih2 (i + 1) tag6 σ6 (by omega) hll hlk hul (hst5.trans (st6.s (by simp))) (hA5.keep st6) (hrow5.keep st6) (h45.keep st6) (h20.keep st6) (by rw [etk]; exact h35.keep st6)
  refine pathsAny_ok (q := 20) g hr (by omega) (by decide) hA hpaths (by omega) (fun hbad tag5 σ5 st5 => ?_) fun ps hps sl tag5 σ5 ks st5 hp5 hsrt5 r5 => ?_
  ·rw [L_S] at hbad
   have hz : usage st hs[j] = (0, 0) := by
    rw [← usageK_srt hi.keys]
    exact usageK_none st _ _ (by rw [hbad]; simp)
   refine inner [] ⟨none, 0, 0⟩ 0 0 tag5 σ5 rfl (Nat.zero_le _) (fun _ h => by cases h) (by rw [hz]; rfl) (hst.trans ((st5 []).s (by simp))) (hA.keep (st5 [])) (hrow3.keep (st5 [])) (h4.keep (st5 [])) (Row.nil _ _) ?_
   simpa [usageK] using h5.keep (st5 [])
  ·rw [L_S] at r5
   have hks := srt_keys hA.keys hp5 hsrt5
   refine inner _ sl _ 0 tag5 σ5 (Nat.zero_add _) (by have h1 := List.length_filter_le (fun k => isUnder (47 :: hs[j]) k) ks; have h2 := hp5.length_eq; rw [List.length_map] at h2; omega) (fun k hk => hp5.mem_iff.1 (List.mem_filter.1 hk).1) ?_ (hst.trans (st5.s (by simp))) (hA.keep st5 (by simp; omega)) (hrow3.keep st5 (by simp; omega)) (h4.keep st5) r5 ?_
   ·rw [usageK_under, hks, usageK_srt hi.keys]
   ·simpa [usageK] using h5.keep st5
theorem RowW.keepS {C : List Nat} {r : Nat} {e : TypeId} {w : Nat} {s : Sl} {l : List (List Value)} (h : RowW tag σ r e w s l) (k : StepS C ro tag σ tag' σ') (hr : r % 64 ∉ C := by decide) : RowW tag' σ' r e w s l := by
 obtain ⟨R, h1, h2⟩ := k
 exact h.keep h2 fun m => hr (h1 _ m)
theorem Row.cellsAt {r : Nat} {e : TypeId} {b n c : Nat} {l : List Value} (h : Row tag σ r e ⟨some ⟨b, 0, none⟩, n, c⟩ l) (hs : SL.Sep ro σ) : SL.cellsAt ro σ ⟨b, 0, none⟩ 0 l := by
 rcases Nat.eq_zero_or_pos l.length with h0 | h0
 ·rw [List.eq_nil_of_length_eq_zero h0]; trivial
 ·obtain ⟨p, hp, hg⟩ := h.ptr hs h0
  cases hp
  exact cellsAt_of 0 fun i v hv => by rw [Nat.zero_add]; have := hg i v hv; rwa [Nat.mul_one] at this
theorem Row.readW1 {r w : Nat} {e : TypeId} {b n c : Nat} {l : List Value} (h : Row tag σ r e ⟨some ⟨b, 0, none⟩, n, c⟩ l) (hs : SL.Sep ro σ) (hw : l.length = w) (h0 : 0 < w) : SL.ReadW ro σ w ⟨some ⟨b, 0, none⟩, 1, 1⟩ [l] := by
 obtain ⟨p, hp, hg⟩ := h.ptr hs (by omega)
 cases hp
 refine ⟨rfl, (fun h => by cases h), fun x hx => by rw [List.mem_singleton.1 hx]; exact hw, fun p hp i v hv => ?_⟩
 cases hp
 have := hg i v (by simpa using hv)
 rwa [Nat.mul_one] at this
def resV (r : Str × Int) : List Value := [Pa.vS r.1, vI r.2]
def effV (e : Int × Str) : List Value := [vI e.1, Pa.vS e.2]
structure WorkAt (tag : Nat → Nat) (σ : AH) (W T : Nat) (home : Str) (owner qn qb : Int) (res : List (Str × Int)) (eff : List (Int × Str)) : Prop where
 mem : ∃ rs es : Sl, Row tag σ 13 173 ⟨some ⟨W, 0, none⟩, 8, 8⟩ [Sl.v rs, Sl.v es, vI 0, ptr T, Pa.vS home, vI owner, vI qn, vI qb] ∧ RowW tag σ 14 84 2 rs (res.map resV) ∧ RowW tag σ 15 108 2 es (eff.map effV)
theorem WorkAt.keepS {C : List Nat} {W T : Nat} {home : Str} {owner qn qb : Int} {res : List (Str × Int)} {eff : List (Int × Str)} (h : WorkAt tag σ W T home owner qn qb res eff) (k : StepS C ro tag σ tag' σ') (h3 : 13 ∉ C := by decide) (h4 : 14 ∉ C := by decide) (h5 : 15 ∉ C := by decide) : WorkAt tag' σ' W T home owner qn qb res eff := by
 obtain ⟨rs, es, a, b, c⟩ := h.mem
 exact ⟨rs, es, a.keepS k h3, RowW.keepS b k h4, RowW.keepS c k h5⟩
abbrev DC : List Nat := [0, 2, 3, 4, 5, 12, 13, 14, 15, 17, 18, 19, 20, 21]
theorem within_ok {W T : Nat} {home : Str} {owner qn qb : Int} {res : List (Str × Int)} {eff : List (Int × Str)} {o : MOp} {ds : Sl} {Q : Int → AH → Prop} (g : Glob ro) (h : WorkAt tag σ W T home owner qn qb res eff)
  (hQ : ∀ tag' σ', Step [] ro tag σ tag' σ' → Q (withinE home o) σ') : c_multi_work_within B ro (some ⟨W, 0, none⟩) o.kind (S o.path) ds o.ver o.eph o.seq σ Q := by
 refine multi_work_within_ok fun hs => ?_
 unfold f_multi_work_within
 refine nw_cells (tag := tag) 0 hs fun x tag1 σ1 st1 r1 => ?_
 obtain ⟨p, hp, hg⟩ := r1.ptr (st1 []).sep (by simp)
 cases hp
 refine ⟨_, hg 1 _ rfl, ?_⟩
 have kindOf : ∀ tag2 σ2, Step [] ro tag1 σ1 tag2 σ2 → acell ro σ2 ⟨x, 0, none⟩ = some (vI o.kind) := fun tag2 σ2 st2 => by
  obtain ⟨p, hp, hg⟩ := (r1.keep st2).ptr st2.sep (by simp)
  cases hp
  exact hg 0 _ rfl
 have bad : ∀ tag2 σ2 sl e, Step [] ro tag1 σ1 tag2 σ2 → withinE home o = 80 → j6_multi_work_within B ro (some ⟨W, 0, none⟩) x sl e Q true σ2 := fun tag2 σ2 sl e st2 hw => by
  unfold j6_multi_work_within
  rw [if_pos rfl]
  have := hQ tag2 σ2 ((st1 _).trans st2)
  rw [hw] at this; exact this
 have split : ∀ tag2 σ2 sl e, Step [] ro tag1 σ1 tag2 σ2 → (¬ (o.kind < 1 ∨ 4 < o.kind) → j6_multi_work_within B ro (some ⟨W, 0, none⟩) x sl e Q false σ2) →
   ∃ (x15_5 : Int), acell ro σ2 ⟨x, 0, none⟩ = some (.int .i64 x15_5) ∧ if x15_5 < 1 then j6_multi_work_within B ro (some ⟨W, 0, none⟩) x sl e Q true σ2 else ∃ (x19_16 : Int), acell ro σ2 ⟨x, 0, none⟩ = some (.int .i64 x19_16) ∧ j6_multi_work_within B ro (some ⟨W, 0, none⟩) x sl e Q (decide (4 < x19_16)) σ2 := fun tag2 σ2 sl e st2 hgood => by
  have hw80 : (o.kind < 1 ∨ 4 < o.kind) → withinE home o = 80 := fun h => by unfold withinE; rw [if_pos h]
  refine ⟨o.kind, kindOf tag2 σ2 st2, ?_⟩
  by_cases h1 : o.kind < 1
  ·rw [if_pos h1]; exact bad tag2 σ2 sl e st2 (hw80 (.inl h1))
  ·rw [if_neg h1]
   refine ⟨o.kind, kindOf tag2 σ2 st2, ?_⟩
   by_cases h2 : 4 < o.kind
   ·rw [show decide (4 < o.kind) = true from by simpa using h2]
    exact bad tag2 σ2 sl e st2 (hw80 (.inr h2))
   ·rw [show decide (4 < o.kind) = false from by simpa using h2]
    exact hgood (by omega)
 refine parts2_ok (tag := tag1) 23 g (st1 []).sep (fun hnone sl tag2 σ2 st2 => ?_) (fun ps hps sl tag2 σ2 st2 r2 => ?_)
 ·rw [L_S] at hnone
  refine split tag2 σ2 sl 20 st2 fun hk => ?_
  unfold j6_multi_work_within
  rw [if_neg (by decide), if_pos (by decide)]
  have := hQ tag2 σ2 ((st1 _).trans st2)
  unfold withinE at this
  rw [if_neg hk, hnone] at this; exact this
 ·rw [L_S] at hps
  refine split tag2 σ2 sl 0 st2 fun hk => ?_
  have hwe : withinE home o = if ps.head? ≠ some home ∨ (ps.length = 1 ∧ o.kind ≤ 2) then 82 else 0 := by unfold withinE; rw [if_neg hk, hps]
  have fin : ∀ b : Bool, (b = true ↔ (ps.head? ≠ some home ∨ (ps.length = 1 ∧ o.kind ≤ 2))) → j8_multi_work_within B ro Q b σ2 := fun b hb => by
   unfold j8_multi_work_within
   have := hQ tag2 σ2 ((st1 _).trans st2)
   rw [hwe] at this
   cases b with
   | true => rw [if_pos rfl]; rw [if_pos (hb.1 rfl)] at this; exact this
   | false => rw [if_neg (by decide)]; rw [if_neg (fun h => by have := hb.2 h; cases this)] at this; exact this
  have hln : sl.len = ps.length := by rw [r2.len, List.length_map]
  unfold j6_multi_work_within
  rw [if_neg (by decide), if_neg (by decide)]
  by_cases h0 : ps = []
  ·subst h0
   rw [if_pos (by rw [hln]; rfl), if_pos trivial]
   exact fin true (by simp)
  ·have hpos := List.length_pos_iff.2 h0
   rw [if_neg (by omega)]
   obtain ⟨pp, hpp, _, hget⟩ := Row.sget r2 st2.sep hpos
   have hh : ps.head? = some ps[0] := by rw [List.head?_eq_getElem?, List.getElem?_eq_getElem hpos]
   refine ⟨pp, hpp, by decide, by omega, _, rfl, S ps[0], hget 0 hpos, S home, ?_, ?_⟩
   ·obtain ⟨rs, es, a, b, c⟩ := h.mem
    obtain ⟨pw, hpw, hgw⟩ := ((a.keep (st1 [])).keep st2).ptr st2.sep (by simp)
    cases hpw
    exact hgw 4 _ rfl
   ·by_cases h1 : ps[0] = home
    ·rw [if_neg (by rw [h1]; simp)]
     by_cases h2 : ps.length = 1
     ·rw [if_pos (by omega)]
      refine ⟨o.kind, kindOf tag2 σ2 st2, fin _ ?_⟩
      rw [hh, h1]
      simp [h2]
     ·rw [if_neg (by omega)]
      exact fin false (by rw [hh, h1]; simp [h2])
    ·rw [if_pos (by simpa [S_inj] using h1)]
     exact fin true (by rw [hh]; simp [h1])
theorem do_okR {W T b : Nat} {home : Str} {owner qn qb : Int} {w : Work} {o : MOp} {ds : Sl} {Q : Int → AH → Prop} (g : Glob ro) (h : WorkAt tag σ W T home owner qn qb w.res w.eff) (ht : TreeIs tag σ 12 T w.st) (hi : InvB b w.st) (hb : b ≤ 2147483648)
  (hlen : w.res.length ≤ 1024 ∧ w.eff.length ≤ 1024) (hd : SL.Read ro σ ds (o.data.map vU)) (hdl : o.data.length < 4611686018427387904) (hhl : home.length ≤ 4611686018427387903)
  (hbad : (doE home owner qn qb w o).1 ≠ 0 → ∀ tag' σ', StepS DC ro tag σ tag' σ' → Q (doE home owner qn qb w o).1 σ')
  (hok : (doE home owner qn qb w o).1 = 0 → ∀ tag' σ', StepS DC ro tag σ tag' σ' → WorkAt tag' σ' W T home owner qn qb (doE home owner qn qb w o).2.res (doE home owner qn qb w o).2.eff → TreeIs tag' σ' 12 T (doE home owner qn qb w o).2.st → Q 0 σ') :
  c_multi_work_do B ro (some ⟨W, 0, none⟩) o.kind (S o.path) ds o.ver o.eph o.seq σ Q := by
 refine multi_work_do_ok fun hs => ?_
 unfold f_multi_work_do
 refine nw_cells (tag := tag) 16 hs fun x3 tag1 σ1 st1 r1 => ?_
 refine ⟨_, _, _, _, _, _, Row.cellsAt r1 (st1 []).sep, ?_⟩
 have h1 := h.keepS ((st1 []).s (C := []) (by simp)) (by simp) (by simp) (by simp)
 refine within_ok (tag := tag1) g h1 fun tag2 σ2 st2 => ?_
 by_cases hw' : withinE home o ≠ 0
 ·rw [if_pos (by simpa using hw')]
  have hde : doE home owner qn qb w o = (withinE home o, w) := by unfold doE; rw [if_pos hw']
  rw [hde] at hbad
  exact hbad hw' tag2 σ2 (((st1 []).s (by simp)).trans (st2.s (by simp)))
 have hw : withinE home o = 0 := by simpa using hw'
 rw [if_neg (by simpa using hw)]
 have r12 := r1.keep st2
 refine nw_cells (tag := tag2) 17 st2.sep fun x6 tag3 σ3 st3 r3 => ?_
 have r13 := r12.keep (st3 [])
 obtain ⟨p, hp, hg⟩ := r13.ptr (st3 []).sep (by simp)
 cases hp
 refine ⟨o.kind, hg 0 _ rfl, S o.path, hg 1 _ rfl, ?_⟩
 refine nw_st (tag := tag3) 18 (st3 []).sep rfl (by simp [storable]) fun x8 tag4 σ4 st4 r8 => ?_
 have r14 := r13.keep (st4 [])
 have r34 := r3.keep (st4 [])
 have stA : StepS DC ro tag σ tag4 σ4 := ((st1 []).s (by simp)).trans ((st2.s (by simp)).trans (((st3 []).s (by simp)).trans ((st4 []).s (by simp))))
 have hW4 := ((h1.keepS (st2.s (C := []) (by simp)) (by simp) (by simp) (by simp)).keepS ((st3 []).s (C := []) (by simp)) (by simp) (by simp) (by simp)).keepS ((st4 []).s (C := []) (by simp)) (by simp) (by simp) (by simp)
 have hT4 := (((ht.keep (st1 [])).keep st2).keep (st3 [])).keep (st4 [])
 obtain ⟨p4, hp4, hg4⟩ := r14.ptr (st4 []).sep (by simp)
 have hd4 := (((hd.step (st1 [])).step st2).step (st3 [])).step (st4 [])
 cases hp4
 generalize hcore : core owner w.st o = c at *
 have hci : InvB (b + 1) c.1 := by rw [← hcore]; exact core_inv hi (by omega)
 have fin : ∀ (tag5 : Nat → Nat) (σ5 : AH), StepS DC ro tag σ tag5 σ5 → Row tag5 σ5 16 82 ⟨some ⟨x3, 0, none⟩, 6, 6⟩ [vI o.kind, Pa.vS o.path, Sl.v ds, vI o.ver, .bool o.eph, .bool o.seq] → Row tag5 σ5 17 84 ⟨some ⟨x6, 0, none⟩, 2, 2⟩ (resV (c.2.1, c.2.2.1)) →
   Row tag5 σ5 18 108 ⟨some ⟨x8, 0, none⟩, 2, 2⟩ (effV (o.kind, if o.kind = 1 then c.2.1 else o.path)) → WorkAt tag5 σ5 W T home owner qn qb w.res w.eff → TreeIs tag5 σ5 12 T c.1 → j8_multi_work_do B ro (some ⟨W, 0, none⟩) x3 x6 x8 Q c.2.2.2 σ5 := by
  intro tag5 σ5 st5 h35 h65 h85 hW5 hT5
  unfold j8_multi_work_do
  by_cases he' : c.2.2.2 ≠ 0
  ·rw [if_pos (by simpa using he')]
   have hde : doE home owner qn qb w o = (c.2.2.2, { w with st := c.1 }) := by unfold doE; rw [if_neg (by simpa using hw), hcore, if_pos he']
   rw [hde] at hbad
   exact hbad he' tag5 σ5 st5
  have he : c.2.2.2 = 0 := by simpa using he'
  rw [if_neg (by simpa using he)]
  obtain ⟨p5, hp5, hg5⟩ := h35.ptr st5.sep (by simp)
  cases hp5
  have hde : doE home owner qn qb w o = if overE c.1 home qn qb o.kind then (81, { w with st := c.1 }) else (0, ⟨c.1, w.res ++ [(c.2.1, c.2.2.1)], if o.kind = 4 then w.eff else w.eff ++ [(o.kind, if o.kind = 1 then c.2.1 else o.path)]⟩) := by
   unfold doE; rw [if_neg (by simpa using hw), hcore, if_neg (by simpa using he)]
  have app : overE c.1 home qn qb o.kind = false → ∀ (tag6 : Nat → Nat) (σ6 : AH), StepS DC ro tag σ tag6 σ6 → Row tag6 σ6 16 82 ⟨some ⟨x3, 0, none⟩, 6, 6⟩ [vI o.kind, Pa.vS o.path, Sl.v ds, vI o.ver, .bool o.eph, .bool o.seq] → Row tag6 σ6 17 84 ⟨some ⟨x6, 0, none⟩, 2, 2⟩ (resV (c.2.1, c.2.2.1)) →
    Row tag6 σ6 18 108 ⟨some ⟨x8, 0, none⟩, 2, 2⟩ (effV (o.kind, if o.kind = 1 then c.2.1 else o.path)) → WorkAt tag6 σ6 W T home owner qn qb w.res w.eff → TreeIs tag6 σ6 12 T c.1 → j10_multi_work_do B ro (some ⟨W, 0, none⟩) x3 x6 x8 Q σ6 := by
   intro hov tag6 σ6 st6 h36 h66 h86 hW6 hT6
   rw [hov] at hde
   simp only [Bool.false_eq_true, if_false] at hde
   rw [hde] at hok
   simp only at hok
   unfold j10_multi_work_do
   obtain ⟨rs, es, a, bb, cc⟩ := hW6.mem
   obtain ⟨pw, hpw, hgw⟩ := a.ptr st6.sep (by simp)
   cases hpw
   refine ⟨_, rfl, rs, hgw 0 _ rfl, S c.2.1, c.2.2.1, Row.cellsAt h66 st6.sep, ?_⟩
   refine nw_cells (tag := tag6) 0 st6.sep fun y tag7 σ7 st7 r7 => ?_
   refine awp_appendW (l2 := [resV (c.2.1, c.2.2.1)]) (bb.keep (st7 [])) (st7 []).sep (Row.readW1 r7 (st7 []).sep rfl (by decide)) (t := 74) (by kernel_rfl) ty84 rfl (by simp [resV, storable]) (by simp; omega) (by decide) fun rs' tag8 σ8 st8 r8 => ?_
   have st8' := st8 [14] (.inr (by simp))
   refine ⟨rs', rfl, ?_⟩
   have a8 := (a.keep (st7 [])).keep st8'
   have c8 := (cc.keep (st7 [])).keep st8'
   refine ⟨_, rfl, ?_⟩
   refine a8.st (i := 0) st8'.sep rfl (by simp) rfl fun σ9 st9 r9 => ?_
   have h39 := ((h36.keep (st7 [])).keep st8').keep st9
   obtain ⟨p9, hp9, hg9⟩ := h39.ptr st9.sep (by simp)
   cases hp9
   have st69 : StepS DC ro tag6 σ6 tag8 σ9 := ((st7 []).s (by simp)).trans ((st8'.s (by simp)).trans (st9.s (by simp)))
   have hT9 := ((hT6.keep (st7 [])).keep st8').keep st9
   refine ⟨o.kind, hg9 0 _ rfl, ?_⟩
   by_cases hk : o.kind = 4
   ·rw [if_neg (by simpa using hk)]
    unfold j17_multi_work_do
    refine hok trivial tag8 σ9 (st6.trans st69) ⟨rs', es, r9, ?_, ?_⟩ hT9
    ·rw [List.map_append]; exact r8.keep st9
    ·rw [if_pos hk]; exact c8.keep st9
   ·rw [if_pos (by simpa using hk)]
    obtain ⟨pb, hpb, hgb⟩ := r9.ptr st9.sep (by simp)
    cases hpb
    have h89 := ((h86.keep (st7 [])).keep st8').keep st9
    refine ⟨_, rfl, es, hgb 1 _ rfl, o.kind, S (if o.kind = 1 then c.2.1 else o.path), Row.cellsAt h89 st9.sep, ?_⟩
    refine nw_cells (tag := tag8) 0 st9.sep fun z taga σa sta ra => ?_
    refine awp_appendW (l2 := [effV (o.kind, if o.kind = 1 then c.2.1 else o.path)]) ((c8.keep st9).keep (sta [])) (sta []).sep (Row.readW1 ra (sta []).sep rfl (by decide)) (t := 75) (by kernel_rfl) ty108 rfl (by simp [effV, storable]) (by simp; omega) (by decide) fun es' tagb σb stb rb => ?_
    have stb' := stb [15] (.inr (by simp))
    refine ⟨es', rfl, _, rfl, ?_⟩
    refine ((r9.keep (sta [])).keep stb').st (i := 1) stb'.sep rfl (by simp) rfl fun σc stc rc => ?_
    unfold j17_multi_work_do
    refine hok trivial tagb σc (st6.trans (st69.trans (((sta []).s (by simp)).trans ((stb'.s (by simp)).trans (stc.s (by simp)))))) ⟨rs', es', rc, ?_, ?_⟩ (((hT9.keep (sta [])).keep stb').keep stc)
    ·rw [List.map_append]
     exact (((r8.keep st9).keep (sta [])).keep stb').keep stc
    ·rw [if_neg hk, List.map_append]; exact rb.keep stc
  have look : ∀ hk13 : (o.kind = 1 ∨ o.kind = 3), j26_multi_work_do B ro (some ⟨W, 0, none⟩) x3 x6 x8 Q true σ5 := fun hk13 => by
   unfold j26_multi_work_do
   rw [if_pos rfl]
   obtain ⟨rs, es, a, bb, cc⟩ := id hW5.mem
   obtain ⟨pw, hpw, hgw⟩ := a.ptr st5.sep (by simp)
   cases hpw
   refine ⟨_, rfl, _, rfl, some ⟨T, 0, none⟩, hgw 3 _ rfl, S home, hgw 4 _ rfl, ?_⟩
   refine nw_cells (tag := tag5) 22 st5.sep fun y tag6 σ6 st6 r6 => ?_
   obtain ⟨M6, bs6, hA6⟩ := hT5.keep (st6 [])
   have hlc := hci.len
   refine usage_ok (q0 := 22) (hs := [home]) g (by decide) (by decide) hA6 hci.inv (by omega) r6 (by decide) (fun x hx => by rw [List.mem_singleton.1 hx]; exact hhl) (by simp) fun tag7 σ7 st7 => ?_
   have hus : usages c.1 [home] = usage c.1 home := by simp [usages]
   rw [hus]
   refine nw_st (tag := tag7) 21 st7.sep rfl (by simp [storable]) fun z tag8 σ8 st8 r8 => ?_
   have st58 : StepS DC ro tag5 σ5 tag8 σ8 := ((st6 []).s (by simp)).trans ((st7.mono (by decide)).trans ((st8 []).s (by simp)))
   have hW8 := ((hW5.keepS ((st6 []).s (C := []) (by simp)) (by simp) (by simp) (by simp)).keepS st7).keepS ((st8 []).s (C := []) (by simp)) (by simp) (by simp) (by simp)
   have hT8 : TreeIs tag8 σ8 12 T c.1 := ((hT5.keep (st6 [])).keepS st7).keep (st8 [])
   have h38 := ((h35.keep (st6 [])).keepS st7).keep (st8 [])
   have h68 := ((h65.keep (st6 [])).keepS st7).keep (st8 [])
   have h88 := ((h85.keep (st6 [])).keepS st7).keep (st8 [])
   obtain ⟨rs8, es8, a8, _, _⟩ := hW8.mem
   obtain ⟨pw8, hpw8, hgw8⟩ := a8.ptr (st8 []).sep (by simp)
   cases hpw8
   obtain ⟨pz, hpz, hgz⟩ := r8.ptr (st8 []).sep (by simp)
   cases hpz
   have hov : overE c.1 home qn qb o.kind = (decide (qn < ((usage c.1 home).1 : Nat)) || decide (qb < ((usage c.1 home).2 : Nat))) := by
    unfold overE
    rcases hk13 with h | h <;> simp [h]
   have j35 : ∀ bq : Bool, (bq = overE c.1 home qn qb o.kind) → j35_multi_work_do B ro (some ⟨W, 0, none⟩) x3 x6 x8 Q bq σ8 := fun bq hbq => by
    unfold j35_multi_work_do
    cases hbv : bq with
    | true =>
     rw [if_pos rfl]
     rw [hbv] at hbq
     rw [← hbq] at hde
     simp only [if_true] at hde
     rw [hde] at hbad
     exact hbad (by simp) tag8 σ8 (st5.trans st58)
    | false =>
     rw [if_neg (by decide)]
     exact app (by rw [← hbq, hbv]) tag8 σ8 (st5.trans st58) h38 h68 h88 hW8 hT8
   refine ⟨_, rfl, _, hgz 0 _ rfl, _, hgw8 6 _ rfl, ?_⟩
   by_cases hq1 : qn < ((usage c.1 home).1 : Nat)
   ·rw [if_pos hq1]
    exact j35 true (by rw [hov]; simp [hq1])
   ·rw [if_neg hq1]
    refine ⟨_, rfl, _, hgz 1 _ rfl, qb, hgw8 7 _ rfl, ?_⟩
    exact j35 _ (by rw [hov]; simp [hq1])
  have nolook : ¬ (o.kind = 1 ∨ o.kind = 3) → j26_multi_work_do B ro (some ⟨W, 0, none⟩) x3 x6 x8 Q false σ5 := fun hk => by
   unfold j26_multi_work_do
   rw [if_neg (by decide)]
   refine app ?_ tag5 σ5 st5 h35 h65 h85 hW5 hT5
   unfold overE
   simp only [not_or] at hk
   simp [hk.1, hk.2]
  refine ⟨o.kind, hg5 0 _ rfl, ?_⟩
  by_cases hk1 : o.kind = 1
  ·rw [if_pos hk1]; exact look (.inl hk1)
  ·rw [if_neg hk1]
   refine ⟨o.kind, hg5 0 _ rfl, ?_⟩
   by_cases hk3 : o.kind = 3
   ·rw [show decide (o.kind = 3) = true from by simpa using hk3]; exact look (.inr hk3)
   ·rw [show decide (o.kind = 3) = false from by simpa using hk3]; exact nolook (by simp [hk1, hk3])
 obtain ⟨rs4, es4, a4, _, _⟩ := id hW4.mem
 obtain ⟨pw4, hpw4, hgw4⟩ := a4.ptr (st4 []).sep (by simp)
 cases hpw4
 refine ⟨o.kind, hg4 0 _ rfl, ?_⟩
 by_cases k1 : o.kind = 1
 ·rw [if_pos k1]
  have hc1 : c = ((create w.st o.path o.data (if o.eph then owner else 0) o.seq).1, (create w.st o.path o.data (if o.eph then owner else 0) o.seq).2.1, 0, (create w.st o.path o.data (if o.eph then owner else 0) o.seq).2.2) := by rw [← hcore]; unfold core; rw [if_pos k1]
  have j45 : j45_multi_work_do B ro (some ⟨W, 0, none⟩) x3 x6 x8 Q (if o.eph then owner else 0) σ4 := by
   unfold j45_multi_work_do
   refine ⟨_, rfl, some ⟨T, 0, none⟩, hgw4 3 _ rfl, _, hg4 1 _ rfl, _, hg4 2 _ rfl, _, hg4 5 _ rfl, ?_⟩
   refine create_ok g (by decide) (by decide) (by decide) hT4 hd4 hdl fun tag5 σ5 st5 hT5 => ?_
   rw [L_S] at hT5 ⊢
   have st5s : StepS DC ro tag4 σ4 tag5 σ5 := st5.s (by simp)
   have r35 := r34.keepC st5
   refine r35.st (i := 0) st5.sep rfl (by simp) rfl fun σ6 st6 r6 => ?_
   obtain ⟨p6, hp6, hg6⟩ := r6.ptr st6.sep (by simp)
   cases hp6
   refine ⟨_, hg6 0 _ rfl, ?_⟩
   refine ((r8.keepC st5).keep st6).st (i := 1) st6.sep rfl (by simp) rfl fun σ7 st7 r7 => ?_
   have hW7 := ((hW4.keepS (st5.s (C := [12]) (by simp))).keepS (st6.s (C := [17]) (by simp))).keepS (st7.s (C := [18]) (by simp))
   have := fin tag5 σ7 (stA.trans (st5s.trans ((st6.s (by simp)).trans (st7.s (by simp))))) (((r14.keepC st5).keep st6).keep st7) (by rw [hc1]; exact r6.keep st7) (by rw [if_pos k1, hc1]; exact r7) hW7 (by rw [hc1]; exact (hT5.keep st6).keep st7)
   rw [hc1] at this
   exact this
  refine ⟨o.eph, hg4 4 _ rfl, ?_⟩
  cases he : o.eph with
  | true =>
   rw [if_pos rfl]
   refine ⟨_, rfl, owner, hgw4 5 _ rfl, ?_⟩
   rw [he] at j45; exact j45
  | false =>
   rw [if_neg (by decide)]
   rw [he] at j45; exact j45
 rw [if_neg k1]
 by_cases k2 : o.kind = 2
 ·rw [if_pos k2]
  have hc1 : c = ((remove w.st o.path o.ver).1, [], 0, (remove w.st o.path o.ver).2) := by rw [← hcore]; unfold core; rw [if_neg k1, if_pos k2]
  refine ⟨_, rfl, some ⟨T, 0, none⟩, hgw4 3 _ rfl, _, hg4 1 _ rfl, _, hg4 3 _ rfl, ?_⟩
  refine delete_ok g (by decide) (by decide) (by decide) hT4 (by rw [L_S]; exact del_up hi.inv) fun tag5 σ5 st5 hT5 => ?_
  rw [L_S] at hT5 ⊢
  have hW5 := hW4.keepS (st5.s (C := [12]) (by simp))
  have := fin tag5 σ5 (stA.trans (st5.s (by simp))) (r14.keepC st5) (by rw [hc1]; exact r34.keepC st5) (by rw [if_neg k1]; exact r8.keepC st5) hW5 (by rw [hc1]; exact hT5)
  rw [hc1] at this
  exact this
 rw [if_neg k2]
 by_cases k3 : o.kind = 3
 ·rw [if_pos k3]
  have hc1 : c = ((setD w.st o.path o.data o.ver).1, [], (setD w.st o.path o.data o.ver).2.1, (setD w.st o.path o.data o.ver).2.2) := by rw [← hcore]; unfold core; rw [if_neg k1, if_neg k2, if_pos k3]
  refine ⟨_, rfl, some ⟨T, 0, none⟩, hgw4 3 _ rfl, _, hg4 1 _ rfl, _, hg4 2 _ rfl, _, hg4 3 _ rfl, ?_⟩
  refine set_ok g (by decide) (by decide) (by decide) hT4 hd4 hdl fun tag5 σ5 st5 hT5 => ?_
  rw [L_S] at hT5 ⊢
  refine (r34.keepC st5).st (i := 1) st5.sep rfl (by simp) rfl fun σ6 st6 r6 => ?_
  have hW6 := (hW4.keepS (st5.s (C := [12]) (by simp))).keepS (st6.s (C := [17]) (by simp))
  have := fin tag5 σ6 (stA.trans ((st5.s (by simp)).trans (st6.s (by simp)))) ((r14.keepC st5).keep st6) (by rw [hc1]; exact r6) (by rw [if_neg k1]; exact (r8.keepC st5).keep st6) hW6 (by rw [hc1]; exact hT5.keep st6)
  rw [hc1] at this
  exact this
 rw [if_neg k3]
 have k4 : o.kind = 4 := by
  unfold withinE at hw
  split at hw
  ·cases hw
  ·omega
 rw [if_pos k4]
 have hc1 : c = (w.st, [], 0, chkE w.st o.path o.ver) := by rw [← hcore]; unfold core; rw [if_neg k1, if_neg k2, if_neg k3]
 have hps : ∃ ps, parts o.path = some ps := by
  unfold withinE at hw
  split at hw
  ·cases hw
  ·cases e : parts o.path with
   | none => rw [e] at hw; cases hw
   | some ps => exact ⟨ps, rfl⟩
 obtain ⟨ps, hps⟩ := hps
 refine nw_cells (tag := tag4) 19 (st4 []).sep fun x10 tag5 σ5 st5 r5 => ?_
 have hT5 := hT4.keep (st5 [])
 have hW5 := hW4.keepS ((st5 []).s (C := []) (by simp)) (by simp) (by simp) (by simp)
 have r145 := r14.keep (st5 [])
 obtain ⟨rs5, es5, a5, _, _⟩ := id hW5.mem
 obtain ⟨pw5, hpw5, hgw5⟩ := a5.ptr (st5 []).sep (by simp)
 cases hpw5
 obtain ⟨p5, hp5, hg5⟩ := r145.ptr (st5 []).sep (by simp)
 cases hp5
 refine ⟨_, rfl, some ⟨T, 0, none⟩, hgw5 3 _ rfl, _, hg5 1 _ rfl, ?_⟩
 obtain ⟨M5, bs5, hA5⟩ := hT5
 have endz : ∀ (tag6 : Nat → Nat) (σ6 : AH) (e : Int), StepC 0 ro tag5 σ5 tag6 σ6 → ∀ v1 v2 v3 v4 : Int, (e = 0 → (∃ n, w.st.lookup o.path = some n ∧ v1 = n.ver)) → (e ≠ 0 → chkE w.st o.path o.ver = e) →
   stN ⟨x10, 0, none⟩ (fun σ =>
    if e = 0 then
     ∃ (x97_83 : Int), acell ro σ ((⟨x3, 0, none⟩ : Addr).add 3) = some (.int .i64 x97_83) ∧
     j77_multi_work_do B ro (some ⟨W, 0, none⟩) x3 x6 x8 x10 e Q (!(decide (x97_83 = (-1)))) σ
    else
    j77_multi_work_do B ro (some ⟨W, 0, none⟩) x3 x6 x8 x10 e Q false σ) [.int .i64 v1, .int .i64 v2, .int .i64 v3, .int .i64 v4] 0 σ6 := by
  intro tag6 σ6 e st6 v1 v2 v3 v4 he0 hen
  refine (r5.keepC st6).stAll st6.sep (by simp) (by simp [storable]) fun σ7 st7 r7 => ?_
  have st57 : StepS DC ro tag4 σ4 tag6 σ7 := ((st5 []).s (by simp)).trans ((st6.s (by simp)).trans (st7.s (by simp)))
  have r147 := (r145.keepC st6).keep st7
  have hW7 := (hW5.keepS (st6.s (C := [0]) (by simp))).keepS (st7.s (C := [19]) (by simp))
  have hT7 : TreeIs tag6 σ7 12 T w.st := ⟨M5, bs5, (hA5.keepC st6).keep st7⟩
  obtain ⟨p7, hp7, hg7⟩ := r147.ptr st7.sep (by simp)
  cases hp7
  obtain ⟨pa, hpa, hga⟩ := r7.ptr st7.sep (by simp)
  cases hpa
  have f8 : chkE w.st o.path o.ver = c.2.2.2 := by rw [hc1]
  have goal : ∀ e', e' = chkE w.st o.path o.ver → j8_multi_work_do B ro (some ⟨W, 0, none⟩) x3 x6 x8 Q e' σ7 := fun e' he' => by
   rw [he', f8]
   exact fin tag6 σ7 (stA.trans st57) r147 (by rw [hc1]; exact ((r34.keep (st5 [])).keepC st6).keep st7) (by rw [if_neg k1]; exact ((r8.keep (st5 [])).keepC st6).keep st7) hW7 (by rw [hc1]; exact hT7)
  by_cases hz : e = 0
  ·rw [if_pos hz]
   obtain ⟨n, hn, hv1⟩ := he0 hz
   have hchk : chkE w.st o.path o.ver = if o.ver ≠ -1 ∧ o.ver ≠ n.ver then 72 else 0 := by unfold chkE; rw [hn]
   refine ⟨o.ver, hg7 3 _ rfl, ?_⟩
   unfold j77_multi_work_do
   by_cases hm : o.ver = -1
   ·rw [show (!decide (o.ver = -1)) = false from by simp [hm], if_neg (by decide)]
    unfold j79_multi_work_do
    rw [if_neg (by decide)]
    exact goal e (by rw [hchk, if_neg (by simp [hm]), hz])
   ·rw [show (!decide (o.ver = -1)) = true from by simp [hm], if_pos rfl]
    refine ⟨o.ver, hg7 3 _ rfl, v1, hga 0 _ rfl, ?_⟩
    unfold j79_multi_work_do
    by_cases hv : o.ver = v1
    ·rw [show (!decide (o.ver = v1)) = false from by simp [hv], if_neg (by decide)]
     exact goal e (by rw [hchk, if_neg (by rw [← hv1]; simp [hv]), hz])
    ·rw [show (!decide (o.ver = v1)) = true from by simp [hv], if_pos rfl]
     exact goal 72 (by rw [hchk, if_pos ⟨hm, by rw [← hv1]; exact hv⟩])
  ·rw [if_neg hz]
   unfold j77_multi_work_do
   rw [if_neg (by decide)]
   unfold j79_multi_work_do
   rw [if_neg (by decide)]
   exact goal e (hen hz).symm
 refine get_ok g (by decide) (by decide) (by decide) hA5 (fun p n h => hi.inv.data p n h) (fun hb => by rw [L_S, hps] at hb; cases hb) (fun _ _ hmiss tag6 σ6 st6 => ?_) (fun n hn s tag6 σ6 st6 hr6 => ?_)
 ·rw [L_S] at hmiss
  exact endz tag6 σ6 70 st6 0 0 0 0 (fun h => by cases h) (fun _ => by unfold chkE; rw [hmiss])
 ·rw [L_S] at hn
  exact endz tag6 σ6 0 st6 n.ver n.ctr n.own n.kids (fun _ => ⟨n, hn, rfl⟩) (fun h => absurd rfl h)
def applyL (home : Str) (owner qn qb : Int) : List MOp → Nat → Work → (Nat × Int) ⊕ Work
 | [], _, w => .inr w
 | o :: os, i, w => if (doE home owner qn qb w o).1 ≠ 0 then .inl (i, (doE home owner qn qb w o).1) else applyL home owner qn qb os (i + 1) (doE home owner qn qb w o).2
structure Done where
 st : St
 res : List (Str × Int)
 eff : List (Int × Str)
 bad : Int
 err : Int
def doneOf (st : St) : (Nat × Int) ⊕ Work → Done
 | .inl (i, e) => ⟨st, [], [], i, e⟩
 | .inr w => ⟨w.st, w.res, w.eff, -1, 0⟩
def applyE (st : St) (home : Str) (owner qn qb : Int) (ops : List MOp) : Done :=
 if ops.length = 0 ∨ 16 < ops.length then ⟨st, [], [], 0, 80⟩
 else if owner < 1 ∨ 4611686018427387903 < owner then ⟨st, [], [], 0, 10⟩
 else doneOf st (applyL home owner qn qb ops 0 ⟨srt st, [], []⟩)
theorem applyL_inv {home : Str} {owner qn qb : Int} : ∀ {os : List MOp} {i b : Nat} {w w' : Work}, applyL home owner qn qb os i w = .inr w' → InvB b w.st → b + os.length ≤ 4398046511103 → InvB (b + os.length) w'.st := by
 intro os
 induction os with
 | nil => intro i b w w' h hi _; cases h; exact hi
 | cons o os ih =>
  intro i b w w' h hi hb
  simp only [List.length_cons] at hb ⊢
  unfold applyL at h
  split at h
  ·cases h
  ·have := ih h (doE_inv hi (by omega)) (by omega)
   rw [show b + (os.length + 1) = b + 1 + os.length by omega]; exact this
theorem invB_srt {b : Nat} {st : St} (h : InvB b st) : InvB b (srt st) := by
 have hp := (srt_perm st).symm
 have hl := lookup_perm hp h.inv.keys
 exact ⟨inv_perm hp h.inv, fun k n hk => h.ver k n (by rw [hl]; exact hk), fun k n hk => h.own k n (by rw [hl]; exact hk), fun n hk => h.rt n (by rw [hl]; exact hk), by rw [(srt_perm st).length_eq]; exact h.len⟩
theorem applyE_inv {b : Nat} {st : St} {home : Str} {owner qn qb : Int} {ops : List MOp} (h : InvB b st) (hb : b ≤ 4398046511000) : InvB (b + 16) (applyE st home owner qn qb ops).st := by
 unfold applyE
 split
 ·exact h.mono (by omega)
 ·rename_i hl
  split
  ·exact h.mono (by omega)
  ·cases e : applyL home owner qn qb ops 0 ⟨srt st, [], []⟩ with
   | inl x => exact h.mono (by omega)
   | inr w => exact (applyL_inv e (invB_srt h) (by omega)).mono (by omega)
theorem Row.retag {tg : Nat → Nat} {r r' : Nat} {e : TypeId} {s : Sl} {l : List Value} (h : Row tag σ r e s l) (hr : ∀ c, tag c = r → σ c ≠ none → tg c = r') : Row tg σ r' e s l := by
 rcases h with h | ⟨b, cs, ha, ht, hb, hx⟩
 ·exact .inl h
 ·exact .inr ⟨b, cs, ha, hr b ht (by rw [hb]; simp), hb, hx⟩
theorem RowW.retag {tg : Nat → Nat} {r r' : Nat} {e : TypeId} {w : Nat} {s : Sl} {l : List (List Value)} (h : RowW tag σ r e w s l) (hr : ∀ c, tag c = r → σ c ≠ none → tg c = r') : RowW tg σ r' e w s l := by
 rcases h with h | ⟨b, cs, ha, ht, hb, hx⟩
 ·exact .inl h
 ·exact .inr ⟨b, cs, ha, hr b ht (by rw [hb]; simp), hb, hx⟩
theorem MapIs.retag {tg : Nat → Nat} {r r' b : Nat} {m : KV} (h : MapIs tag σ r b m) (hr : ∀ c, tag c = r → σ c ≠ none → tg c = r') : MapIs tg σ r' b m := by
 obtain ⟨es, k, hb, hx⟩ := h.obj
 exact ⟨hr b h.tg (by rw [hb]; simp), es, k, hb, hx⟩
theorem TreeIs.retag {tg : Nat → Nat} {r T : Nat} {st : St} (h : TreeIs tag σ r T st) (hr : ∀ c, tag c % 64 = r % 64 ∨ tag c = 6 → σ c ≠ none → tg c = tag c) : TreeIs tg σ r T st := by
 obtain ⟨M, bs, h⟩ := h
 refine ⟨M, bs, h.keys, h.len, h.nd, Row.retag h.cell fun c hc hn => ?_, MapIs.retag h.map fun c hc hn => ?_, fun i b p hb hp => ?_⟩
 ·rw [hr c (.inl (by rw [hc])) hn, hc]
 ·rw [hr c (.inl (by rw [hc]; omega)) hn, hc]
 ·obtain ⟨s, h1, h2⟩ := h.nodes i b p hb hp
  exact ⟨s, Row.retag h1 fun c hc hn => by rw [hr c (.inl (by rw [hc]; omega)) hn, hc], Row.retag h2 fun c hc hn => by rw [hr c (.inr hc) hn, hc]⟩
end Zt
end Go.Proofs.YthfpmipeejjogaaGreatDoor
