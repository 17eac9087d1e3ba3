/- GWire, WiB, WiC -/
import Derived.Test.YtfobjidchipdaaaGreatDoorXF
/- Functions as predicate transformers, and the proofs that the code does what they tell: printed by wip/tools/gen.py. -/
namespace Go.Proofs.YtfobjidchipdaaaGreatDoor.G
open Go Go.Proofs.YtfobjidchipdaaaGreatDoor.SL
set_option linter.unusedVariables false
set_option linter.unusedSimpArgs false

def f_wire_NewWriter (B : World) (ro : AH) (σ : AH) (Q : Option Addr → AH → Prop) : Prop :=
 nw ro σ (.cells #[Sl.v (⟨none, 0, 0⟩ : Sl), .int .i64 0, .int .i8 0, .bool false] 167) fun x2_1 σ =>
 Q (some ⟨x2_1, 0, none⟩) σ

set_option maxRecDepth 100000 in
set_option maxHeartbeats 4000000 in
theorem wire_NewWriter_ok {B : World} {ro : AH} {σ : AH} {Q : Option Addr → AH → Prop} (h : Sep ro σ → f_wire_NewWriter B ro σ Q) : c_wire_NewWriter B ro σ Q := by
  refine ACalls.of_sep fun hsep => ?_
  replace h := h hsep
  refine ACalls.of_body (args := []) Tryz.func52 rfl (by rw [Tryz.ntmps52]; simp) ?_
  rw [Tryz.ntmps52]
  unfold f_wire_NewWriter at h
  refine AW.seq ?_
  refine AW.reg ?_
  refine Lp (V_asg rfl rfl) rfl rfl ?_
  refine Lnil ?_
  refine thenN ?_
  refine AW.seq ?_
  refine AW.reg ?_
  refine Lp (V_bld (vs := []) (cs := #[Sl.v (⟨none, 0, 0⟩ : Sl), .int .i64 0, .int .i8 0, .bool false]) rfl Tryz.underlying167 ty167 pl167 rfl rfl) rfl rfl ?_
  refine Ls rfl rfl (X_new (A_box rfl rfl) fun x2_1 g1 g2 => ?_)
  replace h := h x2_1 g1 g2
  refine Lp (V_asg rfl rfl) rfl rfl ?_
  refine Lnil ?_
  refine thenN ?_
  refine AW.ret ?_
  exact bR1 Tryz.results52 rfl ⟨_, rfl, h⟩

def l1_wire_Writer_Nums (B : World) (ro : AH) (a0 : Option Addr) (a1 : Sl) (Q : AH → Prop) : (Int) → AH → ((Int) → AH → Prop) → Prop := fun x8_2 σ Y1 =>
 if x8_2 < (a1.len : Int) then
  ∃ p10_3 : Addr, a1.a = some p10_3 ∧ (0 : Int) ≤ x8_2 ∧ x8_2 < (a1.len : Int) ∧
  ∃ (x11_4 : Int), acell ro σ (p10_3.add (Int.toNat x8_2 * 1)) = some (.int .i64 x11_4) ∧
  ∃ p13_5 : Addr, a0 = some p13_5 ∧
  c_wire_buffer_num B ro (some p13_5) x11_4 σ fun σ =>
  Y1 (IntKind.i64.wrap (x8_2 + 1)) σ
 else
 Q σ

def f_wire_Writer_Nums (B : World) (ro : AH) (a0 : Option Addr) (a1 : Sl) (σ : AH) (Q : AH → Prop) : Prop :=
 lfpD (l1_wire_Writer_Nums B ro a0 a1 Q ) (0) σ

set_option maxRecDepth 100000 in
set_option maxHeartbeats 4000000 in
theorem wire_Writer_Nums_ok {B : World} {ro : AH} {a0 : Option Addr} {a1 : Sl} {σ : AH} {Q : AH → Prop} (h : Sep ro σ → f_wire_Writer_Nums B ro a0 a1 σ Q) : c_wire_Writer_Nums B ro a0 a1 σ Q := by
  refine ACalls.of_sep fun hsep => ?_
  replace h := h hsep
  refine ACalls.of_body (args := [.pointer a0, Sl.v a1]) Tryz.func53 rfl (by rw [Tryz.ntmps53]; simp) ?_
  rw [Tryz.ntmps53]
  unfold f_wire_Writer_Nums at h
  refine AW.seq ?_
  refine AW.reg ?_
  refine Lp (V_move rfl rfl) rfl rfl ?_
  refine Lp (V_lenL rfl rfl Tryz.underlying23 rfl rfl) rfl rfl ?_
  refine Lp (V_move rfl rfl) rfl rfl ?_
  refine Lnil ?_
  refine thenN ?_
  refine AW.block ?_
  refine ARound.loop (fr' := [(0, .pointer a0), (6, Sl.v a1), (7, .int .i64 (a1.len : Int)), (8, .int .i64 0)]) ?_ (FrLe.cons rfl (FrLe.cons rfl (FrLe.cons rfl (FrLe.cons rfl (FrLe.nil _)))))
  refine h (fun x8_2 σ => ARound _ _ _ _ _ _ [(0, .pointer a0), (6, Sl.v a1), (7, .int .i64 (a1.len : Int)), (8, .int .i64 x8_2)] σ) ?_
  rintro x8_2 σ Y1 hY1 h
  show AW _ _ _ _ _ _ _ _
  unfold l1_wire_Writer_Nums at h
  refine AW.seq ?_
  refine AW.reg ?_
  refine Lp (V_lss rfl rfl rfl) rfl rfl ?_
  refine Lnil ?_
  refine thenN ?_
  refine AW.seq ?_
  refine AW.iff rfl decide_eq_true_iff h (fun h => ?_) (fun h => ?_)
  rotate_left
  · refine AW.exit ?_
    refine thenE ?_
    refine thenE ?_
    refine blockE ?_
    exact bN0 Tryz.results53 ⟨rfl, h⟩
  refine AW.skip ?_
  refine thenN ?_
  refine AW.seq ?_
  refine AW.block ?_
  refine AW.seq ?_
  refine AW.reg ?_
  obtain ⟨p10_3, ha, h0, h1, h⟩ := h
  refine Lp (V_ixA rfl Tryz.underlying23 ty3 (ixL rfl ha) rfl h0 h1) rfl rfl ?_
  obtain ⟨x11_4, hc, h⟩ := h
  refine Ls rfl rfl (X_ld rfl Tryz.underlying3 rfl rfl hc ?_)
  refine Lp (V_asg rfl rfl) rfl rfl ?_
  refine Lnil ?_
  refine thenN ?_
  refine AW.reg ?_
  refine Lp (V_move rfl rfl) rfl rfl ?_
  obtain ⟨p13_5, hc, h⟩ := h
  refine Lp (V_nil rfl (by rw [← hc]; rfl)) rfl rfl ?_
  refine Lp (V_fld rfl Tryz.underlying167 rfl ty165 (by decide) rfl) rfl rfl ?_
  refine Lp (V_move rfl rfl) rfl rfl ?_
  refine Ls rfl rfl (X_call rfl Tryz.func91 rfl rfl rfl (ACalls.mono h ?_))
  rintro v σ ⟨rfl, h⟩
  refine Lnil ?_
  refine blockN ?_
  refine thenN ?_
  refine AW.reg ?_
  refine Lp (V_add rfl rfl rfl) rfl rfl ?_
  refine Lp (V_move rfl rfl) rfl rfl ?_
  refine Lnil ?_
  refine thenN ?_
  refine ARound.head (fr' := [(0, .pointer a0), (6, Sl.v a1), (7, .int .i64 (a1.len : Int)), (8, .int .i64 (IntKind.i64.wrap (x8_2 + 1)))]) ?_ (FrLe.cons rfl (FrLe.cons rfl (FrLe.cons rfl (FrLe.cons rfl (FrLe.nil _)))))
  exact hY1 _ _ h

def l1_wire_Writer_Blobs (B : World) (ro : AH) (a0 : Option Addr) (a1 : Sl) (Q : AH → Prop) : (Int) → AH → ((Int) → AH → Prop) → Prop := fun x8_2 σ Y1 =>
 if x8_2 < (a1.len : Int) then
  ∃ p10_3 : Addr, a1.a = some p10_3 ∧ (0 : Int) ≤ x8_2 ∧ x8_2 < (a1.len : Int) ∧
  ∃ (x11_4 : Sl), acell ro σ (p10_3.add (Int.toNat x8_2 * 1)) = some (Sl.v x11_4) ∧
  ∃ p13_5 : Addr, a0 = some p13_5 ∧
  c_wire_buffer_num B ro (some p13_5) (x11_4.len : Int) σ fun σ =>
  ∃ p19_6 : Addr, a0 = some p19_6 ∧
  c_bytes_Buffer_Write B ro (some p19_6) x11_4 σ fun x23_7 x23_8 σ =>
  Y1 (IntKind.i64.wrap (x8_2 + 1)) σ
 else
 Q σ

def f_wire_Writer_Blobs (B : World) (ro : AH) (a0 : Option Addr) (a1 : Sl) (σ : AH) (Q : AH → Prop) : Prop :=
 lfpD (l1_wire_Writer_Blobs B ro a0 a1 Q ) (0) σ

set_option maxRecDepth 100000 in
set_option maxHeartbeats 4000000 in
theorem wire_Writer_Blobs_ok {B : World} {ro : AH} {a0 : Option Addr} {a1 : Sl} {σ : AH} {Q : AH → Prop} (h : Sep ro σ → f_wire_Writer_Blobs B ro a0 a1 σ Q) : c_wire_Writer_Blobs B ro a0 a1 σ Q := by
  refine ACalls.of_sep fun hsep => ?_
  replace h := h hsep
  refine ACalls.of_body (args := [.pointer a0, Sl.v a1]) Tryz.func54 rfl (by rw [Tryz.ntmps54]; simp) ?_
  rw [Tryz.ntmps54]
  unfold f_wire_Writer_Blobs at h
  refine AW.seq ?_
  refine AW.reg ?_
  refine Lp (V_move rfl rfl) rfl rfl ?_
  refine Lp (V_lenL rfl rfl Tryz.underlying44 rfl rfl) rfl rfl ?_
  refine Lp (V_move rfl rfl) rfl rfl ?_
  refine Lnil ?_
  refine thenN ?_
  refine AW.block ?_
  refine ARound.loop (fr' := [(0, .pointer a0), (6, Sl.v a1), (7, .int .i64 (a1.len : Int)), (8, .int .i64 0)]) ?_ (FrLe.cons rfl (FrLe.cons rfl (FrLe.cons rfl (FrLe.cons rfl (FrLe.nil _)))))
  refine h (fun x8_2 σ => ARound _ _ _ _ _ _ [(0, .pointer a0), (6, Sl.v a1), (7, .int .i64 (a1.len : Int)), (8, .int .i64 x8_2)] σ) ?_
  rintro x8_2 σ Y1 hY1 h
  show AW _ _ _ _ _ _ _ _
  unfold l1_wire_Writer_Blobs at h
  refine AW.seq ?_
  refine AW.reg ?_
  refine Lp (V_lss rfl rfl rfl) rfl rfl ?_
  refine Lnil ?_
  refine thenN ?_
  refine AW.seq ?_
  refine AW.iff rfl decide_eq_true_iff h (fun h => ?_) (fun h => ?_)
  rotate_left
  · refine AW.exit ?_
    refine thenE ?_
    refine thenE ?_
    refine blockE ?_
    exact bN0 Tryz.results54 ⟨rfl, h⟩
  refine AW.skip ?_
  refine thenN ?_
  refine AW.seq ?_
  refine AW.block ?_
  refine AW.seq ?_
  refine AW.reg ?_
  obtain ⟨p10_3, ha, h0, h1, h⟩ := h
  refine Lp (V_ixA rfl Tryz.underlying44 ty22 (ixL rfl ha) rfl h0 h1) rfl rfl ?_
  obtain ⟨x11_4, hc, h⟩ := h
  refine Ls rfl rfl (X_ld rfl Tryz.underlying22 rfl rfl hc ?_)
  refine Lp (V_asg rfl rfl) rfl rfl ?_
  refine Lnil ?_
  refine thenN ?_
  refine AW.seq ?_
  refine AW.reg ?_
  refine Lp (V_move rfl rfl) rfl rfl ?_
  obtain ⟨p13_5, hc, h⟩ := h
  refine Lp (V_nil rfl (by rw [← hc]; rfl)) rfl rfl ?_
  refine Lp (V_fld rfl Tryz.underlying167 rfl ty165 (by decide) rfl) rfl rfl ?_
  refine Lp (V_move rfl rfl) rfl rfl ?_
  refine Lp (V_lenL rfl rfl Tryz.underlying22 rfl rfl) rfl rfl ?_
  refine Ls rfl rfl (X_call rfl Tryz.func91 rfl rfl rfl (ACalls.mono h ?_))
  rintro v σ ⟨rfl, h⟩
  refine Lnil ?_
  refine thenN ?_
  refine AW.reg ?_
  refine Lp (V_move rfl rfl) rfl rfl ?_
  obtain ⟨p19_6, hc, h⟩ := h
  refine Lp (V_nil rfl (by rw [← hc]; rfl)) rfl rfl ?_
  refine Lp (V_fld rfl Tryz.underlying167 rfl ty165 (by decide) rfl) rfl rfl ?_
  refine Lp (V_fld rfl Tryz.underlying165 rfl ty163 (by decide) rfl) rfl rfl ?_
  refine Lp (V_move rfl rfl) rfl rfl ?_
  refine Ls rfl rfl (X_call rfl Tryz.func92 rfl rfl rfl (ACalls.mono h ?_))
  rintro v σ ⟨x23_7, x23_8, rfl, h⟩
  refine Lnil ?_
  refine blockN ?_
  refine thenN ?_
  refine AW.reg ?_
  refine Lp (V_add rfl rfl rfl) rfl rfl ?_
  refine Lp (V_move rfl rfl) rfl rfl ?_
  refine Lnil ?_
  refine thenN ?_
  refine ARound.head (fr' := [(0, .pointer a0), (6, Sl.v a1), (7, .int .i64 (a1.len : Int)), (8, .int .i64 (IntKind.i64.wrap (x8_2 + 1)))]) ?_ (FrLe.cons rfl (FrLe.cons rfl (FrLe.cons rfl (FrLe.cons rfl (FrLe.nil _)))))
  exact hY1 _ _ h

def f_wire_Writer_Out (B : World) (ro : AH) (a0 : Option Addr) (σ : AH) (Q : Sl → Int → AH → Prop) : Prop :=
 ∃ p5_1 : Addr, a0 = some p5_1 ∧
 ∃ (x8_2 : Bool), acell ro σ (p5_1.add 3) = some (.bool x8_2) ∧
 if x8_2 = true then
  Q (⟨none, 0, 0⟩ : Sl) 10 σ
 else
 ∃ p10_3 : Addr, a0 = some p10_3 ∧
 c_bytes_Buffer_Bytes B ro (some p10_3) σ fun x13_4 σ =>
 c_bytes_Clone B ro x13_4 σ fun x14_5 σ =>
 Q x14_5 0 σ

set_option maxRecDepth 100000 in
set_option maxHeartbeats 4000000 in
theorem wire_Writer_Out_ok {B : World} {ro : AH} {a0 : Option Addr} {σ : AH} {Q : Sl → Int → AH → Prop} (h : Sep ro σ → f_wire_Writer_Out B ro a0 σ Q) : c_wire_Writer_Out B ro a0 σ Q := by
  refine ACalls.of_sep fun hsep => ?_
  replace h := h hsep
  refine ACalls.of_body (args := [.pointer a0]) Tryz.func55 rfl (by rw [Tryz.ntmps55]; simp) ?_
  rw [Tryz.ntmps55]
  unfold f_wire_Writer_Out at h
  refine AW.seq ?_
  refine AW.reg ?_
  refine Lp (V_asg rfl rfl) rfl rfl ?_
  refine Lp (V_asg rfl rfl) rfl rfl ?_
  refine Lnil ?_
  refine thenN ?_
  refine AW.seq ?_
  refine AW.seq ?_
  refine AW.reg ?_
  refine Lp (V_move rfl rfl) rfl rfl ?_
  obtain ⟨p5_1, hc, h⟩ := h
  refine Lp (V_nil rfl (by rw [← hc]; rfl)) rfl rfl ?_
  refine Lp (V_fld rfl Tryz.underlying167 rfl ty165 (by decide) rfl) rfl rfl ?_
  refine Lp (V_fld rfl Tryz.underlying165 rfl ty4 (by decide) rfl) rfl rfl ?_
  obtain ⟨x8_2, hc, h⟩ := h
  refine Ls rfl rfl (X_ld rfl Tryz.underlying4 rfl rfl hc ?_)
  refine Lnil ?_
  refine thenN ?_
  refine AW.iff rfl Iff.rfl h (fun h => ?_) (fun h => ?_)
  · refine AW.seq ?_
    refine AW.reg ?_
    refine Lp (V_asg rfl rfl) rfl rfl ?_
    refine Lp (V_asg rfl rfl) rfl rfl ?_
    refine Lnil ?_
    refine thenN ?_
    refine AW.ret ?_
    refine thenR ?_
    exact bR2 Tryz.results55 rfl rfl ⟨_, _, rfl, h⟩
  refine AW.skip ?_
  refine thenN ?_
  refine AW.seq ?_
  refine AW.reg ?_
  refine Lp (V_move rfl rfl) rfl rfl ?_
  obtain ⟨p10_3, hc, h⟩ := h
  refine Lp (V_nil rfl (by rw [← hc]; rfl)) rfl rfl ?_
  refine Lp (V_fld rfl Tryz.underlying167 rfl ty165 (by decide) rfl) rfl rfl ?_
  refine Lp (V_fld rfl Tryz.underlying165 rfl ty163 (by decide) rfl) rfl rfl ?_
  refine Ls rfl rfl (X_call rfl Tryz.func93 rfl rfl rfl (ACalls.mono h ?_))
  rintro v σ ⟨x13_4, rfl, h⟩
  refine Ls rfl rfl (X_call rfl Tryz.func74 rfl rfl rfl (ACalls.mono h ?_))
  rintro v σ ⟨x14_5, rfl, h⟩
  refine Lp (V_asg rfl rfl) rfl rfl ?_
  refine Lp (V_asg rfl rfl) rfl rfl ?_
  refine Lnil ?_
  refine thenN ?_
  refine AW.ret ?_
  exact bR2 Tryz.results55 rfl rfl ⟨_, _, rfl, h⟩

def j1_wire_Sum (B : World) (ro : AH) (Q : Int → AH → Prop) (x3_2 : Int) (σ : AH) : Prop :=
 Q (IntKind.i64.wrap (bitXor .u32 (if IntKind.u32.signed then -1 else IntKind.u32.max) x3_2)) σ

def j6_wire_Sum (B : World) (ro : AH) (a0 : Sl) (x8_5 : Int) (Q : Int → AH → Prop) (Y3 : (Int × Int) → AH → Prop) (x3_7 : Int) (σ : AH) : Prop :=
 Y3 (x3_7, IntKind.i64.wrap (x8_5 + 1)) σ

def j13_wire_Sum (B : World) (ro : AH) (a0 : Sl) (x8_5 : Int) (x16_12 : Int) (Q : Int → AH → Prop) (Y3 : (Int × Int) → AH → Prop) (Y10 : (Int × Int) → AH → Prop) (x3_14 : Int) (σ : AH) : Prop :=
 Y10 (x3_14, IntKind.i64.wrap (x16_12 + 1)) σ

def l10_wire_Sum (B : World) (ro : AH) (a0 : Sl) (x8_5 : Int) (Q : Int → AH → Prop) (Y3 : (Int × Int) → AH → Prop) : (Int × Int) → AH → ((Int × Int) → AH → Prop) → Prop := fun ⟨x3_11, x16_12⟩ σ Y10 =>
 if x16_12 < 8 then
  if (bitAnd .u32 x3_11 1) = 1 then
   j13_wire_Sum B ro a0 x8_5 x16_12 Q Y3 Y10 (bitXor .u32 (Int.fdiv x3_11 (2 ^ (min (Int.toNat 1) 32))) 3988292384) σ
  else
  j13_wire_Sum B ro a0 x8_5 x16_12 Q Y3 Y10 (Int.fdiv x3_11 (2 ^ (min (Int.toNat 1) 32))) σ
 else
 j6_wire_Sum B ro a0 x8_5 Q Y3 x3_11 σ

def l3_wire_Sum (B : World) (ro : AH) (a0 : Sl) (Q : Int → AH → Prop) : (Int × Int) → AH → ((Int × Int) → AH → Prop) → Prop := fun ⟨x3_4, x8_5⟩ σ Y3 =>
 if x8_5 < (a0.len : Int) then
  ∃ p10_8 : Addr, a0.a = some p10_8 ∧ (0 : Int) ≤ x8_5 ∧ x8_5 < (a0.len : Int) ∧
  ∃ (x11_9 : Int), acell ro σ (p10_8.add (Int.toNat x8_5 * 1)) = some (.int .u8 x11_9) ∧
  lfpD (l10_wire_Sum B ro a0 x8_5 Q Y3 ) (bitXor .u32 x3_4 (IntKind.u32.wrap x11_9), 0) σ
 else
 j1_wire_Sum B ro Q x3_4 σ

def f_wire_Sum (B : World) (ro : AH) (a0 : Sl) (σ : AH) (Q : Int → AH → Prop) : Prop :=
 lfpD (l3_wire_Sum B ro a0 Q ) (4294967295, 0) σ

set_option maxRecDepth 100000 in
set_option maxHeartbeats 4000000 in
theorem wire_Sum_ok {B : World} {ro : AH} {a0 : Sl} {σ : AH} {Q : Int → AH → Prop} (h : Sep ro σ → f_wire_Sum B ro a0 σ Q) : c_wire_Sum B ro a0 σ Q := by
  refine ACalls.of_sep fun hsep => ?_
  replace h := h hsep
  refine ACalls.of_body (args := [Sl.v a0]) Tryz.func77 rfl (by rw [Tryz.ntmps77]; simp) ?_
  rw [Tryz.ntmps77]
  unfold f_wire_Sum at h
  refine AW.seq ?_
  refine AW.reg ?_
  refine Lp (V_asg rfl rfl) rfl rfl ?_
  refine Lnil ?_
  refine thenN ?_
  refine AW.seq ?_
  refine AW.reg ?_
  refine Lp (V_asg rfl rfl) rfl rfl ?_
  refine Lnil ?_
  refine thenN ?_
  refine AW.seqJ (fun fr σ => ∃ (x3_2 : Int), FrLe [(3, .int .u32 x3_2)] fr ∧ j1_wire_Sum B ro Q x3_2 σ) ?_ ?_
  · rintro fr σ ⟨x3_2, hl, h⟩
    refine AW.weaken ?_ hl (HLe.refl _)
    unfold j1_wire_Sum at h
    refine AW.seq ?_
    refine AW.reg ?_
    refine Lp (V_move rfl rfl) rfl rfl ?_
    refine Lp (V_inv rfl rfl) rfl rfl ?_
    refine Lp (V_cvt rfl rfl Tryz.underlying175 Tryz.underlying3) rfl rfl ?_
    refine Lp (V_asg rfl rfl) rfl rfl ?_
    refine Lnil ?_
    refine thenN ?_
    refine AW.ret ?_
    exact bR1 Tryz.results77 rfl ⟨_, rfl, h⟩
  refine AW.seq ?_
  refine AW.reg ?_
  refine Lp (V_move rfl rfl) rfl rfl ?_
  refine Lp (V_lenL rfl rfl Tryz.underlying22 rfl rfl) rfl rfl ?_
  refine Lp (V_move rfl rfl) rfl rfl ?_
  refine Lnil ?_
  refine thenN ?_
  refine AW.block ?_
  refine ARound.loop (fr' := [(6, Sl.v a0), (7, .int .i64 (a0.len : Int)), (3, .int .u32 4294967295), (8, .int .i64 0)]) ?_ (FrLe.cons rfl (FrLe.cons rfl (FrLe.cons rfl (FrLe.cons rfl (FrLe.nil _)))))
  refine h (fun ⟨x3_4, x8_5⟩ σ => ARound _ _ _ _ _ _ [(6, Sl.v a0), (7, .int .i64 (a0.len : Int)), (3, .int .u32 x3_4), (8, .int .i64 x8_5)] σ) ?_
  rintro ⟨x3_4, x8_5⟩ σ Y3 hY3 h
  show AW _ _ _ _ _ _ _ _
  unfold l3_wire_Sum at h
  dsimp only at h
  refine AW.seq ?_
  refine AW.reg ?_
  refine Lp (V_lss rfl rfl rfl) rfl rfl ?_
  refine Lnil ?_
  refine thenN ?_
  refine AW.seq ?_
  refine AW.iff rfl decide_eq_true_iff h (fun h => ?_) (fun h => ?_)
  rotate_left
  · refine AW.exit ?_
    refine thenE ?_
    refine thenE ?_
    refine blockE ?_
    refine thenN ?_
    exact ⟨_, (FrLe.cons rfl (FrLe.nil _)), h⟩
  refine AW.skip ?_
  refine thenN ?_
  refine AW.seqJ (fun fr σ => ∃ (x3_7 : Int), FrLe [(6, Sl.v a0), (7, .int .i64 (a0.len : Int)), (8, .int .i64 x8_5), (3, .int .u32 x3_7)] fr ∧ j6_wire_Sum B ro a0 x8_5 Q Y3 x3_7 σ) ?_ ?_
  · rintro fr σ ⟨x3_7, hl, h⟩
    refine AW.weaken ?_ hl (HLe.refl _)
    unfold j6_wire_Sum at h
    refine AW.reg ?_
    refine Lp (V_add rfl rfl rfl) rfl rfl ?_
    refine Lp (V_move rfl rfl) rfl rfl ?_
    refine Lnil ?_
    refine thenN ?_
    refine ARound.head (fr' := [(6, Sl.v a0), (7, .int .i64 (a0.len : Int)), (3, .int .u32 x3_7), (8, .int .i64 (IntKind.i64.wrap (x8_5 + 1)))]) ?_ (FrLe.cons rfl (FrLe.cons rfl (FrLe.cons rfl (FrLe.cons rfl (FrLe.nil _)))))
    exact hY3 _ _ h
  refine AW.block ?_
  refine AW.seq ?_
  refine AW.reg ?_
  obtain ⟨p10_8, ha, h0, h1, h⟩ := h
  refine Lp (V_ixA rfl Tryz.underlying22 ty5 (ixL rfl ha) rfl h0 h1) rfl rfl ?_
  obtain ⟨x11_9, hc, h⟩ := h
  refine Ls rfl rfl (X_ld rfl Tryz.underlying5 rfl rfl hc ?_)
  refine Lp (V_asg rfl rfl) rfl rfl ?_
  refine Lnil ?_
  refine thenN ?_
  refine AW.seq ?_
  refine AW.reg ?_
  refine Lp (V_move rfl rfl) rfl rfl ?_
  refine Lp (V_move rfl rfl) rfl rfl ?_
  refine Lp (V_cvt rfl rfl Tryz.underlying5 Tryz.underlying175) rfl rfl ?_
  refine Lp (V_xor rfl rfl rfl) rfl rfl ?_
  refine Lp (V_asg rfl rfl) rfl rfl ?_
  refine Lnil ?_
  refine thenN ?_
  refine AW.seq ?_
  refine AW.reg ?_
  refine Lp (V_move rfl rfl) rfl rfl ?_
  refine Lnil ?_
  refine thenN ?_
  refine AW.block ?_
  refine ARound.loop (fr' := [(6, Sl.v a0), (7, .int .i64 (a0.len : Int)), (8, .int .i64 x8_5), (3, .int .u32 (bitXor .u32 x3_4 (IntKind.u32.wrap x11_9))), (16, .int .i64 0)]) ?_ (FrLe.cons rfl (FrLe.cons rfl (FrLe.cons rfl (FrLe.cons rfl (FrLe.cons rfl (FrLe.nil _))))))
  refine h (fun ⟨x3_11, x16_12⟩ σ => ARound _ _ _ _ _ _ [(6, Sl.v a0), (7, .int .i64 (a0.len : Int)), (8, .int .i64 x8_5), (3, .int .u32 x3_11), (16, .int .i64 x16_12)] σ) ?_
  rintro ⟨x3_11, x16_12⟩ σ Y10 hY10 h
  show AW _ _ _ _ _ _ _ _
  unfold l10_wire_Sum at h
  dsimp only at h
  refine AW.seq ?_
  refine AW.reg ?_
  refine Lp (V_lss rfl rfl rfl) rfl rfl ?_
  refine Lnil ?_
  refine thenN ?_
  refine AW.seq ?_
  refine AW.iff rfl decide_eq_true_iff h (fun h => ?_) (fun h => ?_)
  rotate_left
  · refine AW.exit ?_
    refine thenE ?_
    refine thenE ?_
    refine blockE ?_
    refine blockN ?_
    refine thenN ?_
    exact ⟨_, (FrLe.cons rfl (FrLe.cons rfl (FrLe.cons rfl (FrLe.cons rfl (FrLe.nil _))))), h⟩
  refine AW.skip ?_
  refine thenN ?_
  refine AW.seqJ (fun fr σ => ∃ (x3_14 : Int), FrLe [(6, Sl.v a0), (7, .int .i64 (a0.len : Int)), (8, .int .i64 x8_5), (16, .int .i64 x16_12), (3, .int .u32 x3_14)] fr ∧ j13_wire_Sum B ro a0 x8_5 x16_12 Q Y3 Y10 x3_14 σ) ?_ ?_
  · rintro fr σ ⟨x3_14, hl, h⟩
    refine AW.weaken ?_ hl (HLe.refl _)
    unfold j13_wire_Sum at h
    refine AW.reg ?_
    refine Lp (V_add rfl rfl rfl) rfl rfl ?_
    refine Lp (V_move rfl rfl) rfl rfl ?_
    refine Lnil ?_
    refine thenN ?_
    refine ARound.head (fr' := [(6, Sl.v a0), (7, .int .i64 (a0.len : Int)), (8, .int .i64 x8_5), (3, .int .u32 x3_14), (16, .int .i64 (IntKind.i64.wrap (x16_12 + 1)))]) ?_ (FrLe.cons rfl (FrLe.cons rfl (FrLe.cons rfl (FrLe.cons rfl (FrLe.cons rfl (FrLe.nil _))))))
    exact hY10 _ _ h
  refine AW.block ?_
  refine AW.seq ?_
  refine AW.reg ?_
  refine Lp (V_move rfl rfl) rfl rfl ?_
  refine Lp (V_and rfl rfl rfl) rfl rfl ?_
  refine Lp (V_eql rfl rfl rfl) rfl rfl ?_
  refine Lnil ?_
  refine thenN ?_
  refine AW.iff rfl decide_eq_true_iff h (fun h => ?_) (fun h => ?_)
  rotate_left
  · refine AW.reg ?_
    refine Lp (V_move rfl rfl) rfl rfl ?_
    refine Lp (V_shr rfl rfl rfl (by decide)) rfl rfl ?_
    refine Lp (V_asg rfl rfl) rfl rfl ?_
    refine Lnil ?_
    refine blockN ?_
    refine thenN ?_
    exact ⟨_, (FrLe.cons rfl (FrLe.cons rfl (FrLe.cons rfl (FrLe.cons rfl (FrLe.cons rfl (FrLe.nil _)))))), h⟩
  refine AW.reg ?_
  refine Lp (V_move rfl rfl) rfl rfl ?_
  refine Lp (V_shr rfl rfl rfl (by decide)) rfl rfl ?_
  refine Lp (V_xor rfl rfl rfl) rfl rfl ?_
  refine Lp (V_asg rfl rfl) rfl rfl ?_
  refine Lnil ?_
  refine blockN ?_
  refine thenN ?_
  exact ⟨_, (FrLe.cons rfl (FrLe.cons rfl (FrLe.cons rfl (FrLe.cons rfl (FrLe.cons rfl (FrLe.nil _)))))), h⟩

def j1_wire_Numbers (B : World) (ro : AH) (Q : Sl → Int → AH → Prop) (x4_2 : Sl) (σ : AH) : Prop :=
 Q x4_2 0 σ

def l3_wire_Numbers (B : World) (ro : AH) (a0 : Sl) (Q : Sl → Int → AH → Prop) : (Sl × Int) → AH → ((Sl × Int) → AH → Prop) → Prop := fun ⟨x4_4, x9_5⟩ σ Y3 =>
 if x9_5 < (a0.len : Int) then
  ∃ p11_6 : Addr, a0.a = some p11_6 ∧ (0 : Int) ≤ x9_5 ∧ x9_5 < (a0.len : Int) ∧
  ∃ (x12_7 : Int), acell ro σ (p11_6.add (Int.toNat x9_5 * 1)) = some (.int .i64 x12_7) ∧
  c_wire_right B ro x12_7 σ fun x14_8 σ =>
  if ¬ (x14_8 = true) then
   Q (⟨none, 0, 0⟩ : Sl) 10 σ
  else
  c_wire_put B ro x4_4 x12_7 σ fun x18_9 σ =>
  Y3 (x18_9, IntKind.i64.wrap (x9_5 + 1)) σ
 else
 j1_wire_Numbers B ro Q x4_4 σ

def f_wire_Numbers (B : World) (ro : AH) (a0 : Sl) (σ : AH) (Q : Sl → Int → AH → Prop) : Prop :=
 lfpD (l3_wire_Numbers B ro a0 Q ) ((⟨none, 0, 0⟩ : Sl), 0) σ

set_option maxRecDepth 100000 in
set_option maxHeartbeats 4000000 in
theorem wire_Numbers_ok {B : World} {ro : AH} {a0 : Sl} {σ : AH} {Q : Sl → Int → AH → Prop} (h : Sep ro σ → f_wire_Numbers B ro a0 σ Q) : c_wire_Numbers B ro a0 σ Q := by
  refine ACalls.of_sep fun hsep => ?_
  replace h := h hsep
  refine ACalls.of_body (args := [Sl.v a0]) Tryz.func78 rfl (by rw [Tryz.ntmps78]; simp) ?_
  rw [Tryz.ntmps78]
  unfold f_wire_Numbers at h
  refine AW.seq ?_
  refine AW.reg ?_
  refine Lp (V_asg rfl rfl) rfl rfl ?_
  refine Lp (V_asg rfl rfl) rfl rfl ?_
  refine Lnil ?_
  refine thenN ?_
  refine AW.seq ?_
  refine AW.reg ?_
  refine Lp (V_asg rfl rfl) rfl rfl ?_
  refine Lnil ?_
  refine thenN ?_
  refine AW.seqJ (fun fr σ => ∃ (x4_2 : Sl), FrLe [(4, Sl.v x4_2)] fr ∧ j1_wire_Numbers B ro Q x4_2 σ) ?_ ?_
  · rintro fr σ ⟨x4_2, hl, h⟩
    refine AW.weaken ?_ hl (HLe.refl _)
    unfold j1_wire_Numbers at h
    refine AW.seq ?_
    refine AW.reg ?_
    refine Lp (V_move rfl rfl) rfl rfl ?_
    refine Lp (V_asg rfl rfl) rfl rfl ?_
    refine Lp (V_asg rfl rfl) rfl rfl ?_
    refine Lnil ?_
    refine thenN ?_
    refine AW.ret ?_
    exact bR2 Tryz.results78 rfl rfl ⟨_, _, rfl, h⟩
  refine AW.seq ?_
  refine AW.reg ?_
  refine Lp (V_move rfl rfl) rfl rfl ?_
  refine Lp (V_lenL rfl rfl Tryz.underlying23 rfl rfl) rfl rfl ?_
  refine Lp (V_move rfl rfl) rfl rfl ?_
  refine Lnil ?_
  refine thenN ?_
  refine AW.block ?_
  refine ARound.loop (fr' := [(7, Sl.v a0), (8, .int .i64 (a0.len : Int)), (4, Sl.v (⟨none, 0, 0⟩ : Sl)), (9, .int .i64 0)]) ?_ (FrLe.cons rfl (FrLe.cons rfl (FrLe.cons rfl (FrLe.cons rfl (FrLe.nil _)))))
  refine h (fun ⟨x4_4, x9_5⟩ σ => ARound _ _ _ _ _ _ [(7, Sl.v a0), (8, .int .i64 (a0.len : Int)), (4, Sl.v x4_4), (9, .int .i64 x9_5)] σ) ?_
  rintro ⟨x4_4, x9_5⟩ σ Y3 hY3 h
  show AW _ _ _ _ _ _ _ _
  unfold l3_wire_Numbers at h
  dsimp only at h
  refine AW.seq ?_
  refine AW.reg ?_
  refine Lp (V_lss rfl rfl rfl) rfl rfl ?_
  refine Lnil ?_
  refine thenN ?_
  refine AW.seq ?_
  refine AW.iff rfl decide_eq_true_iff h (fun h => ?_) (fun h => ?_)
  rotate_left
  · refine AW.exit ?_
    refine thenE ?_
    refine thenE ?_
    refine blockE ?_
    refine thenN ?_
    exact ⟨_, (FrLe.cons rfl (FrLe.nil _)), h⟩
  refine AW.skip ?_
  refine thenN ?_
  refine AW.seq ?_
  refine AW.block ?_
  refine AW.seq ?_
  refine AW.reg ?_
  obtain ⟨p11_6, ha, h0, h1, h⟩ := h
  refine Lp (V_ixA rfl Tryz.underlying23 ty3 (ixL rfl ha) rfl h0 h1) rfl rfl ?_
  obtain ⟨x12_7, hc, h⟩ := h
  refine Ls rfl rfl (X_ld rfl Tryz.underlying3 rfl rfl hc ?_)
  refine Lp (V_asg rfl rfl) rfl rfl ?_
  refine Lnil ?_
  refine thenN ?_
  refine AW.seq ?_
  refine AW.seq ?_
  refine AW.reg ?_
  refine Lp (V_move rfl rfl) rfl rfl ?_
  refine Ls rfl rfl (X_call rfl Tryz.func102 rfl rfl rfl (ACalls.mono h ?_))
  rintro v σ ⟨x14_8, rfl, h⟩
  refine Lp (V_not rfl rfl) rfl rfl ?_
  refine Lnil ?_
  refine thenN ?_
  refine AW.iff rfl (bnot_iff Iff.rfl) h (fun h => ?_) (fun h => ?_)
  · refine AW.seq ?_
    refine AW.reg ?_
    refine Lp (V_asg rfl rfl) rfl rfl ?_
    refine Lp (V_asg rfl rfl) rfl rfl ?_
    refine Lnil ?_
    refine thenN ?_
    refine AW.ret ?_
    refine thenR ?_
    refine blockR ?_
    refine thenR ?_
    refine thenR ?_
    refine blockR ?_
    refine thenR ?_
    exact bR2 Tryz.results78 rfl rfl ⟨_, _, rfl, h⟩
  refine AW.skip ?_
  refine thenN ?_
  refine AW.reg ?_
  refine Lp (V_move rfl rfl) rfl rfl ?_
  refine Lp (V_move rfl rfl) rfl rfl ?_
  refine Ls rfl rfl (X_call rfl Tryz.func103 rfl rfl rfl (ACalls.mono h ?_))
  rintro v σ ⟨x18_9, rfl, h⟩
  refine Lp (V_asg rfl rfl) rfl rfl ?_
  refine Lnil ?_
  refine blockN ?_
  refine thenN ?_
  refine AW.reg ?_
  refine Lp (V_add rfl rfl rfl) rfl rfl ?_
  refine Lp (V_move rfl rfl) rfl rfl ?_
  refine Lnil ?_
  refine thenN ?_
  refine ARound.head (fr' := [(7, Sl.v a0), (8, .int .i64 (a0.len : Int)), (4, Sl.v x18_9), (9, .int .i64 (IntKind.i64.wrap (x9_5 + 1)))]) ?_ (FrLe.cons rfl (FrLe.cons rfl (FrLe.cons rfl (FrLe.cons rfl (FrLe.nil _)))))
  exact hY3 _ _ h

def f_wire_Frame (B : World) (ro : AH) (a0 : Sl) (σ : AH) (Q : Sl → Int → AH → Prop) : Prop :=
 if 65536 < (a0.len : Int) then
  Q (⟨none, 0, 0⟩ : Sl) 14 σ
 else
 c_wire_four B ro (a0.len : Int) σ fun x11_1 σ =>
 c_wire_four B ro (a0.len : Int) σ fun x14_2 σ =>
 awp Tryz.prog ro (Builtin.append_ #[22, 22] 22 #[Sl.v x14_2, Sl.v a0]) (fun v σ => ∃ (x16_3 : Sl), v = Sl.v x16_3 ∧
  c_wire_Sum B ro x16_3 σ fun x17_4 σ =>
  c_wire_four B ro x17_4 σ fun x18_5 σ =>
  awp Tryz.prog ro (Builtin.append_ #[22, 22] 22 #[Sl.v x11_1, Sl.v x18_5]) (fun v σ => ∃ (x21_6 : Sl), v = Sl.v x21_6 ∧
   awp Tryz.prog ro (Builtin.append_ #[22, 22] 22 #[Sl.v x21_6, Sl.v a0]) (fun v σ => ∃ (x23_7 : Sl), v = Sl.v x23_7 ∧
    Q x23_7 0 σ) σ) σ) σ

set_option maxRecDepth 100000 in
set_option maxHeartbeats 4000000 in
theorem wire_Frame_ok {B : World} {ro : AH} {a0 : Sl} {σ : AH} {Q : Sl → Int → AH → Prop} (h : Sep ro σ → f_wire_Frame B ro a0 σ Q) : c_wire_Frame B ro a0 σ Q := by
  refine ACalls.of_sep fun hsep => ?_
  replace h := h hsep
  refine ACalls.of_body (args := [Sl.v a0]) Tryz.func79 rfl (by rw [Tryz.ntmps79]; simp) ?_
  rw [Tryz.ntmps79]
  unfold f_wire_Frame at h
  refine AW.seq ?_
  refine AW.reg ?_
  refine Lp (V_asg rfl rfl) rfl rfl ?_
  refine Lp (V_asg rfl rfl) rfl rfl ?_
  refine Lnil ?_
  refine thenN ?_
  refine AW.seq ?_
  refine AW.seq ?_
  refine AW.reg ?_
  refine Lp (V_move rfl rfl) rfl rfl ?_
  refine Lp (V_lenL rfl rfl Tryz.underlying22 rfl rfl) rfl rfl ?_
  refine Lp (V_gtr rfl rfl rfl) rfl rfl ?_
  refine Lnil ?_
  refine thenN ?_
  refine AW.iff rfl decide_eq_true_iff h (fun h => ?_) (fun h => ?_)
  · refine AW.seq ?_
    refine AW.reg ?_
    refine Lp (V_asg rfl rfl) rfl rfl ?_
    refine Lp (V_asg rfl rfl) rfl rfl ?_
    refine Lnil ?_
    refine thenN ?_
    refine AW.ret ?_
    refine thenR ?_
    exact bR2 Tryz.results79 rfl rfl ⟨_, _, rfl, h⟩
  refine AW.skip ?_
  refine thenN ?_
  refine AW.seq ?_
  refine AW.reg ?_
  refine Lp (V_move rfl rfl) rfl rfl ?_
  refine Lp (V_lenL rfl rfl Tryz.underlying22 rfl rfl) rfl rfl ?_
  refine Ls rfl rfl (X_call rfl Tryz.func104 rfl rfl rfl (ACalls.mono h ?_))
  rintro v σ ⟨x11_1, rfl, h⟩
  refine Lp (V_asg rfl rfl) rfl rfl ?_
  refine Lnil ?_
  refine thenN ?_
  refine AW.seq ?_
  refine AW.reg ?_
  refine Lp (V_move rfl rfl) rfl rfl ?_
  refine Lp (V_lenL rfl rfl Tryz.underlying22 rfl rfl) rfl rfl ?_
  refine Ls rfl rfl (X_call rfl Tryz.func104 rfl rfl rfl (ACalls.mono h ?_))
  rintro v σ ⟨x14_2, rfl, h⟩
  refine Lp (V_move rfl rfl) rfl rfl ?_
  refine Ls rfl rfl (X_bi (s := Builtin.append_ #[22, 22] 22 #[Sl.v x14_2, Sl.v a0]) rfl rfl (fun _ => rfl) (awp_mono _ h ?_))
  rintro v σ ⟨x16_3, rfl, h⟩
  refine Ls rfl rfl (X_call rfl Tryz.func77 rfl rfl rfl (ACalls.mono h ?_))
  rintro v σ ⟨x17_4, rfl, h⟩
  refine Ls rfl rfl (X_call rfl Tryz.func104 rfl rfl rfl (ACalls.mono h ?_))
  rintro v σ ⟨x18_5, rfl, h⟩
  refine Lp (V_asg rfl rfl) rfl rfl ?_
  refine Lnil ?_
  refine thenN ?_
  refine AW.seq ?_
  refine AW.reg ?_
  refine Lp (V_move rfl rfl) rfl rfl ?_
  refine Lp (V_move rfl rfl) rfl rfl ?_
  refine Ls rfl rfl (X_bi (s := Builtin.append_ #[22, 22] 22 #[Sl.v x11_1, Sl.v x18_5]) rfl rfl (fun _ => rfl) (awp_mono _ h ?_))
  rintro v σ ⟨x21_6, rfl, h⟩
  refine Lp (V_move rfl rfl) rfl rfl ?_
  refine Ls rfl rfl (X_bi (s := Builtin.append_ #[22, 22] 22 #[Sl.v x21_6, Sl.v a0]) rfl rfl (fun _ => rfl) (awp_mono _ h ?_))
  rintro v σ ⟨x23_7, rfl, h⟩
  refine Lp (V_asg rfl rfl) rfl rfl ?_
  refine Lp (V_asg rfl rfl) rfl rfl ?_
  refine Lnil ?_
  refine thenN ?_
  refine AW.ret ?_
  exact bR2 Tryz.results79 rfl rfl ⟨_, _, rfl, h⟩

def f_wire_Unframe (B : World) (ro : AH) (a0 : Sl) (a1 : Int) (σ : AH) (Q : Sl → Int → Int → AH → Prop) : Prop :=
 if (a1 < 0) ∨ ((a0.len : Int) < a1) then
  Q (⟨none, 0, 0⟩ : Sl) 0 11 σ
 else
 if (IntKind.i64.wrap ((a0.len : Int) - a1)) < 8 then
  Q (⟨none, 0, 0⟩ : Sl) 0 12 σ
 else
 cutOk (some a1) none a0.len a0.cap ∧
 c_wire_value B ro (⟨cutA a0.a (Int.toNat a1) a0.cap 1, a0.len - Int.toNat a1, a0.cap - Int.toNat a1⟩ : Sl) σ fun x26_1 σ =>
 if 65536 < x26_1 then
  Q (⟨none, 0, 0⟩ : Sl) 0 14 σ
 else
 if (IntKind.i64.wrap ((IntKind.i64.wrap ((a0.len : Int) - a1)) - 8)) < x26_1 then
  Q (⟨none, 0, 0⟩ : Sl) 0 12 σ
 else
 cutOk (some (IntKind.i64.wrap (a1 + 8))) (some (IntKind.i64.wrap ((IntKind.i64.wrap (a1 + 8)) + x26_1))) a0.len a0.cap ∧
 c_bytes_Clone B ro (⟨cutA a0.a (Int.toNat (IntKind.i64.wrap (a1 + 8))) a0.cap 1, Int.toNat (IntKind.i64.wrap ((IntKind.i64.wrap (a1 + 8)) + x26_1)) - Int.toNat (IntKind.i64.wrap (a1 + 8)), a0.cap - Int.toNat (IntKind.i64.wrap (a1 + 8))⟩ : Sl) σ fun x46_2 σ =>
 cutOk (some (IntKind.i64.wrap (a1 + 4))) none a0.len a0.cap ∧
 c_wire_four B ro x26_1 σ fun x48_3 σ =>
 awp Tryz.prog ro (Builtin.append_ #[22, 22] 22 #[Sl.v x48_3, Sl.v x46_2]) (fun v σ => ∃ (x50_4 : Sl), v = Sl.v x50_4 ∧
  c_wire_Sum B ro x50_4 σ fun x51_5 σ =>
  c_wire_value B ro (⟨cutA a0.a (Int.toNat (IntKind.i64.wrap (a1 + 4))) a0.cap 1, a0.len - Int.toNat (IntKind.i64.wrap (a1 + 4)), a0.cap - Int.toNat (IntKind.i64.wrap (a1 + 4))⟩ : Sl) σ fun x56_6 σ =>
  if ¬ (x51_5 = x56_6) then
   Q (⟨none, 0, 0⟩ : Sl) 0 15 σ
  else
  Q x46_2 (IntKind.i64.wrap ((IntKind.i64.wrap (a1 + 8)) + x26_1)) 0 σ) σ

set_option maxRecDepth 100000 in
set_option maxHeartbeats 4000000 in
theorem wire_Unframe_ok {B : World} {ro : AH} {a0 : Sl} {a1 : Int} {σ : AH} {Q : Sl → Int → Int → AH → Prop} (h : Sep ro σ → f_wire_Unframe B ro a0 a1 σ Q) : c_wire_Unframe B ro a0 a1 σ Q := by
  refine ACalls.of_sep fun hsep => ?_
  replace h := h hsep
  refine ACalls.of_body (args := [Sl.v a0, .int .i64 a1]) Tryz.func86 rfl (by rw [Tryz.ntmps86]; simp) ?_
  rw [Tryz.ntmps86]
  unfold f_wire_Unframe at h
  refine AW.seq ?_
  refine AW.reg ?_
  refine Lp (V_asg rfl rfl) rfl rfl ?_
  refine Lp (V_asg rfl rfl) rfl rfl ?_
  refine Lp (V_asg rfl rfl) rfl rfl ?_
  refine Lnil ?_
  refine thenN ?_
  refine AW.seq ?_
  refine AW.block ?_
  refine AW.seq ?_
  refine AW.reg ?_
  refine Lp (V_move rfl rfl) rfl rfl ?_
  refine Lp (V_lss rfl rfl rfl) rfl rfl ?_
  refine Lp (V_move rfl rfl) rfl rfl ?_
  refine Lsplit 5 (decide (a1 < 0)) [(0, Sl.v a0), (1, .int .i64 a1), (16, .bool ((decide (a1 < 0)) || (decide ((a0.len : Int) < a1))))] ?_ ?_ ?_
  · intro e2 hk2
    refine Ln rfl rfl rfl rfl (.inl (by rw [e2]; rfl)) ?_
    refine Ln rfl rfl rfl rfl (.inl (by rw [e2]; rfl)) ?_
    refine Ln rfl rfl rfl rfl (.inl (by rw [e2]; rfl)) ?_
    refine Ln rfl rfl rfl rfl (.inl (by rw [e2]; rfl)) ?_
    refine Lp (V_pickT rfl (evb e2) rfl) rfl rfl ?_
    exact hk2 _ (FrLe.cons rfl (FrLe.cons rfl (FrLe.cons (by rw [e2]; rfl) (FrLe.nil _))))
  · intro e2 hk2
    refine Lypb (V_move rfl rfl) rfl rfl rfl rfl e2 ?_
    refine Lypb (V_move rfl rfl) rfl rfl rfl rfl e2 ?_
    refine Lypb (V_lenL rfl rfl Tryz.underlying22 rfl rfl) rfl rfl rfl rfl e2 ?_
    refine Lypb (V_gtr rfl rfl rfl) rfl rfl rfl rfl e2 ?_
    refine Lp (V_pickF rfl (evb e2) rfl) rfl rfl ?_
    exact hk2 _ (FrLe.cons rfl (FrLe.cons rfl (FrLe.cons (by rw [e2]; rfl) (FrLe.nil _))))
  intro fr hl
  refine Lfr hl ?_
  refine Lp (V_asg rfl rfl) rfl rfl ?_
  refine Lnil ?_
  refine thenN ?_
  refine AW.iff rfl (bor_iff decide_eq_true_iff decide_eq_true_iff) h (fun h => ?_) (fun h => ?_)
  · refine AW.seq ?_
    refine AW.reg ?_
    refine Lp (V_asg rfl rfl) rfl rfl ?_
    refine Lp (V_asg rfl rfl) rfl rfl ?_
    refine Lp (V_asg rfl rfl) rfl rfl ?_
    refine Lnil ?_
    refine thenN ?_
    refine AW.ret ?_
    refine blockR ?_
    refine thenR ?_
    exact bR3 Tryz.results86 rfl rfl rfl ⟨_, _, _, rfl, h⟩
  refine AW.seq ?_
  refine AW.reg ?_
  refine Lp (V_move rfl rfl) rfl rfl ?_
  refine Lp (V_lenL rfl rfl Tryz.underlying22 rfl rfl) rfl rfl ?_
  refine Lp (V_move rfl rfl) rfl rfl ?_
  refine Lp (V_sub rfl rfl rfl) rfl rfl ?_
  refine Lp (V_lss rfl rfl rfl) rfl rfl ?_
  refine Lp (V_asg rfl rfl) rfl rfl ?_
  refine Lnil ?_
  refine thenN ?_
  refine AW.iff rfl decide_eq_true_iff h (fun h => ?_) (fun h => ?_)
  · refine AW.seq ?_
    refine AW.reg ?_
    refine Lp (V_asg rfl rfl) rfl rfl ?_
    refine Lp (V_asg rfl rfl) rfl rfl ?_
    refine Lp (V_asg rfl rfl) rfl rfl ?_
    refine Lnil ?_
    refine thenN ?_
    refine AW.ret ?_
    refine blockR ?_
    refine thenR ?_
    exact bR3 Tryz.results86 rfl rfl rfl ⟨_, _, _, rfl, h⟩
  refine AW.skip ?_
  refine blockN ?_
  refine thenN ?_
  refine AW.seq ?_
  refine AW.reg ?_
  refine Lp (V_move rfl rfl) rfl rfl ?_
  refine Lp (V_move rfl rfl) rfl rfl ?_
  obtain ⟨hc, h⟩ := h
  refine Lp (V_slL (lo := (some a1)) (hi := none) rfl Tryz.underlying22 ty5 rfl (optI_some rfl) optI_none hc) rfl rfl ?_
  refine Ls rfl rfl (X_call rfl Tryz.func120 rfl rfl rfl (ACalls.mono h ?_))
  rintro v σ ⟨x26_1, rfl, h⟩
  refine Lp (V_asg rfl rfl) rfl rfl ?_
  refine Lnil ?_
  refine thenN ?_
  refine AW.seq ?_
  refine AW.block ?_
  refine AW.seq ?_
  refine AW.reg ?_
  refine Lp (V_move rfl rfl) rfl rfl ?_
  refine Lp (V_gtr rfl rfl rfl) rfl rfl ?_
  refine Lp (V_asg rfl rfl) rfl rfl ?_
  refine Lnil ?_
  refine thenN ?_
  refine AW.iff rfl decide_eq_true_iff h (fun h => ?_) (fun h => ?_)
  · refine AW.seq ?_
    refine AW.reg ?_
    refine Lp (V_asg rfl rfl) rfl rfl ?_
    refine Lp (V_asg rfl rfl) rfl rfl ?_
    refine Lp (V_asg rfl rfl) rfl rfl ?_
    refine Lnil ?_
    refine thenN ?_
    refine AW.ret ?_
    refine blockR ?_
    refine thenR ?_
    exact bR3 Tryz.results86 rfl rfl rfl ⟨_, _, _, rfl, h⟩
  refine AW.seq ?_
  refine AW.reg ?_
  refine Lp (V_move rfl rfl) rfl rfl ?_
  refine Lp (V_lenL rfl rfl Tryz.underlying22 rfl rfl) rfl rfl ?_
  refine Lp (V_move rfl rfl) rfl rfl ?_
  refine Lp (V_sub rfl rfl rfl) rfl rfl ?_
  refine Lp (V_sub rfl rfl rfl) rfl rfl ?_
  refine Lp (V_move rfl rfl) rfl rfl ?_
  refine Lp (V_lss rfl rfl rfl) rfl rfl ?_
  refine Lp (V_asg rfl rfl) rfl rfl ?_
  refine Lnil ?_
  refine thenN ?_
  refine AW.iff rfl decide_eq_true_iff h (fun h => ?_) (fun h => ?_)
  · refine AW.seq ?_
    refine AW.reg ?_
    refine Lp (V_asg rfl rfl) rfl rfl ?_
    refine Lp (V_asg rfl rfl) rfl rfl ?_
    refine Lp (V_asg rfl rfl) rfl rfl ?_
    refine Lnil ?_
    refine thenN ?_
    refine AW.ret ?_
    refine blockR ?_
    refine thenR ?_
    exact bR3 Tryz.results86 rfl rfl rfl ⟨_, _, _, rfl, h⟩
  refine AW.skip ?_
  refine blockN ?_
  refine thenN ?_
  refine AW.seq ?_
  refine AW.reg ?_
  refine Lp (V_move rfl rfl) rfl rfl ?_
  refine Lp (V_move rfl rfl) rfl rfl ?_
  refine Lp (V_add rfl rfl rfl) rfl rfl ?_
  refine Lp (V_move rfl rfl) rfl rfl ?_
  refine Lp (V_add rfl rfl rfl) rfl rfl ?_
  refine Lp (V_move rfl rfl) rfl rfl ?_
  refine Lp (V_add rfl rfl rfl) rfl rfl ?_
  obtain ⟨hc, h⟩ := h
  refine Lp (V_slL (lo := (some (IntKind.i64.wrap (a1 + 8)))) (hi := (some (IntKind.i64.wrap ((IntKind.i64.wrap (a1 + 8)) + x26_1)))) rfl Tryz.underlying22 ty5 rfl (optI_some rfl) (optI_some rfl) hc) rfl rfl ?_
  refine Ls rfl rfl (X_call rfl Tryz.func74 rfl rfl rfl (ACalls.mono h ?_))
  rintro v σ ⟨x46_2, rfl, h⟩
  refine Lp (V_asg rfl rfl) rfl rfl ?_
  refine Lnil ?_
  refine thenN ?_
  refine AW.seq ?_
  refine AW.seq ?_
  refine AW.drawn0 (fun i => ([0, 2, 0, 2, 2, 0, 0, 0, 0, 2, 0] : List Nat).getD i 2) [(1, 3), (1, 4), (1, 9), (3, 4), (3, 9)] [0, 2, 5, 6, 7, 8, 1, 3, 4, 9, 10] Tryz.mixed (by decide +kernel) ?_
  refine Dp rfl rfl rfl rfl (V_move rfl rfl) ?_
  refine Dp rfl rfl rfl rfl (V_move rfl rfl) ?_
  refine Dp rfl rfl rfl rfl (V_move rfl rfl) ?_
  refine Dp rfl rfl rfl rfl (V_move rfl rfl) ?_
  refine Dp rfl rfl rfl rfl (V_add rfl rfl rfl) ?_
  obtain ⟨hc, h⟩ := h
  refine Dp rfl rfl rfl rfl (V_slL (lo := (some (IntKind.i64.wrap (a1 + 4)))) (hi := none) rfl Tryz.underlying22 ty5 rfl (optI_some rfl) optI_none hc) ?_
  refine Dg rfl rfl rfl rfl (X_call rfl Tryz.func104 rfl rfl rfl (ACalls.mono h ?_))
  rintro v σ ⟨x48_3, rfl, h⟩
  refine Dg rfl rfl rfl rfl (X_bi (s := Builtin.append_ #[22, 22] 22 #[Sl.v x48_3, Sl.v x46_2]) rfl rfl (fun _ => rfl) (awp_mono _ h ?_))
  rintro v σ ⟨x50_4, rfl, h⟩
  refine Dg rfl rfl rfl rfl (X_call rfl Tryz.func77 rfl rfl rfl (ACalls.mono h ?_))
  rintro v σ ⟨x51_5, rfl, h⟩
  refine Dg rfl rfl rfl rfl (X_call rfl Tryz.func120 rfl rfl rfl (ACalls.mono h ?_))
  rintro v σ ⟨x56_6, rfl, h⟩
  refine Dp rfl rfl rfl rfl (V_neq rfl rfl rfl) ?_
  refine Dend ?_
  refine thenN ?_
  refine AW.iff rfl (bnot_iff decide_eq_true_iff) h (fun h => ?_) (fun h => ?_)
  · refine AW.seq ?_
    refine AW.reg ?_
    refine Lp (V_asg rfl rfl) rfl rfl ?_
    refine Lp (V_asg rfl rfl) rfl rfl ?_
    refine Lp (V_asg rfl rfl) rfl rfl ?_
    refine Lnil ?_
    refine thenN ?_
    refine AW.ret ?_
    refine thenR ?_
    exact bR3 Tryz.results86 rfl rfl rfl ⟨_, _, _, rfl, h⟩
  refine AW.skip ?_
  refine thenN ?_
  refine AW.seq ?_
  refine AW.reg ?_
  refine Lp (V_move rfl rfl) rfl rfl ?_
  refine Lp (V_move rfl rfl) rfl rfl ?_
  refine Lp (V_add rfl rfl rfl) rfl rfl ?_
  refine Lp (V_move rfl rfl) rfl rfl ?_
  refine Lp (V_add rfl rfl rfl) rfl rfl ?_
  refine Lp (V_asg rfl rfl) rfl rfl ?_
  refine Lp (V_asg rfl rfl) rfl rfl ?_
  refine Lp (V_asg rfl rfl) rfl rfl ?_
  refine Lnil ?_
  refine thenN ?_
  refine AW.ret ?_
  exact bR3 Tryz.results86 rfl rfl rfl ⟨_, _, _, rfl, h⟩

def f_wire_NewReader (B : World) (ro : AH) (a0 : Sl) (σ : AH) (Q : Option Addr → AH → Prop) : Prop :=
 c_bytes_Clone B ro a0 σ fun x4_1 σ =>
 nw ro σ (.cells #[Sl.v x4_1, .int .i64 0] 190) fun x6_2 σ =>
 Q (some ⟨x6_2, 0, none⟩) σ

set_option maxRecDepth 100000 in
set_option maxHeartbeats 4000000 in
theorem wire_NewReader_ok {B : World} {ro : AH} {a0 : Sl} {σ : AH} {Q : Option Addr → AH → Prop} (h : Sep ro σ → f_wire_NewReader B ro a0 σ Q) : c_wire_NewReader B ro a0 σ Q := by
  refine ACalls.of_sep fun hsep => ?_
  replace h := h hsep
  refine ACalls.of_body (args := [Sl.v a0]) Tryz.func87 rfl (by rw [Tryz.ntmps87]; simp) ?_
  rw [Tryz.ntmps87]
  unfold f_wire_NewReader at h
  refine AW.seq ?_
  refine AW.reg ?_
  refine Lp (V_asg rfl rfl) rfl rfl ?_
  refine Lnil ?_
  refine thenN ?_
  refine AW.seq ?_
  refine AW.reg ?_
  refine Lp (V_move rfl rfl) rfl rfl ?_
  refine Ls rfl rfl (X_call rfl Tryz.func74 rfl rfl rfl (ACalls.mono h ?_))
  rintro v σ ⟨x4_1, rfl, h⟩
  refine Lp (V_bld (vs := [(0, Sl.v x4_1)]) (cs := #[Sl.v x4_1, .int .i64 0]) rfl Tryz.underlying190 ty190 pl190 rfl rfl) rfl rfl ?_
  refine Ls rfl rfl (X_new (A_box rfl rfl) fun x6_2 g1 g2 => ?_)
  replace h := h x6_2 g1 g2
  refine Lp (V_asg rfl rfl) rfl rfl ?_
  refine Lnil ?_
  refine thenN ?_
  refine AW.ret ?_
  exact bR1 Tryz.results87 rfl ⟨_, rfl, h⟩

def f_wire_Reader_Num (B : World) (ro : AH) (a0 : Option Addr) (σ : AH) (Q : Int → AH → Prop) : Prop :=
 ∃ p7_1 : Addr, a0 = some p7_1 ∧
 ∃ (x9_2 : Int), acell ro σ (p7_1.add 1) = some (.int .i64 x9_2) ∧
 if ¬ (x9_2 = 0) then
  Q 0 σ
 else
 ∃ p13_3 : Addr, a0 = some p13_3 ∧
 ∃ (x15_4 : Sl), acell ro σ p13_3 = some (Sl.v x15_4) ∧
 c_wire_Number B ro x15_4 0 σ fun x16_5 x16_6 x16_7 σ =>
 ∃ p22_8 : Addr, a0 = some p22_8 ∧
 stN (p22_8.add 1) (fun σ =>
  ∃ p26_9 : Addr, a0 = some p26_9 ∧
  ∃ (x28_10 : Sl), acell ro σ p26_9 = some (Sl.v x28_10) ∧
  cutOk (some x16_6) none x28_10.len x28_10.cap ∧
  ∃ p31_11 : Addr, a0 = some p31_11 ∧
  stN p31_11 (fun σ =>
   Q x16_5 σ) [Sl.v (⟨cutA x28_10.a (Int.toNat x16_6) x28_10.cap 1, x28_10.len - Int.toNat x16_6, x28_10.cap - Int.toNat x16_6⟩ : Sl)] 0 σ) [.int .i64 x16_7] 0 σ

set_option maxRecDepth 100000 in
set_option maxHeartbeats 4000000 in
theorem wire_Reader_Num_ok {B : World} {ro : AH} {a0 : Option Addr} {σ : AH} {Q : Int → AH → Prop} (h : Sep ro σ → f_wire_Reader_Num B ro a0 σ Q) : c_wire_Reader_Num B ro a0 σ Q := by
  refine ACalls.of_sep fun hsep => ?_
  replace h := h hsep
  refine ACalls.of_body (args := [.pointer a0]) Tryz.func88 rfl (by rw [Tryz.ntmps88]; simp) ?_
  rw [Tryz.ntmps88]
  unfold f_wire_Reader_Num at h
  refine AW.seq ?_
  refine AW.reg ?_
  refine Lp (V_asg rfl rfl) rfl rfl ?_
  refine Lnil ?_
  refine thenN ?_
  refine AW.seq ?_
  refine AW.seq ?_
  refine AW.reg ?_
  refine Lp (V_move rfl rfl) rfl rfl ?_
  obtain ⟨p7_1, hc, h⟩ := h
  refine Lp (V_nil rfl (by rw [← hc]; rfl)) rfl rfl ?_
  refine Lp (V_fld rfl Tryz.underlying190 rfl ty27 (by decide) rfl) rfl rfl ?_
  obtain ⟨x9_2, hc, h⟩ := h
  refine Ls rfl rfl (X_ld rfl Tryz.underlying27 rfl rfl hc ?_)
  refine Lp (V_neq rfl rfl rfl) rfl rfl ?_
  refine Lnil ?_
  refine thenN ?_
  refine AW.iff rfl (bnot_iff decide_eq_true_iff) h (fun h => ?_) (fun h => ?_)
  · refine AW.seq ?_
    refine AW.reg ?_
    refine Lp (V_asg rfl rfl) rfl rfl ?_
    refine Lnil ?_
    refine thenN ?_
    refine AW.ret ?_
    refine thenR ?_
    exact bR1 Tryz.results88 rfl ⟨_, rfl, h⟩
  refine AW.skip ?_
  refine thenN ?_
  refine AW.seq ?_
  refine AW.reg ?_
  refine Lp (V_move rfl rfl) rfl rfl ?_
  obtain ⟨p13_3, hc, h⟩ := h
  refine Lp (V_nil rfl (by rw [← hc]; rfl)) rfl rfl ?_
  refine Lp (V_fld rfl Tryz.underlying190 rfl ty22 (by decide) rfl) rfl rfl ?_
  obtain ⟨x15_4, hc, h⟩ := h
  refine Ls rfl rfl (X_ld rfl Tryz.underlying22 rfl rfl hc ?_)
  refine Ls rfl rfl (X_call rfl Tryz.func97 rfl rfl rfl (ACalls.mono h ?_))
  rintro v σ ⟨x16_5, x16_6, x16_7, rfl, h⟩
  refine Lp (V_move rfl rfl) rfl rfl ?_
  refine Lp (V_ext rfl rfl rfl) rfl rfl ?_
  refine Lp (V_ext rfl rfl rfl) rfl rfl ?_
  refine Lp (V_ext rfl rfl rfl) rfl rfl ?_
  refine Lp (V_asg rfl rfl) rfl rfl ?_
  refine Lp (V_asg rfl rfl) rfl rfl ?_
  refine Lp (V_asg rfl rfl) rfl rfl ?_
  refine Lnil ?_
  refine thenN ?_
  refine AW.seq ?_
  refine AW.reg ?_
  refine Lp (V_move rfl rfl) rfl rfl ?_
  refine Lp (V_move rfl rfl) rfl rfl ?_
  obtain ⟨p22_8, hc, h⟩ := h
  refine Lp (V_nil rfl (by rw [← hc]; rfl)) rfl rfl ?_
  refine Lp (V_fld rfl Tryz.underlying190 rfl ty27 (by decide) rfl) rfl rfl ?_
  refine Ls rfl rfl (X_st rfl ty27 rfl rfl rfl rfl (stN_mono h fun σ h => ?_))
  refine Lnil ?_
  refine thenN ?_
  refine AW.seq ?_
  refine AW.reg ?_
  refine Lp (V_move rfl rfl) rfl rfl ?_
  refine Lp (V_move rfl rfl) rfl rfl ?_
  obtain ⟨p26_9, hc, h⟩ := h
  refine Lp (V_nil rfl (by rw [← hc]; rfl)) rfl rfl ?_
  refine Lp (V_fld rfl Tryz.underlying190 rfl ty22 (by decide) rfl) rfl rfl ?_
  obtain ⟨x28_10, hc, h⟩ := h
  refine Ls rfl rfl (X_ld rfl Tryz.underlying22 rfl rfl hc ?_)
  refine Lp (V_move rfl rfl) rfl rfl ?_
  obtain ⟨hc, h⟩ := h
  refine Lp (V_slL (lo := (some x16_6)) (hi := none) rfl Tryz.underlying22 ty5 rfl (optI_some rfl) optI_none hc) rfl rfl ?_
  obtain ⟨p31_11, hc, h⟩ := h
  refine Lp (V_nil rfl (by rw [← hc]; rfl)) rfl rfl ?_
  refine Lp (V_fld rfl Tryz.underlying190 rfl ty22 (by decide) rfl) rfl rfl ?_
  refine Ls rfl rfl (X_st rfl ty22 rfl rfl rfl rfl (stN_mono h fun σ h => ?_))
  refine Lnil ?_
  refine thenN ?_
  refine AW.seq ?_
  refine AW.reg ?_
  refine Lp (V_move rfl rfl) rfl rfl ?_
  refine Lp (V_asg rfl rfl) rfl rfl ?_
  refine Lnil ?_
  refine thenN ?_
  refine AW.ret ?_
  exact bR1 Tryz.results88 rfl ⟨_, rfl, h⟩

def f_wire_Reader_Err (B : World) (ro : AH) (a0 : Option Addr) (σ : AH) (Q : Int → AH → Prop) : Prop :=
 ∃ p4_1 : Addr, a0 = some p4_1 ∧
 ∃ (x6_2 : Int), acell ro σ (p4_1.add 1) = some (.int .i64 x6_2) ∧
 Q x6_2 σ

set_option maxRecDepth 100000 in
set_option maxHeartbeats 4000000 in
theorem wire_Reader_Err_ok {B : World} {ro : AH} {a0 : Option Addr} {σ : AH} {Q : Int → AH → Prop} (h : Sep ro σ → f_wire_Reader_Err B ro a0 σ Q) : c_wire_Reader_Err B ro a0 σ Q := by
  refine ACalls.of_sep fun hsep => ?_
  replace h := h hsep
  refine ACalls.of_body (args := [.pointer a0]) Tryz.func89 rfl (by rw [Tryz.ntmps89]; simp) ?_
  rw [Tryz.ntmps89]
  unfold f_wire_Reader_Err at h
  refine AW.seq ?_
  refine AW.reg ?_
  refine Lp (V_asg rfl rfl) rfl rfl ?_
  refine Lnil ?_
  refine thenN ?_
  refine AW.seq ?_
  refine AW.reg ?_
  refine Lp (V_move rfl rfl) rfl rfl ?_
  obtain ⟨p4_1, hc, h⟩ := h
  refine Lp (V_nil rfl (by rw [← hc]; rfl)) rfl rfl ?_
  refine Lp (V_fld rfl Tryz.underlying190 rfl ty27 (by decide) rfl) rfl rfl ?_
  obtain ⟨x6_2, hc, h⟩ := h
  refine Ls rfl rfl (X_ld rfl Tryz.underlying27 rfl rfl hc ?_)
  refine Lp (V_asg rfl rfl) rfl rfl ?_
  refine Lnil ?_
  refine thenN ?_
  refine AW.ret ?_
  exact bR1 Tryz.results89 rfl ⟨_, rfl, h⟩

def f_wire_Reader_Left (B : World) (ro : AH) (a0 : Option Addr) (σ : AH) (Q : Int → AH → Prop) : Prop :=
 ∃ p4_1 : Addr, a0 = some p4_1 ∧
 ∃ (x6_2 : Sl), acell ro σ p4_1 = some (Sl.v x6_2) ∧
 Q (x6_2.len : Int) σ

set_option maxRecDepth 100000 in
set_option maxHeartbeats 4000000 in
theorem wire_Reader_Left_ok {B : World} {ro : AH} {a0 : Option Addr} {σ : AH} {Q : Int → AH → Prop} (h : Sep ro σ → f_wire_Reader_Left B ro a0 σ Q) : c_wire_Reader_Left B ro a0 σ Q := by
  refine ACalls.of_sep fun hsep => ?_
  replace h := h hsep
  refine ACalls.of_body (args := [.pointer a0]) Tryz.func90 rfl (by rw [Tryz.ntmps90]; simp) ?_
  rw [Tryz.ntmps90]
  unfold f_wire_Reader_Left at h
  refine AW.seq ?_
  refine AW.reg ?_
  refine Lp (V_asg rfl rfl) rfl rfl ?_
  refine Lnil ?_
  refine thenN ?_
  refine AW.seq ?_
  refine AW.reg ?_
  refine Lp (V_move rfl rfl) rfl rfl ?_
  obtain ⟨p4_1, hc, h⟩ := h
  refine Lp (V_nil rfl (by rw [← hc]; rfl)) rfl rfl ?_
  refine Lp (V_fld rfl Tryz.underlying190 rfl ty22 (by decide) rfl) rfl rfl ?_
  obtain ⟨x6_2, hc, h⟩ := h
  refine Ls rfl rfl (X_ld rfl Tryz.underlying22 rfl rfl hc ?_)
  refine Lp (V_lenL rfl rfl Tryz.underlying22 rfl rfl) rfl rfl ?_
  refine Lp (V_asg rfl rfl) rfl rfl ?_
  refine Lnil ?_
  refine thenN ?_
  refine AW.ret ?_
  exact bR1 Tryz.results90 rfl ⟨_, rfl, h⟩

def f_wire_buffer_num (B : World) (ro : AH) (a0 : Option Addr) (a1 : Int) (σ : AH) (Q : AH → Prop) : Prop :=
 c_wire_right B ro a1 σ fun x5_1 σ =>
 if ¬ (x5_1 = true) then
  ∃ p8_2 : Addr, a0 = some p8_2 ∧
  stN (p8_2.add 3) (fun σ =>
   Q σ) [.bool true] 0 σ
 else
 ∃ p11_3 : Addr, a0 = some p11_3 ∧
 c_wire_put B ro (⟨none, 0, 0⟩ : Sl) a1 σ fun x14_4 σ =>
 c_bytes_Buffer_Write B ro (some p11_3) x14_4 σ fun x15_5 x15_6 σ =>
 Q σ

set_option maxRecDepth 100000 in
set_option maxHeartbeats 4000000 in
theorem wire_buffer_num_ok {B : World} {ro : AH} {a0 : Option Addr} {a1 : Int} {σ : AH} {Q : AH → Prop} (h : Sep ro σ → f_wire_buffer_num B ro a0 a1 σ Q) : c_wire_buffer_num B ro a0 a1 σ Q := by
  refine ACalls.of_sep fun hsep => ?_
  replace h := h hsep
  refine ACalls.of_body (args := [.pointer a0, .int .i64 a1]) Tryz.func91 rfl (by rw [Tryz.ntmps91]; simp) ?_
  rw [Tryz.ntmps91]
  unfold f_wire_buffer_num at h
  refine AW.seq ?_
  refine AW.seq ?_
  refine AW.reg ?_
  refine Lp (V_move rfl rfl) rfl rfl ?_
  refine Ls rfl rfl (X_call rfl Tryz.func102 rfl rfl rfl (ACalls.mono h ?_))
  rintro v σ ⟨x5_1, rfl, h⟩
  refine Lp (V_not rfl rfl) rfl rfl ?_
  refine Lnil ?_
  refine thenN ?_
  refine AW.iff rfl (bnot_iff Iff.rfl) h (fun h => ?_) (fun h => ?_)
  · refine AW.seq ?_
    refine AW.reg ?_
    refine Lp (V_move rfl rfl) rfl rfl ?_
    obtain ⟨p8_2, hc, h⟩ := h
    refine Lp (V_nil rfl (by rw [← hc]; rfl)) rfl rfl ?_
    refine Lp (V_fld rfl Tryz.underlying165 rfl ty4 (by decide) rfl) rfl rfl ?_
    refine Ls rfl rfl (X_st rfl ty4 rfl rfl rfl rfl (stN_mono h fun σ h => ?_))
    refine Lnil ?_
    refine thenN ?_
    refine AW.ret ?_
    refine thenR ?_
    exact bR0 Tryz.results91 ⟨rfl, h⟩
  refine AW.skip ?_
  refine thenN ?_
  refine AW.drawn0 (fun i => ([0, 0, 0, 0, 2, 2] : List Nat).getD i 2) [] [0, 1, 2, 3, 4, 5] Tryz.mixed (by decide +kernel) ?_
  refine Dp rfl rfl rfl rfl (V_move rfl rfl) ?_
  obtain ⟨p11_3, hc, h⟩ := h
  refine Dp rfl rfl rfl rfl (V_nil rfl (by rw [← hc]; rfl)) ?_
  refine Dp rfl rfl rfl rfl (V_fld rfl Tryz.underlying165 rfl ty163 (by decide) rfl) ?_
  refine Dp rfl rfl rfl rfl (V_move rfl rfl) ?_
  refine Dg rfl rfl rfl rfl (X_call rfl Tryz.func103 rfl rfl rfl (ACalls.mono h ?_))
  rintro v σ ⟨x14_4, rfl, h⟩
  refine Dg rfl rfl rfl rfl (X_call rfl Tryz.func92 rfl rfl rfl (ACalls.mono h ?_))
  rintro v σ ⟨x15_5, x15_6, rfl, h⟩
  refine Dend ?_
  exact bN0 Tryz.results91 ⟨rfl, h⟩

def f_wire_Reader_Blob (B : World) (ro : AH) (a0 : Option Addr) (σ : AH) (Q : Sl → AH → Prop) : Prop :=
 ∃ p7_1 : Addr, a0 = some p7_1 ∧
 ∃ (x9_2 : Sl), acell ro σ p7_1 = some (Sl.v x9_2) ∧
 c_wire_Reader_Num B ro a0 σ fun x11_3 σ =>
 ∃ p13_4 : Addr, a0 = some p13_4 ∧
 ∃ (x15_5 : Int), acell ro σ (p13_4.add 1) = some (.int .i64 x15_5) ∧
 if ¬ (x15_5 = 0) then
  Q (⟨none, 0, 0⟩ : Sl) σ
 else
 ∃ p19_6 : Addr, a0 = some p19_6 ∧
 ∃ (x21_7 : Sl), acell ro σ p19_6 = some (Sl.v x21_7) ∧
 if (x21_7.len : Int) < x11_3 then
  ∃ p27_8 : Addr, a0 = some p27_8 ∧
  stN (p27_8.add 1) (fun σ =>
   ∃ p29_9 : Addr, a0 = some p29_9 ∧
   stN p29_9 (fun σ =>
    Q (⟨none, 0, 0⟩ : Sl) σ) [Sl.v x9_2] 0 σ) [.int .i64 12] 0 σ
 else
 ∃ p32_10 : Addr, a0 = some p32_10 ∧
 ∃ (x34_11 : Sl), acell ro σ p32_10 = some (Sl.v x34_11) ∧
 cutOk none (some x11_3) x34_11.len x34_11.cap ∧
 c_bytes_Clone B ro (⟨cutA x34_11.a (0) x34_11.cap 1, Int.toNat x11_3 - 0, x34_11.cap - 0⟩ : Sl) σ fun x37_12 σ =>
 ∃ p40_13 : Addr, a0 = some p40_13 ∧
 ∃ (x42_14 : Sl), acell ro σ p40_13 = some (Sl.v x42_14) ∧
 cutOk (some x11_3) none x42_14.len x42_14.cap ∧
 ∃ p45_15 : Addr, a0 = some p45_15 ∧
 stN p45_15 (fun σ =>
  Q x37_12 σ) [Sl.v (⟨cutA x42_14.a (Int.toNat x11_3) x42_14.cap 1, x42_14.len - Int.toNat x11_3, x42_14.cap - Int.toNat x11_3⟩ : Sl)] 0 σ

set_option maxRecDepth 100000 in
set_option maxHeartbeats 4000000 in
theorem wire_Reader_Blob_ok {B : World} {ro : AH} {a0 : Option Addr} {σ : AH} {Q : Sl → AH → Prop} (h : Sep ro σ → f_wire_Reader_Blob B ro a0 σ Q) : c_wire_Reader_Blob B ro a0 σ Q := by
  refine ACalls.of_sep fun hsep => ?_
  replace h := h hsep
  refine ACalls.of_body (args := [.pointer a0]) Tryz.func94 rfl (by rw [Tryz.ntmps94]; simp) ?_
  rw [Tryz.ntmps94]
  unfold f_wire_Reader_Blob at h
  refine AW.seq ?_
  refine AW.reg ?_
  refine Lp (V_asg rfl rfl) rfl rfl ?_
  refine Lnil ?_
  refine thenN ?_
  refine AW.seq ?_
  refine AW.reg ?_
  refine Lp (V_move rfl rfl) rfl rfl ?_
  obtain ⟨p7_1, hc, h⟩ := h
  refine Lp (V_nil rfl (by rw [← hc]; rfl)) rfl rfl ?_
  refine Lp (V_fld rfl Tryz.underlying190 rfl ty22 (by decide) rfl) rfl rfl ?_
  obtain ⟨x9_2, hc, h⟩ := h
  refine Ls rfl rfl (X_ld rfl Tryz.underlying22 rfl rfl hc ?_)
  refine Lp (V_asg rfl rfl) rfl rfl ?_
  refine Lnil ?_
  refine thenN ?_
  refine AW.seq ?_
  refine AW.reg ?_
  refine Lp (V_move rfl rfl) rfl rfl ?_
  refine Ls rfl rfl (X_call rfl Tryz.func88 rfl rfl rfl (ACalls.mono h ?_))
  rintro v σ ⟨x11_3, rfl, h⟩
  refine Lp (V_asg rfl rfl) rfl rfl ?_
  refine Lnil ?_
  refine thenN ?_
  refine AW.seq ?_
  refine AW.seq ?_
  refine AW.reg ?_
  refine Lp (V_move rfl rfl) rfl rfl ?_
  obtain ⟨p13_4, hc, h⟩ := h
  refine Lp (V_nil rfl (by rw [← hc]; rfl)) rfl rfl ?_
  refine Lp (V_fld rfl Tryz.underlying190 rfl ty27 (by decide) rfl) rfl rfl ?_
  obtain ⟨x15_5, hc, h⟩ := h
  refine Ls rfl rfl (X_ld rfl Tryz.underlying27 rfl rfl hc ?_)
  refine Lp (V_neq rfl rfl rfl) rfl rfl ?_
  refine Lnil ?_
  refine thenN ?_
  refine AW.iff rfl (bnot_iff decide_eq_true_iff) h (fun h => ?_) (fun h => ?_)
  · refine AW.seq ?_
    refine AW.reg ?_
    refine Lp (V_asg rfl rfl) rfl rfl ?_
    refine Lnil ?_
    refine thenN ?_
    refine AW.ret ?_
    refine thenR ?_
    exact bR1 Tryz.results94 rfl ⟨_, rfl, h⟩
  refine AW.skip ?_
  refine thenN ?_
  refine AW.seq ?_
  refine AW.seq ?_
  refine AW.reg ?_
  refine Lp (V_move rfl rfl) rfl rfl ?_
  refine Lp (V_move rfl rfl) rfl rfl ?_
  obtain ⟨p19_6, hc, h⟩ := h
  refine Lp (V_nil rfl (by rw [← hc]; rfl)) rfl rfl ?_
  refine Lp (V_fld rfl Tryz.underlying190 rfl ty22 (by decide) rfl) rfl rfl ?_
  obtain ⟨x21_7, hc, h⟩ := h
  refine Ls rfl rfl (X_ld rfl Tryz.underlying22 rfl rfl hc ?_)
  refine Lp (V_lenL rfl rfl Tryz.underlying22 rfl rfl) rfl rfl ?_
  refine Lp (V_gtr rfl rfl rfl) rfl rfl ?_
  refine Lnil ?_
  refine thenN ?_
  refine AW.iff rfl decide_eq_true_iff h (fun h => ?_) (fun h => ?_)
  · refine AW.seq ?_
    refine AW.reg ?_
    refine Lp (V_move rfl rfl) rfl rfl ?_
    refine Lp (V_move rfl rfl) rfl rfl ?_
    refine Lp (V_move rfl rfl) rfl rfl ?_
    obtain ⟨p27_8, hc, h⟩ := h
    refine Lp (V_nil rfl (by rw [← hc]; rfl)) rfl rfl ?_
    refine Lp (V_fld rfl Tryz.underlying190 rfl ty27 (by decide) rfl) rfl rfl ?_
    refine Ls rfl rfl (X_st rfl ty27 rfl rfl rfl rfl (stN_mono h fun σ h => ?_))
    obtain ⟨p29_9, hc, h⟩ := h
    refine Lp (V_nil rfl (by rw [← hc]; rfl)) rfl rfl ?_
    refine Lp (V_fld rfl Tryz.underlying190 rfl ty22 (by decide) rfl) rfl rfl ?_
    refine Ls rfl rfl (X_st rfl ty22 rfl rfl rfl rfl (stN_mono h fun σ h => ?_))
    refine Lnil ?_
    refine thenN ?_
    refine AW.seq ?_
    refine AW.reg ?_
    refine Lp (V_asg rfl rfl) rfl rfl ?_
    refine Lnil ?_
    refine thenN ?_
    refine AW.ret ?_
    refine thenR ?_
    exact bR1 Tryz.results94 rfl ⟨_, rfl, h⟩
  refine AW.skip ?_
  refine thenN ?_
  refine AW.seq ?_
  refine AW.reg ?_
  refine Lp (V_move rfl rfl) rfl rfl ?_
  obtain ⟨p32_10, hc, h⟩ := h
  refine Lp (V_nil rfl (by rw [← hc]; rfl)) rfl rfl ?_
  refine Lp (V_fld rfl Tryz.underlying190 rfl ty22 (by decide) rfl) rfl rfl ?_
  obtain ⟨x34_11, hc, h⟩ := h
  refine Ls rfl rfl (X_ld rfl Tryz.underlying22 rfl rfl hc ?_)
  refine Lp (V_move rfl rfl) rfl rfl ?_
  obtain ⟨hc, h⟩ := h
  refine Lp (V_slL (lo := none) (hi := (some x11_3)) rfl Tryz.underlying22 ty5 rfl optI_none (optI_some rfl) hc) rfl rfl ?_
  refine Ls rfl rfl (X_call rfl Tryz.func74 rfl rfl rfl (ACalls.mono h ?_))
  rintro v σ ⟨x37_12, rfl, h⟩
  refine Lp (V_asg rfl rfl) rfl rfl ?_
  refine Lnil ?_
  refine thenN ?_
  refine AW.seq ?_
  refine AW.reg ?_
  refine Lp (V_move rfl rfl) rfl rfl ?_
  refine Lp (V_move rfl rfl) rfl rfl ?_
  obtain ⟨p40_13, hc, h⟩ := h
  refine Lp (V_nil rfl (by rw [← hc]; rfl)) rfl rfl ?_
  refine Lp (V_fld rfl Tryz.underlying190 rfl ty22 (by decide) rfl) rfl rfl ?_
  obtain ⟨x42_14, hc, h⟩ := h
  refine Ls rfl rfl (X_ld rfl Tryz.underlying22 rfl rfl hc ?_)
  refine Lp (V_move rfl rfl) rfl rfl ?_
  obtain ⟨hc, h⟩ := h
  refine Lp (V_slL (lo := (some x11_3)) (hi := none) rfl Tryz.underlying22 ty5 rfl (optI_some rfl) optI_none hc) rfl rfl ?_
  obtain ⟨p45_15, hc, h⟩ := h
  refine Lp (V_nil rfl (by rw [← hc]; rfl)) rfl rfl ?_
  refine Lp (V_fld rfl Tryz.underlying190 rfl ty22 (by decide) rfl) rfl rfl ?_
  refine Ls rfl rfl (X_st rfl ty22 rfl rfl rfl rfl (stN_mono h fun σ h => ?_))
  refine Lnil ?_
  refine thenN ?_
  refine AW.seq ?_
  refine AW.reg ?_
  refine Lp (V_move rfl rfl) rfl rfl ?_
  refine Lp (V_asg rfl rfl) rfl rfl ?_
  refine Lnil ?_
  refine thenN ?_
  refine AW.ret ?_
  exact bR1 Tryz.results94 rfl ⟨_, rfl, h⟩

def j1_wire_Number (B : World) (ro : AH) (a0 : Sl) (a1 : Int) (Q : Int → Int → Int → AH → Prop) (σ : AH) : Prop :=
 if 9 ≤ (IntKind.i64.wrap ((a0.len : Int) - a1)) then
  Q 0 0 13 σ
 else
 Q 0 0 12 σ

def j7_wire_Number (B : World) (ro : AH) (a1 : Int) (x4_3 : Int) (x21_4 : Int) (x25_6 : Int) (Q : Int → Int → Int → AH → Prop) (Y2 : (Int × Int) → AH → Prop) (x48_8 : Bool) (σ : AH) : Prop :=
 if x48_8 = true then
  Q 0 0 13 σ
 else
 Q (bitOr .i64 x4_3 (IntKind.i64.wrap ((IntKind.i64.wrap (bitAnd .u8 x25_6 127)) * 2 ^ (min (Int.toNat (IntKind.i64.wrap (7 * x21_4))) 64)))) (IntKind.i64.wrap ((IntKind.i64.wrap (a1 + x21_4)) + 1)) 0 σ

def l2_wire_Number (B : World) (ro : AH) (a0 : Sl) (a1 : Int) (Q : Int → Int → Int → AH → Prop) : (Int × Int) → AH → ((Int × Int) → AH → Prop) → Prop := fun ⟨x4_3, x21_4⟩ σ Y2 =>
 if x21_4 < ((⟨cutA a0.a (Int.toNat a1) a0.cap 1, a0.len - Int.toNat a1, a0.cap - Int.toNat a1⟩ : Sl).len : Int) then
  ∃ p24_5 : Addr, (⟨cutA a0.a (Int.toNat a1) a0.cap 1, a0.len - Int.toNat a1, a0.cap - Int.toNat a1⟩ : Sl).a = some p24_5 ∧ (0 : Int) ≤ x21_4 ∧ x21_4 < ((⟨cutA a0.a (Int.toNat a1) a0.cap 1, a0.len - Int.toNat a1, a0.cap - Int.toNat a1⟩ : Sl).len : Int) ∧
  ∃ (x25_6 : Int), acell ro σ (p24_5.add (Int.toNat x21_4 * 1)) = some (.int .u8 x25_6) ∧
  if x21_4 = 9 then
   j1_wire_Number B ro a0 a1 Q σ
  else
  (0 : Int) ≤ (IntKind.i64.wrap (7 * x21_4)) ∧
  if x25_6 < 128 then
   if (x25_6 = 0) ∧ (0 < x21_4) then
    j7_wire_Number B ro a1 x4_3 x21_4 x25_6 Q Y2 true σ
   else
   c_wire_right B ro (bitOr .i64 x4_3 (IntKind.i64.wrap ((IntKind.i64.wrap (bitAnd .u8 x25_6 127)) * 2 ^ (min (Int.toNat (IntKind.i64.wrap (7 * x21_4))) 64)))) σ fun x46_9 σ =>
   j7_wire_Number B ro a1 x4_3 x21_4 x25_6 Q Y2 (!x46_9) σ
  else
  Y2 (bitOr .i64 x4_3 (IntKind.i64.wrap ((IntKind.i64.wrap (bitAnd .u8 x25_6 127)) * 2 ^ (min (Int.toNat (IntKind.i64.wrap (7 * x21_4))) 64))), IntKind.i64.wrap (x21_4 + 1)) σ
 else
 j1_wire_Number B ro a0 a1 Q σ

def f_wire_Number (B : World) (ro : AH) (a0 : Sl) (a1 : Int) (σ : AH) (Q : Int → Int → Int → AH → Prop) : Prop :=
 if (a1 < 0) ∨ ((a0.len : Int) < a1) then
  Q 0 0 11 σ
 else
 cutOk (some a1) none a0.len a0.cap ∧
 lfpD (l2_wire_Number B ro a0 a1 Q ) (0, 0) σ

set_option maxRecDepth 100000 in
set_option maxHeartbeats 4000000 in
theorem wire_Number_ok {B : World} {ro : AH} {a0 : Sl} {a1 : Int} {σ : AH} {Q : Int → Int → Int → AH → Prop} (h : Sep ro σ → f_wire_Number B ro a0 a1 σ Q) : c_wire_Number B ro a0 a1 σ Q := by
  refine ACalls.of_sep fun hsep => ?_
  replace h := h hsep
  refine ACalls.of_body (args := [Sl.v a0, .int .i64 a1]) Tryz.func97 rfl (by rw [Tryz.ntmps97]; simp) ?_
  rw [Tryz.ntmps97]
  unfold f_wire_Number at h
  refine AW.seq ?_
  refine AW.reg ?_
  refine Lp (V_asg rfl rfl) rfl rfl ?_
  refine Lp (V_asg rfl rfl) rfl rfl ?_
  refine Lp (V_asg rfl rfl) rfl rfl ?_
  refine Lnil ?_
  refine thenN ?_
  refine AW.seq ?_
  refine AW.seq ?_
  refine AW.reg ?_
  refine Lp (V_move rfl rfl) rfl rfl ?_
  refine Lp (V_lss rfl rfl rfl) rfl rfl ?_
  refine Lp (V_move rfl rfl) rfl rfl ?_
  refine Lsplit 5 (decide (a1 < 0)) [(0, Sl.v a0), (1, .int .i64 a1), (4, .int .i64 0), (16, .bool ((decide (a1 < 0)) || (decide ((a0.len : Int) < a1))))] ?_ ?_ ?_
  · intro e2 hk2
    refine Ln rfl rfl rfl rfl (.inl (by rw [e2]; rfl)) ?_
    refine Ln rfl rfl rfl rfl (.inl (by rw [e2]; rfl)) ?_
    refine Ln rfl rfl rfl rfl (.inl (by rw [e2]; rfl)) ?_
    refine Ln rfl rfl rfl rfl (.inl (by rw [e2]; rfl)) ?_
    refine Lp (V_pickT rfl (evb e2) rfl) rfl rfl ?_
    exact hk2 _ (FrLe.cons rfl (FrLe.cons rfl (FrLe.cons rfl (FrLe.cons (by rw [e2]; rfl) (FrLe.nil _)))))
  · intro e2 hk2
    refine Lypb (V_move rfl rfl) rfl rfl rfl rfl e2 ?_
    refine Lypb (V_move rfl rfl) rfl rfl rfl rfl e2 ?_
    refine Lypb (V_lenL rfl rfl Tryz.underlying22 rfl rfl) rfl rfl rfl rfl e2 ?_
    refine Lypb (V_gtr rfl rfl rfl) rfl rfl rfl rfl e2 ?_
    refine Lp (V_pickF rfl (evb e2) rfl) rfl rfl ?_
    exact hk2 _ (FrLe.cons rfl (FrLe.cons rfl (FrLe.cons rfl (FrLe.cons (by rw [e2]; rfl) (FrLe.nil _)))))
  intro fr hl
  refine Lfr hl ?_
  refine Lnil ?_
  refine thenN ?_
  refine AW.iff rfl (bor_iff decide_eq_true_iff decide_eq_true_iff) h (fun h => ?_) (fun h => ?_)
  · refine AW.seq ?_
    refine AW.reg ?_
    refine Lp (V_asg rfl rfl) rfl rfl ?_
    refine Lp (V_asg rfl rfl) rfl rfl ?_
    refine Lp (V_asg rfl rfl) rfl rfl ?_
    refine Lnil ?_
    refine thenN ?_
    refine AW.ret ?_
    refine thenR ?_
    exact bR3 Tryz.results97 rfl rfl rfl ⟨_, _, _, rfl, h⟩
  refine AW.skip ?_
  refine thenN ?_
  refine AW.seqJ (fun fr σ => FrLe [(0, Sl.v a0), (1, .int .i64 a1)] fr ∧ j1_wire_Number B ro a0 a1 Q σ) ?_ ?_
  · rintro fr σ ⟨hl, h⟩
    refine AW.weaken ?_ hl (HLe.refl _)
    unfold j1_wire_Number at h
    refine AW.seq ?_
    refine AW.seq ?_
    refine AW.reg ?_
    refine Lp (V_move rfl rfl) rfl rfl ?_
    refine Lp (V_lenL rfl rfl Tryz.underlying22 rfl rfl) rfl rfl ?_
    refine Lp (V_move rfl rfl) rfl rfl ?_
    refine Lp (V_sub rfl rfl rfl) rfl rfl ?_
    refine Lp (V_geq rfl rfl rfl) rfl rfl ?_
    refine Lnil ?_
    refine thenN ?_
    refine AW.iff rfl decide_eq_true_iff h (fun h => ?_) (fun h => ?_)
    · refine AW.seq ?_
      refine AW.reg ?_
      refine Lp (V_asg rfl rfl) rfl rfl ?_
      refine Lp (V_asg rfl rfl) rfl rfl ?_
      refine Lp (V_asg rfl rfl) rfl rfl ?_
      refine Lnil ?_
      refine thenN ?_
      refine AW.ret ?_
      refine thenR ?_
      exact bR3 Tryz.results97 rfl rfl rfl ⟨_, _, _, rfl, h⟩
    refine AW.skip ?_
    refine thenN ?_
    refine AW.seq ?_
    refine AW.reg ?_
    refine Lp (V_asg rfl rfl) rfl rfl ?_
    refine Lp (V_asg rfl rfl) rfl rfl ?_
    refine Lp (V_asg rfl rfl) rfl rfl ?_
    refine Lnil ?_
    refine thenN ?_
    refine AW.ret ?_
    exact bR3 Tryz.results97 rfl rfl rfl ⟨_, _, _, rfl, h⟩
  refine AW.seq ?_
  refine AW.reg ?_
  refine Lp (V_move rfl rfl) rfl rfl ?_
  refine Lp (V_move rfl rfl) rfl rfl ?_
  obtain ⟨hc, h⟩ := h
  refine Lp (V_slL (lo := (some a1)) (hi := none) rfl Tryz.underlying22 ty5 rfl (optI_some rfl) optI_none hc) rfl rfl ?_
  refine Lp (V_lenL rfl rfl Tryz.underlying22 rfl rfl) rfl rfl ?_
  refine Lp (V_move rfl rfl) rfl rfl ?_
  refine Lnil ?_
  refine thenN ?_
  refine AW.block ?_
  refine ARound.loop (fr' := [(0, Sl.v a0), (1, .int .i64 a1), (19, Sl.v (⟨cutA a0.a (Int.toNat a1) a0.cap 1, a0.len - Int.toNat a1, a0.cap - Int.toNat a1⟩ : Sl)), (20, .int .i64 ((⟨cutA a0.a (Int.toNat a1) a0.cap 1, a0.len - Int.toNat a1, a0.cap - Int.toNat a1⟩ : Sl).len : Int)), (4, .int .i64 0), (21, .int .i64 0)]) ?_ (FrLe.cons rfl (FrLe.cons rfl (FrLe.cons rfl (FrLe.cons rfl (FrLe.cons rfl (FrLe.cons rfl (FrLe.nil _)))))))
  refine h (fun ⟨x4_3, x21_4⟩ σ => ARound _ _ _ _ _ _ [(0, Sl.v a0), (1, .int .i64 a1), (19, Sl.v (⟨cutA a0.a (Int.toNat a1) a0.cap 1, a0.len - Int.toNat a1, a0.cap - Int.toNat a1⟩ : Sl)), (20, .int .i64 ((⟨cutA a0.a (Int.toNat a1) a0.cap 1, a0.len - Int.toNat a1, a0.cap - Int.toNat a1⟩ : Sl).len : Int)), (4, .int .i64 x4_3), (21, .int .i64 x21_4)] σ) ?_
  rintro ⟨x4_3, x21_4⟩ σ Y2 hY2 h
  show AW _ _ _ _ _ _ _ _
  unfold l2_wire_Number at h
  dsimp only at h
  refine AW.seq ?_
  refine AW.reg ?_
  refine Lp (V_lss rfl rfl rfl) rfl rfl ?_
  refine Lnil ?_
  refine thenN ?_
  refine AW.seq ?_
  refine AW.iff rfl decide_eq_true_iff h (fun h => ?_) (fun h => ?_)
  rotate_left
  · refine AW.exit ?_
    refine thenE ?_
    refine thenE ?_
    refine blockE ?_
    refine thenN ?_
    exact ⟨(FrLe.cons rfl (FrLe.cons rfl (FrLe.nil _))), h⟩
  refine AW.skip ?_
  refine thenN ?_
  refine AW.seq ?_
  refine AW.block ?_
  refine AW.seq ?_
  refine AW.reg ?_
  refine Lp (V_move rfl rfl) rfl rfl ?_
  obtain ⟨p24_5, ha, h0, h1, h⟩ := h
  refine Lp (V_ixA rfl Tryz.underlying22 ty5 (ixL rfl ha) rfl h0 h1) rfl rfl ?_
  obtain ⟨x25_6, hc, h⟩ := h
  refine Ls rfl rfl (X_ld rfl Tryz.underlying5 rfl rfl hc ?_)
  refine Lp (V_asg rfl rfl) rfl rfl ?_
  refine Lp (V_asg rfl rfl) rfl rfl ?_
  refine Lnil ?_
  refine thenN ?_
  refine AW.seq ?_
  refine AW.seq ?_
  refine AW.reg ?_
  refine Lp (V_move rfl rfl) rfl rfl ?_
  refine Lp (V_eql rfl rfl rfl) rfl rfl ?_
  refine Lnil ?_
  refine thenN ?_
  refine AW.iff rfl decide_eq_true_iff h (fun h => ?_) (fun h => ?_)
  · refine AW.exit ?_
    refine thenE ?_
    refine blockO rfl ?_
    refine thenE ?_
    refine thenE ?_
    refine blockE ?_
    refine thenN ?_
    exact ⟨(FrLe.cons rfl (FrLe.cons rfl (FrLe.nil _))), h⟩
  refine AW.skip ?_
  refine thenN ?_
  refine AW.seq ?_
  refine AW.reg ?_
  refine Lp (V_move rfl rfl) rfl rfl ?_
  refine Lp (V_move rfl rfl) rfl rfl ?_
  refine Lp (V_and rfl rfl rfl) rfl rfl ?_
  refine Lp (V_cvt rfl rfl Tryz.underlying5 Tryz.underlying3) rfl rfl ?_
  refine Lp (V_move rfl rfl) rfl rfl ?_
  refine Lp (V_mul rfl rfl rfl) rfl rfl ?_
  obtain ⟨hc, h⟩ := h
  refine Lp (V_shl rfl rfl rfl hc) rfl rfl ?_
  refine Lp (V_or rfl rfl rfl) rfl rfl ?_
  refine Lp (V_asg rfl rfl) rfl rfl ?_
  refine Lnil ?_
  refine thenN ?_
  refine AW.seq ?_
  refine AW.reg ?_
  refine Lp (V_move rfl rfl) rfl rfl ?_
  refine Lp (V_lss rfl rfl rfl) rfl rfl ?_
  refine Lnil ?_
  refine thenN ?_
  refine AW.iff rfl decide_eq_true_iff h (fun h => ?_) (fun h => ?_)
  rotate_left
  · refine AW.skip ?_
    refine blockN ?_
    refine thenN ?_
    refine AW.reg ?_
    refine Lp (V_add rfl rfl rfl) rfl rfl ?_
    refine Lp (V_move rfl rfl) rfl rfl ?_
    refine Lnil ?_
    refine thenN ?_
    refine ARound.head (fr' := [(0, Sl.v a0), (1, .int .i64 a1), (19, Sl.v (⟨cutA a0.a (Int.toNat a1) a0.cap 1, a0.len - Int.toNat a1, a0.cap - Int.toNat a1⟩ : Sl)), (20, .int .i64 ((⟨cutA a0.a (Int.toNat a1) a0.cap 1, a0.len - Int.toNat a1, a0.cap - Int.toNat a1⟩ : Sl).len : Int)), (4, .int .i64 (bitOr .i64 x4_3 (IntKind.i64.wrap ((IntKind.i64.wrap (bitAnd .u8 x25_6 127)) * 2 ^ (min (Int.toNat (IntKind.i64.wrap (7 * x21_4))) 64))))), (21, .int .i64 (IntKind.i64.wrap (x21_4 + 1)))]) ?_ (FrLe.cons rfl (FrLe.cons rfl (FrLe.cons rfl (FrLe.cons rfl (FrLe.cons rfl (FrLe.cons rfl (FrLe.nil _)))))))
    exact hY2 _ _ h
  refine AW.seq ?_
  refine AW.seq ?_
  refine AW.reg ?_
  refine Lp (V_move rfl rfl) rfl rfl ?_
  refine Lp (V_eql rfl rfl rfl) rfl rfl ?_
  refine Lp (V_move rfl rfl) rfl rfl ?_
  refine Lsplit 3 (decide (x25_6 = 0)) [(1, .int .i64 a1), (4, .int .i64 (bitOr .i64 x4_3 (IntKind.i64.wrap ((IntKind.i64.wrap (bitAnd .u8 x25_6 127)) * 2 ^ (min (Int.toNat (IntKind.i64.wrap (7 * x21_4))) 64))))), (7, .int .i64 x21_4), (43, .bool ((decide (x25_6 = 0)) && (decide (0 < x21_4))))] ?_ ?_ ?_
  · intro e2 hk2
    refine Lypb (V_move rfl rfl) rfl rfl rfl rfl e2 ?_
    refine Lypb (V_gtr rfl rfl rfl) rfl rfl rfl rfl e2 ?_
    refine Lp (V_pickT rfl (evb e2) rfl) rfl rfl ?_
    exact hk2 _ (FrLe.cons rfl (FrLe.cons rfl (FrLe.cons rfl (FrLe.cons (by rw [e2]; rfl) (FrLe.nil _)))))
  · intro e2 hk2
    refine Ln rfl rfl rfl rfl (.inl (by rw [e2]; rfl)) ?_
    refine Ln rfl rfl rfl rfl (.inl (by rw [e2]; rfl)) ?_
    refine Lp (V_pickF rfl (evb e2) rfl) rfl rfl ?_
    exact hk2 _ (FrLe.cons rfl (FrLe.cons rfl (FrLe.cons rfl (FrLe.cons (by rw [e2]; rfl) (FrLe.nil _)))))
  intro fr hl
  refine Lfr hl ?_
  refine Lp (V_move rfl rfl) rfl rfl ?_
  refine LsplitJ 4 ((decide (x25_6 = 0)) && (decide (0 < x21_4))) (band_iff decide_eq_true_iff decide_eq_true_iff) h (fun fr σ => ∃ (x48_8 : Bool), FrLe [(1, .int .i64 a1), (4, .int .i64 (bitOr .i64 x4_3 (IntKind.i64.wrap ((IntKind.i64.wrap (bitAnd .u8 x25_6 127)) * 2 ^ (min (Int.toNat (IntKind.i64.wrap (7 * x21_4))) 64))))), (7, .int .i64 x21_4), (48, .bool x48_8)] fr ∧ j7_wire_Number B ro a1 x4_3 x21_4 x25_6 Q Y2 x48_8 σ) ?_ ?_ ?_
  · intro h e6 hk6
    refine Ln rfl rfl rfl rfl (.inl (by rw [e6]; rfl)) ?_
    refine Ln rfl rfl rfl rfl (.inl (by rw [e6]; rfl)) ?_
    refine Ln rfl rfl rfl rfl (.inl (by rw [e6]; rfl)) ?_
    refine Lp (V_pickT rfl (evb e6) rfl) rfl rfl ?_
    exact hk6 _ _ ⟨_, (FrLe.cons rfl (FrLe.cons rfl (FrLe.cons rfl (FrLe.cons rfl (FrLe.nil _))))), h⟩
  · intro h e6 hk6
    refine Lypb (V_move rfl rfl) rfl rfl rfl rfl e6 ?_
    refine Lyb rfl rfl rfl rfl e6 (X_call rfl Tryz.func102 rfl rfl rfl (ACalls.mono h ?_))
    rintro v σ ⟨x46_9, rfl, h⟩
    refine Lypb (V_not rfl rfl) rfl rfl rfl rfl e6 ?_
    refine Lp (V_pickF rfl (evb e6) rfl) rfl rfl ?_
    exact hk6 _ _ ⟨_, (FrLe.cons rfl (FrLe.cons rfl (FrLe.cons rfl (FrLe.cons rfl (FrLe.nil _))))), h⟩
  rintro fr σ ⟨x48_8, hl, h⟩
  unfold j7_wire_Number at h
  refine Lfr hl ?_
  refine Lnil ?_
  refine thenN ?_
  refine AW.iff rfl Iff.rfl h (fun h => ?_) (fun h => ?_)
  · refine AW.seq ?_
    refine AW.reg ?_
    refine Lp (V_asg rfl rfl) rfl rfl ?_
    refine Lp (V_asg rfl rfl) rfl rfl ?_
    refine Lp (V_asg rfl rfl) rfl rfl ?_
    refine Lnil ?_
    refine thenN ?_
    refine AW.ret ?_
    refine thenR ?_
    refine blockR ?_
    refine thenR ?_
    refine thenR ?_
    refine blockR ?_
    refine thenR ?_
    exact bR3 Tryz.results97 rfl rfl rfl ⟨_, _, _, rfl, h⟩
  refine AW.skip ?_
  refine thenN ?_
  refine AW.seq ?_
  refine AW.reg ?_
  refine Lp (V_move rfl rfl) rfl rfl ?_
  refine Lp (V_move rfl rfl) rfl rfl ?_
  refine Lp (V_move rfl rfl) rfl rfl ?_
  refine Lp (V_add rfl rfl rfl) rfl rfl ?_
  refine Lp (V_add rfl rfl rfl) rfl rfl ?_
  refine Lp (V_asg rfl rfl) rfl rfl ?_
  refine Lp (V_asg rfl rfl) rfl rfl ?_
  refine Lp (V_asg rfl rfl) rfl rfl ?_
  refine Lnil ?_
  refine thenN ?_
  refine AW.ret ?_
  refine blockR ?_
  refine thenR ?_
  refine thenR ?_
  refine blockR ?_
  refine thenR ?_
  exact bR3 Tryz.results97 rfl rfl rfl ⟨_, _, _, rfl, h⟩

def f_wire_right (B : World) (ro : AH) (a0 : Int) (σ : AH) (Q : Bool → AH → Prop) : Prop :=
 Q ((decide (0 ≤ a0)) && (decide (a0 ≤ 4611686018427387903))) σ

set_option maxRecDepth 100000 in
set_option maxHeartbeats 4000000 in
theorem wire_right_ok {B : World} {ro : AH} {a0 : Int} {σ : AH} {Q : Bool → AH → Prop} (h : Sep ro σ → f_wire_right B ro a0 σ Q) : c_wire_right B ro a0 σ Q := by
  refine ACalls.of_sep fun hsep => ?_
  replace h := h hsep
  refine ACalls.of_body (args := [.int .i64 a0]) Tryz.func102 rfl (by rw [Tryz.ntmps102]; simp) ?_
  rw [Tryz.ntmps102]
  unfold f_wire_right at h
  refine AW.seq ?_
  refine AW.reg ?_
  refine Lp (V_asg rfl rfl) rfl rfl ?_
  refine Lnil ?_
  refine thenN ?_
  refine AW.seq ?_
  refine AW.reg ?_
  refine Lp (V_move rfl rfl) rfl rfl ?_
  refine Lp (V_geq rfl rfl rfl) rfl rfl ?_
  refine Lp (V_move rfl rfl) rfl rfl ?_
  refine Lsplit 3 (decide (0 ≤ a0)) [(8, .bool ((decide (0 ≤ a0)) && (decide (a0 ≤ 4611686018427387903))))] ?_ ?_ ?_
  · intro e2 hk2
    refine Lypb (V_move rfl rfl) rfl rfl rfl rfl e2 ?_
    refine Lypb (V_leq rfl rfl rfl) rfl rfl rfl rfl e2 ?_
    refine Lp (V_pickT rfl (evb e2) rfl) rfl rfl ?_
    exact hk2 _ (FrLe.cons (by rw [e2]; rfl) (FrLe.nil _))
  · intro e2 hk2
    refine Ln rfl rfl rfl rfl (.inl (by rw [e2]; rfl)) ?_
    refine Ln rfl rfl rfl rfl (.inl (by rw [e2]; rfl)) ?_
    refine Lp (V_pickF rfl (evb e2) rfl) rfl rfl ?_
    exact hk2 _ (FrLe.cons (by rw [e2]; rfl) (FrLe.nil _))
  intro fr hl
  refine Lfr hl ?_
  refine Lp (V_asg rfl rfl) rfl rfl ?_
  refine Lnil ?_
  refine thenN ?_
  refine AW.ret ?_
  exact bR1 Tryz.results102 rfl ⟨_, rfl, h⟩

def j1_wire_put (B : World) (ro : AH) (Q : Sl → AH → Prop) (x0_2 : Sl) (x1_3 : Int) (σ : AH) : Prop :=
 nw ro σ (.cells #[.int .u8 (IntKind.u8.wrap x1_3)] 5) fun x18_4 σ =>
 awp Tryz.prog ro (Builtin.append_ #[22, 22] 22 #[Sl.v x0_2, Sl.v (⟨some ⟨x18_4, 0, none⟩, 1, 1⟩ : Sl)]) (fun v σ => ∃ (x19_5 : Sl), v = Sl.v x19_5 ∧
  Q x19_5 σ) σ

def l6_wire_put (B : World) (ro : AH) (Q : Sl → AH → Prop) : (Sl × Int) → AH → ((Sl × Int) → AH → Prop) → Prop := fun ⟨x0_7, x1_8⟩ σ Y6 =>
 if 128 ≤ x1_8 then
  nw ro σ (.cells #[.int .u8 (bitOr .u8 (IntKind.u8.wrap x1_8) 128)] 5) fun x13_9 σ =>
  awp Tryz.prog ro (Builtin.append_ #[22, 22] 22 #[Sl.v x0_7, Sl.v (⟨some ⟨x13_9, 0, none⟩, 1, 1⟩ : Sl)]) (fun v σ => ∃ (x14_10 : Sl), v = Sl.v x14_10 ∧
   Y6 (x14_10, Int.fdiv x1_8 (2 ^ (min (Int.toNat 7) 64))) σ) σ
 else
 j1_wire_put B ro Q x0_7 x1_8 σ

def f_wire_put (B : World) (ro : AH) (a0 : Sl) (a1 : Int) (σ : AH) (Q : Sl → AH → Prop) : Prop :=
 lfpD (l6_wire_put B ro Q ) (a0, a1) σ

set_option maxRecDepth 100000 in
set_option maxHeartbeats 4000000 in
theorem wire_put_ok {B : World} {ro : AH} {a0 : Sl} {a1 : Int} {σ : AH} {Q : Sl → AH → Prop} (h : Sep ro σ → f_wire_put B ro a0 a1 σ Q) : c_wire_put B ro a0 a1 σ Q := by
  refine ACalls.of_sep fun hsep => ?_
  replace h := h hsep
  refine ACalls.of_body (args := [Sl.v a0, .int .i64 a1]) Tryz.func103 rfl (by rw [Tryz.ntmps103]; simp) ?_
  rw [Tryz.ntmps103]
  unfold f_wire_put at h
  refine AW.seq ?_
  refine AW.reg ?_
  refine Lp (V_asg rfl rfl) rfl rfl ?_
  refine Lnil ?_
  refine thenN ?_
  refine AW.seqJ (fun fr σ => ∃ (x0_2 : Sl) (x1_3 : Int), FrLe [(0, Sl.v x0_2), (1, .int .i64 x1_3)] fr ∧ j1_wire_put B ro Q x0_2 x1_3 σ) ?_ ?_
  · rintro fr σ ⟨x0_2, x1_3, hl, h⟩
    refine AW.weaken ?_ hl (HLe.refl _)
    unfold j1_wire_put at h
    refine AW.seq ?_
    refine AW.reg ?_
    refine Lp (V_move rfl rfl) rfl rfl ?_
    refine Lp (V_move rfl rfl) rfl rfl ?_
    refine Lp (V_cvt rfl rfl Tryz.underlying3 Tryz.underlying5) rfl rfl ?_
    refine Ls rfl rfl (X_new (A_bsl (vs := [(0, .int .u8 (IntKind.u8.wrap x1_3))]) (cs := #[.int .u8 (IntKind.u8.wrap x1_3)]) rfl Tryz.underlying22 ty5 (by decide) rfl rfl) fun x18_4 g1 g2 => ?_)
    replace h := h x18_4 g1 g2
    refine Ls rfl rfl (X_bi (s := Builtin.append_ #[22, 22] 22 #[Sl.v x0_2, Sl.v (⟨some ⟨x18_4, 0, none⟩, 1, 1⟩ : Sl)]) rfl rfl (fun _ => rfl) (awp_mono _ h ?_))
    rintro v σ ⟨x19_5, rfl, h⟩
    refine Lp (V_asg rfl rfl) rfl rfl ?_
    refine Lnil ?_
    refine thenN ?_
    refine AW.ret ?_
    exact bR1 Tryz.results103 rfl ⟨_, rfl, h⟩
  refine AW.block ?_
  refine ARound.loop (fr' := [(0, Sl.v a0), (1, .int .i64 a1)]) ?_ (FrLe.cons rfl (FrLe.cons rfl (FrLe.nil _)))
  refine h (fun ⟨x0_7, x1_8⟩ σ => ARound _ _ _ _ _ _ [(0, Sl.v x0_7), (1, .int .i64 x1_8)] σ) ?_
  rintro ⟨x0_7, x1_8⟩ σ Y6 hY6 h
  show AW _ _ _ _ _ _ _ _
  unfold l6_wire_put at h
  dsimp only at h
  refine AW.seq ?_
  refine AW.seq ?_
  refine AW.reg ?_
  refine Lp (V_move rfl rfl) rfl rfl ?_
  refine Lp (V_geq rfl rfl rfl) rfl rfl ?_
  refine Lnil ?_
  refine thenN ?_
  refine AW.iff rfl decide_eq_true_iff h (fun h => ?_) (fun h => ?_)
  rotate_left
  · refine AW.exit ?_
    refine thenE ?_
    refine thenE ?_
    refine blockE ?_
    refine thenN ?_
    exact ⟨_, _, (FrLe.cons rfl (FrLe.cons rfl (FrLe.nil _))), h⟩
  refine AW.skip ?_
  refine thenN ?_
  refine AW.seq ?_
  refine AW.block ?_
  refine AW.reg ?_
  refine Lp (V_move rfl rfl) rfl rfl ?_
  refine Lp (V_move rfl rfl) rfl rfl ?_
  refine Lp (V_cvt rfl rfl Tryz.underlying3 Tryz.underlying5) rfl rfl ?_
  refine Lp (V_or rfl rfl rfl) rfl rfl ?_
  refine Ls rfl rfl (X_new (A_bsl (vs := [(0, .int .u8 (bitOr .u8 (IntKind.u8.wrap x1_8) 128))]) (cs := #[.int .u8 (bitOr .u8 (IntKind.u8.wrap x1_8) 128)]) rfl Tryz.underlying22 ty5 (by decide) rfl rfl) fun x13_9 g1 g2 => ?_)
  replace h := h x13_9 g1 g2
  refine Ls rfl rfl (X_bi (s := Builtin.append_ #[22, 22] 22 #[Sl.v x0_7, Sl.v (⟨some ⟨x13_9, 0, none⟩, 1, 1⟩ : Sl)]) rfl rfl (fun _ => rfl) (awp_mono _ h ?_))
  rintro v σ ⟨x14_10, rfl, h⟩
  refine Lp (V_asg rfl rfl) rfl rfl ?_
  refine Lnil ?_
  refine blockN ?_
  refine thenN ?_
  refine AW.reg ?_
  refine Lp (V_move rfl rfl) rfl rfl ?_
  refine Lp (V_shr rfl rfl rfl (by decide)) rfl rfl ?_
  refine Lp (V_asg rfl rfl) rfl rfl ?_
  refine Lnil ?_
  refine thenN ?_
  refine ARound.head (fr' := [(0, Sl.v x14_10), (1, .int .i64 (Int.fdiv x1_8 (2 ^ (min (Int.toNat 7) 64))))]) ?_ (FrLe.cons rfl (FrLe.cons rfl (FrLe.nil _)))
  exact hY6 _ _ h

def f_wire_four (B : World) (ro : AH) (a0 : Int) (σ : AH) (Q : Sl → AH → Prop) : Prop :=
 nw ro σ (.cells #[.int .u8 (IntKind.u8.wrap a0), .int .u8 (IntKind.u8.wrap (Int.fdiv a0 (2 ^ (min (Int.toNat 8) 64)))), .int .u8 (IntKind.u8.wrap (Int.fdiv a0 (2 ^ (min (Int.toNat 16) 64)))), .int .u8 (IntKind.u8.wrap (Int.fdiv a0 (2 ^ (min (Int.toNat 24) 64))))] 5) fun x14_1 σ =>
 Q (⟨some ⟨x14_1, 0, none⟩, 4, 4⟩ : Sl) σ

set_option maxRecDepth 100000 in
set_option maxHeartbeats 4000000 in
theorem wire_four_ok {B : World} {ro : AH} {a0 : Int} {σ : AH} {Q : Sl → AH → Prop} (h : Sep ro σ → f_wire_four B ro a0 σ Q) : c_wire_four B ro a0 σ Q := by
  refine ACalls.of_sep fun hsep => ?_
  replace h := h hsep
  refine ACalls.of_body (args := [.int .i64 a0]) Tryz.func104 rfl (by rw [Tryz.ntmps104]; simp) ?_
  rw [Tryz.ntmps104]
  unfold f_wire_four at h
  refine AW.seq ?_
  refine AW.reg ?_
  refine Lp (V_asg rfl rfl) rfl rfl ?_
  refine Lnil ?_
  refine thenN ?_
  refine AW.seq ?_
  refine AW.reg ?_
  refine Lp (V_move rfl rfl) rfl rfl ?_
  refine Lp (V_cvt rfl rfl Tryz.underlying3 Tryz.underlying5) rfl rfl ?_
  refine Lp (V_move rfl rfl) rfl rfl ?_
  refine Lp (V_shr rfl rfl rfl (by decide)) rfl rfl ?_
  refine Lp (V_cvt rfl rfl Tryz.underlying3 Tryz.underlying5) rfl rfl ?_
  refine Lp (V_move rfl rfl) rfl rfl ?_
  refine Lp (V_shr rfl rfl rfl (by decide)) rfl rfl ?_
  refine Lp (V_cvt rfl rfl Tryz.underlying3 Tryz.underlying5) rfl rfl ?_
  refine Lp (V_move rfl rfl) rfl rfl ?_
  refine Lp (V_shr rfl rfl rfl (by decide)) rfl rfl ?_
  refine Lp (V_cvt rfl rfl Tryz.underlying3 Tryz.underlying5) rfl rfl ?_
  refine Ls rfl rfl (X_new (A_bsl (vs := [(0, .int .u8 (IntKind.u8.wrap a0)), (1, .int .u8 (IntKind.u8.wrap (Int.fdiv a0 (2 ^ (min (Int.toNat 8) 64))))), (2, .int .u8 (IntKind.u8.wrap (Int.fdiv a0 (2 ^ (min (Int.toNat 16) 64))))), (3, .int .u8 (IntKind.u8.wrap (Int.fdiv a0 (2 ^ (min (Int.toNat 24) 64)))))]) (cs := #[.int .u8 (IntKind.u8.wrap a0), .int .u8 (IntKind.u8.wrap (Int.fdiv a0 (2 ^ (min (Int.toNat 8) 64)))), .int .u8 (IntKind.u8.wrap (Int.fdiv a0 (2 ^ (min (Int.toNat 16) 64)))), .int .u8 (IntKind.u8.wrap (Int.fdiv a0 (2 ^ (min (Int.toNat 24) 64))))]) rfl Tryz.underlying22 ty5 (by decide) rfl rfl) fun x14_1 g1 g2 => ?_)
  replace h := h x14_1 g1 g2
  refine Lp (V_asg rfl rfl) rfl rfl ?_
  refine Lnil ?_
  refine thenN ?_
  refine AW.ret ?_
  exact bR1 Tryz.results104 rfl ⟨_, rfl, h⟩

def f_wire_value (B : World) (ro : AH) (a0 : Sl) (σ : AH) (Q : Int → AH → Prop) : Prop :=
 ∃ p4_1 : Addr, a0.a = some p4_1 ∧ (0 : Int) ≤ 0 ∧ 0 < (a0.len : Int) ∧
 ∃ p8_2 : Addr, a0.a = some p8_2 ∧ (0 : Int) ≤ 1 ∧ 1 < (a0.len : Int) ∧
 ∃ p14_3 : Addr, a0.a = some p14_3 ∧ (0 : Int) ≤ 2 ∧ 2 < (a0.len : Int) ∧
 ∃ p20_4 : Addr, a0.a = some p20_4 ∧ (0 : Int) ≤ 3 ∧ 3 < (a0.len : Int) ∧
 ∃ (x5_5 : Int), acell ro σ (p4_1.add (Int.toNat 0 * 1)) = some (.int .u8 x5_5) ∧
 ∃ (x9_6 : Int), acell ro σ (p8_2.add (Int.toNat 1 * 1)) = some (.int .u8 x9_6) ∧
 ∃ (x15_7 : Int), acell ro σ (p14_3.add (Int.toNat 2 * 1)) = some (.int .u8 x15_7) ∧
 ∃ (x21_8 : Int), acell ro σ (p20_4.add (Int.toNat 3 * 1)) = some (.int .u8 x21_8) ∧
 Q (bitOr .i64 (bitOr .i64 (bitOr .i64 (IntKind.i64.wrap x5_5) (IntKind.i64.wrap ((IntKind.i64.wrap x9_6) * 2 ^ (min (Int.toNat 8) 64)))) (IntKind.i64.wrap ((IntKind.i64.wrap x15_7) * 2 ^ (min (Int.toNat 16) 64)))) (IntKind.i64.wrap ((IntKind.i64.wrap x21_8) * 2 ^ (min (Int.toNat 24) 64)))) σ

set_option maxRecDepth 100000 in
set_option maxHeartbeats 4000000 in
theorem wire_value_ok {B : World} {ro : AH} {a0 : Sl} {σ : AH} {Q : Int → AH → Prop} (h : Sep ro σ → f_wire_value B ro a0 σ Q) : c_wire_value B ro a0 σ Q := by
  refine ACalls.of_sep fun hsep => ?_
  replace h := h hsep
  refine ACalls.of_body (args := [Sl.v a0]) Tryz.func120 rfl (by rw [Tryz.ntmps120]; simp) ?_
  rw [Tryz.ntmps120]
  unfold f_wire_value at h
  refine AW.seq ?_
  refine AW.reg ?_
  refine Lp (V_asg rfl rfl) rfl rfl ?_
  refine Lnil ?_
  refine thenN ?_
  refine AW.seq ?_
  refine AW.drawn0 (fun i => ([0, 0, 3, 0, 0, 0, 3, 0, 0, 0, 0, 0, 3, 0, 0, 0, 0, 0, 3, 0, 0, 0, 0] : List Nat).getD i 2) [] [0, 1, 4, 5, 10, 11, 16, 17, 2, 3, 6, 7, 8, 9, 12, 13, 14, 15, 18, 19, 20, 21, 22] Tryz.mixed (by decide +kernel) ?_
  refine Dp rfl rfl rfl rfl (V_move rfl rfl) ?_
  obtain ⟨p4_1, ha, h0, h1, h⟩ := h
  refine Dp rfl rfl rfl rfl (V_ixA rfl Tryz.underlying22 ty5 (ixL rfl ha) rfl h0 h1) ?_
  refine Dp rfl rfl rfl rfl (V_move rfl rfl) ?_
  obtain ⟨p8_2, ha, h0, h1, h⟩ := h
  refine Dp rfl rfl rfl rfl (V_ixA rfl Tryz.underlying22 ty5 (ixL rfl ha) rfl h0 h1) ?_
  refine Dp rfl rfl rfl rfl (V_move rfl rfl) ?_
  obtain ⟨p14_3, ha, h0, h1, h⟩ := h
  refine Dp rfl rfl rfl rfl (V_ixA rfl Tryz.underlying22 ty5 (ixL rfl ha) rfl h0 h1) ?_
  refine Dp rfl rfl rfl rfl (V_move rfl rfl) ?_
  obtain ⟨p20_4, ha, h0, h1, h⟩ := h
  refine Dp rfl rfl rfl rfl (V_ixA rfl Tryz.underlying22 ty5 (ixL rfl ha) rfl h0 h1) ?_
  obtain ⟨x5_5, hc, h⟩ := h
  refine Dr rfl rfl rfl rfl (R_ld rfl Tryz.underlying5 rfl rfl hc) ?_
  refine Dp rfl rfl rfl rfl (V_cvt rfl rfl Tryz.underlying5 Tryz.underlying3) ?_
  obtain ⟨x9_6, hc, h⟩ := h
  refine Dr rfl rfl rfl rfl (R_ld rfl Tryz.underlying5 rfl rfl hc) ?_
  refine Dp rfl rfl rfl rfl (V_cvt rfl rfl Tryz.underlying5 Tryz.underlying3) ?_
  refine Dp rfl rfl rfl rfl (V_shl rfl rfl rfl (by decide)) ?_
  refine Dp rfl rfl rfl rfl (V_or rfl rfl rfl) ?_
  obtain ⟨x15_7, hc, h⟩ := h
  refine Dr rfl rfl rfl rfl (R_ld rfl Tryz.underlying5 rfl rfl hc) ?_
  refine Dp rfl rfl rfl rfl (V_cvt rfl rfl Tryz.underlying5 Tryz.underlying3) ?_
  refine Dp rfl rfl rfl rfl (V_shl rfl rfl rfl (by decide)) ?_
  refine Dp rfl rfl rfl rfl (V_or rfl rfl rfl) ?_
  obtain ⟨x21_8, hc, h⟩ := h
  refine Dr rfl rfl rfl rfl (R_ld rfl Tryz.underlying5 rfl rfl hc) ?_
  refine Dp rfl rfl rfl rfl (V_cvt rfl rfl Tryz.underlying5 Tryz.underlying3) ?_
  refine Dp rfl rfl rfl rfl (V_shl rfl rfl rfl (by decide)) ?_
  refine Dp rfl rfl rfl rfl (V_or rfl rfl rfl) ?_
  refine Dp rfl rfl rfl rfl (V_asg rfl rfl) ?_
  refine Dend ?_
  refine thenN ?_
  refine AW.ret ?_
  exact bR1 Tryz.results120 rfl ⟨_, rfl, h⟩

end Go.Proofs.YtfobjidchipdaaaGreatDoor.G

/- The wire, the walk: a writer. -/
namespace Go.Proofs.YtfobjidchipdaaaGreatDoor.Wi
open Go Go.Proofs.YtfobjidchipdaaaGreatDoor.SL Go.Proofs.YtfobjidchipdaaaGreatDoor.G Go.Proofs.YtfobjidchipdaaaGreatDoor.Zt
set_option linter.unusedSimpArgs false
set_option linter.unusedVariables false
variable {B : World} {ro σ σ' : AH} {tag tag' : Nat → Nat}

theorem u8or (n : Nat) : bitOr .u8 (IntKind.u8.wrap (n : Int)) 128 = ((n % 128 + 128 : Nat) : Int) := by
  have h : ∀ c : Fin 256, bitOr .u8 ((c.val : Nat) : Int) 128 = ((c.val % 128 + 128 : Nat) : Int) := by decide +kernel
  have e : IntKind.u8.wrap (n : Int) = ((n % 256 : Nat) : Int) := by
    simp [IntKind.wrap, IntKind.bits, IntKind.signed]
  rw [e, h ⟨n % 256, Nat.mod_lt _ (by decide)⟩]
  simp only
  omega
theorem u8wrap {n : Nat} (h : n < 256) : IntKind.u8.wrap (n : Int) = (n : Int) := by
  simp [IntKind.wrap, IntKind.bits, IntKind.signed]; omega
theorem vU_of {n : Nat} (h : n < 256) : vU (UInt8.ofNat n) = .int .u8 (n : Int) := by
  unfold vU; rw [u8_of n h]
theorem right_ok {n : Int} {Q : Bool → AH → Prop} (hQ : Q (rightN n) σ) : c_wire_right B ro n σ Q := by
  refine wire_right_ok fun _ => ?_
  unfold f_wire_right
  exact hQ
set_option maxRecDepth 100000 in
theorem put_ok {n : Nat} {Q : Sl → AH → Prop} (hs : SL.Sep ro σ) (hn : n < 4611686018427387904) (hQ : ∀ s tag' σ', Step [1] ro tag σ tag' σ' → Row tag' σ' 1 5 s ((vput n).map vU) → Q s σ') : c_wire_put B ro ⟨none, 0, 0⟩ (n : Int) σ Q := by
  refine wire_put_ok fun _ => ?_
  unfold f_wire_put
  suffices ∀ (m k : Nat) (acc : Str) (s : Sl) (tag1 : Nat → Nat) (σ1 : AH), k < 128 ^ (m + 1) → acc.length + m < 20 → acc ++ vput k = vput n → Step [1] ro tag σ tag1 σ1 → Row tag1 σ1 1 5 s (acc.map vU) → lfpD (l6_wire_put B ro Q) (s, (k : Int)) σ1 from
    this 8 n [] ⟨none, 0, 0⟩ tag σ (by omega) (by decide) rfl (Step.refl hs) (Row.nil 1 5)
  intro m
  induction m with
  | zero =>
    intro k acc s tag1 σ1 hk ha he st r1
    have hk : k < 128 := by simpa using hk
    refine lfpD.intro ?_
    unfold l6_wire_put
    simp only
    rw [if_neg (by omega)]
    unfold j1_wire_put
    refine nw_cells (tag := tag1) 0 st.sep fun x tag2 σ2 st2 r2 => ?_
    rw [u8wrap (by omega)] at r2
    refine awp_appendN (l2 := [vU (UInt8.ofNat k)]) (r1.keep (st2 []) (by simp)) (st2 []).sep (by rw [vU_of (by omega)]; exact r2.read (st2 []).sep) u30 ty5 rfl (by simp [storable]) (by simp; omega) (by decide) fun s' tag3 σ3 st3 r3 => ?_
    refine ⟨s', rfl, hQ s' tag3 σ3 (st.trans ((st2 _).trans (st3 _ (.inr (by simp))))) ?_⟩
    rw [← he]
    rw [vput, if_pos hk, List.map_append]
    exact r3
  | succ m ih =>
    intro k acc s tag1 σ1 hk ha he st r1
    refine lfpD.intro ?_
    unfold l6_wire_put
    simp only
    by_cases h128 : 128 ≤ k
    · rw [if_pos (by omega)]
      refine nw_cells (tag := tag1) 0 st.sep fun x tag2 σ2 st2 r2 => ?_
      rw [u8or] at r2
      refine awp_appendN (l2 := [vU (UInt8.ofNat (k % 128 + 128))]) (r1.keep (st2 []) (by simp)) (st2 []).sep (by rw [vU_of (by omega)]; exact r2.read (st2 []).sep) u30 ty5 rfl (by simp [storable]) (by simp; omega) (by decide) fun s' tag3 σ3 st3 r3 => ?_
      refine ⟨s', rfl, ?_⟩
      rw [show Int.fdiv (k : Int) (2 ^ (min (Int.toNat 7) 64)) = ((k / 128 : Nat) : Int) by
        rw [show (2 : Int) ^ (min (Int.toNat 7) 64) = 128 from by decide, Int.fdiv_eq_ediv_of_nonneg _ (by decide)]; omega]
      refine ih (k / 128) (acc ++ [UInt8.ofNat (k % 128 + 128)]) s' tag3 σ3 (by rw [Nat.pow_succ] at hk; exact Nat.div_lt_of_lt_mul (by rw [Nat.mul_comm]; exact hk)) (by simp; omega) ?_ (st.trans ((st2 _).trans (st3 _ (.inr (by simp))))) (by rw [List.map_append]; exact r3)
      rw [← he, List.append_assoc]
      conv => rhs; rw [vput, if_neg (by omega)]
      rfl
    · rw [if_neg (by omega)]
      unfold j1_wire_put
      refine nw_cells (tag := tag1) 0 st.sep fun x tag2 σ2 st2 r2 => ?_
      rw [u8wrap (by omega)] at r2
      refine awp_appendN (l2 := [vU (UInt8.ofNat k)]) (r1.keep (st2 []) (by simp)) (st2 []).sep (by rw [vU_of (by omega)]; exact r2.read (st2 []).sep) u30 ty5 rfl (by simp [storable]) (by simp; omega) (by decide) fun s' tag3 σ3 st3 r3 => ?_
      refine ⟨s', rfl, hQ s' tag3 σ3 (st.trans ((st2 _).trans (st3 _ (.inr (by simp))))) ?_⟩
      rw [← he]
      rw [vput, if_pos (by omega), List.map_append]
      exact r3

/-- what a number does to what was written -/
def wnum (a : Str × Bool) (n : Int) : Str × Bool := if rightN n then (a.1 ++ vput n.toNat, a.2) else (a.1, true)
theorem wnum_len (a : Str × Bool) (n : Int) : (wnum a n).1.length ≤ a.1.length + 9 := by
  unfold wnum
  split
  · rename_i h
    unfold rightN at h
    simp only [Bool.and_eq_true, decide_eq_true_eq] at h
    have := (vput_len 8 n.toNat (by omega)).2
    simp; omega
  · simp
set_option maxRecDepth 100000 in
theorem num_ok {r W : Nat} {a : Str × Bool} {n : Int} {Q : AH → Prop} (h : BufAt tag σ r W a.1 a.2) (hr : r ≠ 1) (hs : SL.Sep ro σ) (hl : a.1.length + 9 ≤ 140737488355328)
    (hQ : ∀ tag' σ', Step [r, r + 64, 1] ro tag σ tag' σ' → BufAt tag' σ' r W (wnum a n).1 (wnum a n).2 → Q σ') : c_wire_buffer_num B ro (some ⟨W, 0, none⟩) n σ Q := by
  refine wire_buffer_num_ok fun _ => ?_
  unfold f_wire_buffer_num
  refine right_ok ?_
  unfold wnum at hQ
  by_cases hn : rightN n = true
  · rw [if_neg (by simp [hn])]
    simp only [hn, if_true] at hQ
    have hn' := hn
    unfold rightN at hn'
    simp only [Bool.and_eq_true, decide_eq_true_eq] at hn'
    refine ⟨_, rfl, ?_⟩
    obtain ⟨k, rfl⟩ := Int.eq_ofNat_of_zero_le hn'.1
    rw [Int.toNat_natCast] at hQ
    refine put_ok (tag := tag) hs (by omega) fun s tag1 σ1 st1 r1 => ?_
    have hk := (vput_len 8 k (by omega)).2
    refine bufWrite_ok (d := vput k) (h.keep st1 (by simpa using hr) (by simp)) st1.sep (by omega) (by rw [r1.len]; simp) (fun tag2 σ2 st2 => (r1.keep st2 (by simp; omega)).read st2.sep) fun _ _ tag2 σ2 st2 h2 => ?_
    exact hQ tag2 σ2 ((st1.mono (by simp)).trans (st2.mono (by simp))) h2
  · rw [if_pos (by simpa using hn)]
    simp only [hn] at hQ
    obtain ⟨s0, hcap, lr, h1, h2⟩ := h
    refine ⟨_, rfl, ?_⟩
    refine h1.st (i := 3) hs rfl (by simp) rfl fun σ1 st1 r1 => ?_
    exact hQ tag σ1 (st1.mono (by simp)) ⟨s0, hcap, lr, r1, h2.keep st1 (by simp)⟩
set_option maxRecDepth 100000 in
theorem newWriter_ok {r : Nat} {Q : Option Addr → AH → Prop} (hQ : ∀ W tag' σ', (∀ R, Step R ro tag σ tag' σ') → BufAt tag' σ' r W [] false → Q (some ⟨W, 0, none⟩) σ') : c_wire_NewWriter B ro σ Q := by
  refine wire_NewWriter_ok fun hs => ?_
  unfold f_wire_NewWriter
  refine nw_cells (tag := tag) r hs fun W tag1 σ1 st1 r1 => ?_
  exact hQ W tag1 σ1 st1 ⟨⟨none, 0, 0⟩, by decide, 0, r1, Row.nil _ _⟩

theorem not1 : ¬ (IntKind.i64.wrap (0 + 1) < ((1 : Nat) : Int)) := by decide
def wtext (a : Str × Bool) (p : Str) : Str × Bool := ((wnum a p.length).1 ++ p, (wnum a p.length).2)
set_option maxRecDepth 100000 in
/-- one text -/
theorem blobs1_ok {r W x q : Nat} {a : Str × Bool} {s : Sl} {p : Str} {Q : AH → Prop} (h : BufAt tag σ r W a.1 a.2) (hr : r ≠ 1) (hq : q ≠ r ∧ q ≠ r + 64 ∧ q ≠ 1) (hs : SL.Sep ro σ) (hl : a.1.length + 9 + p.length ≤ 140737488355328) (hx : Row tag σ q 22 ⟨some ⟨x, 0, none⟩, 1, 1⟩ [Sl.v s]) (hsl : s.len = p.length)
    (hsrc : ∀ tag' σ', Step [r, r + 64, 1] ro tag σ tag' σ' → SL.Read ro σ' s (p.map vU)) (hQ : ∀ tag' σ', Step [r, r + 64, 1] ro tag σ tag' σ' → BufAt tag' σ' r W (wtext a p).1 (wtext a p).2 → Q σ') :
    c_wire_Writer_Blobs B ro (some ⟨W, 0, none⟩) ⟨some ⟨x, 0, none⟩, 1, 1⟩ σ Q := by
  refine wire_Writer_Blobs_ok fun _ => ?_
  unfold f_wire_Writer_Blobs
  refine lfpD.intro ?_
  unfold l1_wire_Writer_Blobs
  rw [if_pos (by simp)]
  refine ⟨_, rfl, by decide, by simp, s, hx.cell1 hs, _, rfl, ?_⟩
  have hlen := wnum_len a p.length
  rw [hsl]
  refine num_ok h hr hs (by omega) fun tag1 σ1 st1 h1 => ?_
  refine ⟨_, rfl, ?_⟩
  have wid : ∀ x ∈ [r, r + 64], x ∈ [r, r + 64, 1] := fun x hx => by
    simp only [List.mem_cons, List.not_mem_nil, or_false] at hx ⊢
    rcases hx with h | h <;> simp [h]
  refine bufWrite_ok (d := p) h1 st1.sep (by omega) hsl (fun tag2 σ2 st2 => hsrc tag2 σ2 (st1.trans (st2.mono wid))) fun _ _ tag2 σ2 st2 h2 => ?_
  refine lfpD.intro ?_
  rw [if_neg (show ¬ (IntKind.i64.wrap (0 + 1) < ((⟨some ⟨x, 0, none⟩, 1, 1⟩ : Sl).len : Int)) from not1)]
  exact hQ tag2 σ2 (st1.trans (st2.mono wid)) h2
set_option maxRecDepth 100000 in
theorem nums_ok {r W q : Nat} {s : Sl} {Q : AH → Prop} (hr : r ≠ 1) (hq : q ≠ r ∧ q ≠ r + 64 ∧ q ≠ 1) {ns : List Int} {a : Str × Bool} (h : BufAt tag σ r W a.1 a.2) (hs : SL.Sep ro σ) (hl : a.1.length + 9 * ns.length ≤ 140737488355328) (hx : Row tag σ q 3 s (ns.map Zt.vI))
    (hQ : ∀ tag' σ', Step [r, r + 64, 1] ro tag σ tag' σ' → BufAt tag' σ' r W (ns.foldl wnum a).1 (ns.foldl wnum a).2 → Q σ') : c_wire_Writer_Nums B ro (some ⟨W, 0, none⟩) s σ Q := by
  refine wire_Writer_Nums_ok fun _ => ?_
  unfold f_wire_Writer_Nums
  have hsl : s.len = ns.length := by rw [hx.len, List.length_map]
  suffices ∀ (m j : Nat) (tag1 : Nat → Nat) (σ1 : AH), j + m = ns.length → Step [r, r + 64, 1] ro tag σ tag1 σ1 → ((ns.take j).foldl wnum a).1.length ≤ a.1.length + 9 * j → BufAt tag1 σ1 r W ((ns.take j).foldl wnum a).1 ((ns.take j).foldl wnum a).2 → lfpD (l1_wire_Writer_Nums B ro (some ⟨W, 0, none⟩) s Q) (j : Int) σ1 from
    this _ 0 tag σ (Nat.zero_add _) (Step.refl hs) (by simp) (by simpa using h)
  intro m
  induction m with
  | zero =>
    intro j tag1 σ1 hj st _ h1
    refine lfpD.intro ?_
    unfold l1_wire_Writer_Nums
    rw [if_neg (by omega)]
    rw [List.take_of_length_le (by omega)] at h1
    exact hQ tag1 σ1 st h1
  | succ m ih =>
    intro j tag1 σ1 hj st hln h1
    have hjl : j < ns.length := by omega
    have hx1 := hx.keep st (by simp; omega)
    obtain ⟨p, hp, hg⟩ := hx1.ptr st.sep (by simp; omega)
    refine lfpD.intro ?_
    unfold l1_wire_Writer_Nums
    rw [if_pos (by omega)]
    refine ⟨p, hp, by omega, by omega, ns[j], ?_, _, rfl, ?_⟩
    · have := hg j (Zt.vI ns[j]) (by rw [List.getElem?_map, List.getElem?_eq_getElem hjl]; rfl)
      rw [Int.toNat_natCast]; exact this
    · refine num_ok h1 hr st.sep (by omega) fun tag2 σ2 st2 h2 => ?_
      rw [Pa.inc j (by omega)]
      have e : (ns.take (j + 1)).foldl wnum a = wnum ((ns.take j).foldl wnum a) ns[j] := by
        rw [List.take_add_one, List.getElem?_eq_getElem hjl, List.foldl_append]; rfl
      have := wnum_len ((ns.take j).foldl wnum a) ns[j]
      exact ih (j + 1) tag2 σ2 (by omega) (st.trans st2) (by rw [e]; omega) (by rw [e]; exact h2)
set_option maxRecDepth 100000 in
theorem out_ok {r W : Nat} {a : Str × Bool} {Q : Sl → Int → AH → Prop} (h : BufAt tag σ r W a.1 a.2) (hs : SL.Sep ro σ) (hl : a.1.length ≤ 140737488355328)
    (hbad : a.2 = true → Q ⟨none, 0, 0⟩ 10 σ) (hgood : a.2 = false → ∀ s tag' σ', (∀ R, Step R ro tag σ tag' σ') → Row tag' σ' 6 5 s (a.1.map vU) → Q s 0 σ') : c_wire_Writer_Out B ro (some ⟨W, 0, none⟩) σ Q := by
  refine wire_Writer_Out_ok fun _ => ?_
  unfold f_wire_Writer_Out
  obtain ⟨s0, hcap, lr, h1, h2⟩ := h
  obtain ⟨p, hp, hg⟩ := h1.ptr hs (by simp)
  cases hp
  refine ⟨_, rfl, a.2, hg 3 _ rfl, ?_⟩
  by_cases hb : a.2 = true
  · rw [if_pos hb]; exact hbad hb
  · rw [if_neg hb]
    refine ⟨_, rfl, ?_⟩
    refine bytes_Buffer_Bytes_ok fun _ => ?_
    unfold f_bytes_Buffer_Bytes
    refine ⟨_, rfl, _, rfl, s0, hg 0 _ rfl, 0, hg 1 _ rfl, ⟨trivial, by decide, by simp only [cutHi]; omega⟩, ?_⟩
    rw [show (⟨cutA s0.a (Int.toNat 0) s0.cap 1, s0.len - Int.toNat 0, s0.cap - Int.toNat 0⟩ : Sl) = s0 from by rw [show Int.toNat 0 = 0 from rfl, cutA_zero]; rfl]
    refine clone_ok (tag := tag) (h2.read hs) hs (by simp; omega) (vU_st _) fun s' tag1 σ1 st1 r1 => ?_
    exact hgood (by simpa using hb) s' tag1 σ1 st1 r1
end Go.Proofs.YtfobjidchipdaaaGreatDoor.Wi

/- The wire, the walk: a reader. -/
namespace Go.Proofs.YtfobjidchipdaaaGreatDoor.Wi
open Go Go.Proofs.YtfobjidchipdaaaGreatDoor.SL Go.Proofs.YtfobjidchipdaaaGreatDoor.G Go.Proofs.YtfobjidchipdaaaGreatDoor.Zt
set_option linter.unusedSimpArgs false
set_option linter.unusedVariables false
variable {B : World} {ro σ σ' : AH} {tag tag' : Nat → Nat}

theorem u8and (c : UInt8) : bitAnd .u8 (c.toNat : Int) 127 = ((c.toNat % 128 : Nat) : Int) := by
  have h : ∀ c : Fin 256, bitAnd .u8 ((c.val : Nat) : Int) 127 = ((c.val % 128 : Nat) : Int) := by decide +kernel
  exact h ⟨c.toNat, u8_lt c⟩
theorem orshift {n i : Nat} (c : UInt8) (hi : i ≤ 8) (hn : n < 128 ^ i) :
    bitOr .i64 (n : Int) (IntKind.i64.wrap ((IntKind.i64.wrap (bitAnd .u8 (c.toNat : Int) 127)) * 2 ^ (min (Int.toNat (IntKind.i64.wrap (7 * (i : Int)))) 64))) = ((n + 128 ^ i * (c.toNat % 128) : Nat) : Int) := by
  have hm : c.toNat % 128 < 128 := Nat.mod_lt _ (by decide)
  rw [u8and]
  generalize c.toNat % 128 = m at hm
  rw [w64_eq (n := (m : Int)) (by omega) (by omega), w64_eq (n := 7 * (i : Int)) (by omega) (by omega)]
  have hp : (2 : Int) ^ (min (Int.toNat (7 * (i : Int))) 64) = ((128 ^ i : Nat) : Int) := by
    have : i = 0 ∨ i = 1 ∨ i = 2 ∨ i = 3 ∨ i = 4 ∨ i = 5 ∨ i = 6 ∨ i = 7 ∨ i = 8 := by omega
    rcases this with rfl | rfl | rfl | rfl | rfl | rfl | rfl | rfl | rfl <;> decide
  rw [hp]
  have h8 : 128 ^ i ≤ 128 ^ 8 := Nat.pow_le_pow_right (by decide) hi
  have h9 : m * 128 ^ i ≤ 127 * 128 ^ 8 := Nat.mul_le_mul (by omega) h8
  have h9' : m * 128 ^ i ≤ 9151314442816847872 := by simpa using h9
  have hn' : n < 72057594037927936 := Nat.lt_of_lt_of_le hn (by simpa using h8)
  rw [← Int.natCast_mul, w64_eq (by omega) (by omega)]
  unfold bitOr
  have e : (BitVec.ofInt IntKind.i64.bits (n : Int) ||| BitVec.ofInt IntKind.i64.bits ((m * 128 ^ i : Nat) : Int)).toNat = n + 128 ^ i * m := by
    rw [BitVec.toNat_or, BitVec.ofInt_natCast, BitVec.ofInt_natCast, BitVec.toNat_ofNat, BitVec.toNat_ofNat]
    rw [show IntKind.i64.bits = 64 from rfl, Nat.mod_eq_of_lt (by omega), Nat.mod_eq_of_lt (by omega)]
    have e2 : 128 ^ i = 2 ^ (7 * i) := by rw [Nat.pow_mul]
    rw [Nat.or_comm, Nat.mul_comm m, e2, ← Nat.two_pow_add_eq_or_of_lt (by rw [← e2]; exact hn)]
    omega
  rw [e]
  have : 128 ^ i * m = m * 128 ^ i := Nat.mul_comm _ _
  rw [w64_eq (by omega) (by omega)]

set_option maxRecDepth 100000 in
theorem number_ok {s : Sl} {l : Str} {Q : Int → Int → Int → AH → Prop} (h : SL.Read ro σ s (l.map vU)) (hl : l.length ≤ 140737488355328) (hQ : Q (num l).1 (num l).2.1 (num l).2.2 σ) : c_wire_Number B ro s 0 σ Q := by
  refine wire_Number_ok fun _ => ?_
  unfold f_wire_Number
  have hln : s.len = l.length := by rw [h.1, List.length_map]
  rw [if_neg (by omega)]
  refine ⟨⟨trivial, by decide, by simp only [cutHi]; omega⟩, ?_⟩
  have e0 : (⟨cutA s.a (Int.toNat 0) s.cap 1, s.len - Int.toNat 0, s.cap - Int.toNat 0⟩ : Sl) = s := by rw [show Int.toNat 0 = 0 from rfl, cutA_zero]; rfl
  suffices ∀ (m i : Nat), i + m = 9 → i ≤ l.length → (∀ j c, j < i → l[j]? = some c → 128 ≤ c.toNat) → lfpD (l2_wire_Number B ro s 0 Q) (((val (l.take i) : Nat) : Int), (i : Int)) σ from
    this 9 0 rfl (Nat.zero_le _) (fun j c h => by omega)
  intro m
  induction m with
  | zero =>
    intro i hi hil hall
    have hi9 : i = 9 := by omega
    subst hi9
    refine lfpD.intro ?_
    unfold l2_wire_Number
    simp only [e0]
    have hnum : num l = (0, 0, if l.length < 9 then 12 else 13) := by unfold num; rw [scan_none_of 9 l hall]
    have hj : j1_wire_Number B ro s 0 Q σ := by
      unfold j1_wire_Number
      rw [Int.sub_zero, w64_eq (by omega) (by omega), if_pos (by omega)]
      rw [hnum, if_neg (by omega)] at hQ
      exact hQ
    by_cases hlt : 9 < l.length
    · rw [if_pos (by omega)]
      have ha : s.a ≠ none := fun hn => by have := h.2.1 hn; simp at this; subst this; simp at hlt
      obtain ⟨p, hs⟩ : ∃ p, s.a = some p := by
        cases hs : s.a with
        | none => exact absurd hs ha
        | some p => exact ⟨p, rfl⟩
      · skip
        refine ⟨p, by rw [show Int.toNat 0 = 0 from rfl, cutA_zero, hs], by decide, by omega, (l[9].toNat : Int), ?_, ?_⟩
        · have := h.2.2 p hs 9 (vU l[9]) (by rw [List.getElem?_map, List.getElem?_eq_getElem hlt]; rfl)
          exact this
        · rw [if_pos (by decide)]; exact hj
    · rw [if_neg (by omega)]; exact hj
  | succ m ih =>
    intro i hi hil hall
    refine lfpD.intro ?_
    unfold l2_wire_Number
    simp only [e0]
    by_cases hlt : i < l.length
    · rw [if_pos (by omega)]
      have ha : s.a ≠ none := fun hn => by have := h.2.1 hn; simp at this; subst this; simp at hlt
      obtain ⟨p, hs⟩ : ∃ p, s.a = some p := by
        cases hs : s.a with
        | none => exact absurd hs ha
        | some p => exact ⟨p, rfl⟩
      · skip
        refine ⟨p, by rw [show Int.toNat 0 = 0 from rfl, cutA_zero, hs], by omega, by omega, (l[i].toNat : Int), ?_, ?_⟩
        · have := h.2.2 p hs i (vU l[i]) (by rw [List.getElem?_map, List.getElem?_eq_getElem hlt]; rfl)
          rw [Int.toNat_natCast, Nat.mul_one]; exact this
        · rw [if_neg (by omega)]
          refine ⟨by rw [w64_eq (by omega) (by omega)]; omega, ?_⟩
          rw [orshift l[i] (by omega) (val_take l i)]
          have hlen : (l.take i).length = i := by simp; omega
          have hval : val (l.take i) + 128 ^ i * (l[i].toNat % 128) = val (l.take (i + 1)) := by
            have e : l.take (i + 1) = l.take i ++ [l[i]] := by rw [List.take_add_one, List.getElem?_eq_getElem hlt]; rfl
            rw [e, val_snoc, hlen]
          rw [hval]
          by_cases hc : l[i].toNat < 128
          · rw [if_pos (by omega)]
            have hscan : scan 9 l = some i := scan_of 9 l i l[i] (by omega) hall (List.getElem?_eq_getElem hlt) hc
            have hz : (l[i]? = some 0) ↔ l[i].toNat = 0 := by
              rw [List.getElem?_eq_getElem hlt]
              refine ⟨fun h => by rw [Option.some.inj h]; rfl, fun h => congrArg some (u8_eq h)⟩
            unfold num at hQ
            rw [hscan] at hQ
            simp only at hQ
            by_cases hz0 : ((l[i].toNat : Int) = 0) ∧ ((0 : Int) < (i : Int))
            · rw [if_pos hz0]
              unfold j7_wire_Number
              rw [if_pos rfl]
              rw [if_pos (.inl ⟨by omega, hz.2 (by omega)⟩)] at hQ
              exact hQ
            · rw [if_neg hz0]
              refine right_ok ?_
              unfold j7_wire_Number
              by_cases hr : 4611686018427387904 ≤ val (l.take (i + 1))
              · rw [if_pos (by simp [rightN]; omega)]
                rw [if_pos (.inr hr)] at hQ
                exact hQ
              · rw [if_neg (by simp [rightN]; omega)]
                rw [if_neg (fun h => by
                  rcases h with ⟨h1, h2⟩ | h
                  · exact hz0 ⟨by rw [hz.1 h2]; rfl, by omega⟩
                  · exact hr h)] at hQ
                rw [Int.zero_add, orshift l[i] (by omega) (val_take l i), hval, w64_eq (n := (i : Int)) (by omega) (by omega), w64_eq (by omega) (by omega)]
                exact hQ
          · rw [if_neg (by omega)]
            rw [Pa.inc i (by omega)]
            refine ih (i + 1) (by omega) (by omega) fun j c hj hjc => ?_
            rcases Nat.lt_or_ge j i with h1 | h1
            · exact hall j c h1 hjc
            · have : j = i := by omega
              subst this
              rw [List.getElem?_eq_getElem hlt] at hjc
              cases hjc; omega
    · rw [if_neg (by omega)]
      have hnone : scan 9 l = none := scan_none_of 9 l fun j c _ hjc => hall j c (by
        rcases Nat.lt_or_ge j l.length with h | h
        · omega
        · rw [List.getElem?_eq_none h] at hjc; cases hjc) hjc
      unfold num at hQ
      rw [hnone] at hQ
      simp only at hQ
      unfold j1_wire_Number
      rw [Int.sub_zero, w64_eq (by omega) (by omega), if_neg (by omega)]
      rw [if_pos (by omega)] at hQ
      exact hQ
end Go.Proofs.YtfobjidchipdaaaGreatDoor.Wi
