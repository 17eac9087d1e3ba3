/- GWire, WiB, EnC, ZtW, ZtR -/
import Derived.Test.YthfpmipeejjogaaGreatDoorXF
/- Functions as predicate transformers, and the proofs that the code does what they tell: printed by wip/tools/gen.py. -/
namespace Go.Proofs.YthfpmipeejjogaaGreatDoor.G
open Go Go.Proofs.YthfpmipeejjogaaGreatDoor.SL
set_option linter.unusedVariables false
set_option linter.unusedSimpArgs false

def f_wire_NewWriter (B : World) (ro : AH) (σ : AH) (Q : Option Addr → AH → Prop) : Prop :=
 nw ro σ (.cells #[Sl.v (⟨none, 0, 0⟩ : Sl), .int .i64 0, .int .i8 0, .bool false] 202) fun x2_1 σ =>
 Q (some ⟨x2_1, 0, none⟩) σ

set_option maxRecDepth 100000 in
set_option maxHeartbeats 4000000 in
theorem wire_NewWriter_ok {B : World} {ro : AH} {σ : AH} {Q : Option Addr → AH → Prop} (h : Sep ro σ → f_wire_NewWriter B ro σ Q) : c_wire_NewWriter B ro σ Q := by
  refine ACalls.of_sep fun hsep => ?_
  replace h := h hsep
  refine ACalls.of_body (args := []) Tryz.func66 rfl (by rw [Tryz.ntmps66]; simp) ?_
  rw [Tryz.ntmps66]
  unfold f_wire_NewWriter at h
  refine AW.seq ?_
  refine AW.reg ?_
  refine Lp (V_asg rfl rfl) rfl rfl ?_
  refine Lnil ?_
  refine thenN ?_
  refine AW.seq ?_
  refine AW.reg ?_
  refine Lp (V_bld (vs := []) (cs := #[Sl.v (⟨none, 0, 0⟩ : Sl), .int .i64 0, .int .i8 0, .bool false]) rfl Tryz.underlying202 ty202 pl202 rfl rfl) rfl rfl ?_
  refine Ls rfl rfl (X_new (A_box rfl rfl) fun x2_1 g1 g2 => ?_)
  replace h := h x2_1 g1 g2
  refine Lp (V_asg rfl rfl) rfl rfl ?_
  refine Lnil ?_
  refine thenN ?_
  refine AW.ret ?_
  exact bR1 Tryz.results66 rfl ⟨_, rfl, h⟩

def l1_wire_Writer_Texts (B : World) (ro : AH) (a0 : Option Addr) (a1 : Sl) (Q : AH → Prop) : (Int) → AH → ((Int) → AH → Prop) → Prop := fun x8_2 σ Y1 =>
 if x8_2 < (a1.len : Int) then
  ∃ p10_3 : Addr, a1.a = some p10_3 ∧ (0 : Int) ≤ x8_2 ∧ x8_2 < (a1.len : Int) ∧
  ∃ (x11_4 : ByteArray), acell ro σ (p10_3.add (Int.toNat x8_2 * 1)) = some (.string x11_4) ∧
  ∃ p13_5 : Addr, a0 = some p13_5 ∧
  c_wire_buffer_num B ro (some p13_5) (x11_4.size : Int) σ fun σ =>
  ∃ p19_6 : Addr, a0 = some p19_6 ∧
  c_bytes_Buffer_WriteString B ro (some p19_6) x11_4 σ fun x23_7 x23_8 σ =>
  Y1 (IntKind.i64.wrap (x8_2 + 1)) σ
 else
 Q σ

def f_wire_Writer_Texts (B : World) (ro : AH) (a0 : Option Addr) (a1 : Sl) (σ : AH) (Q : AH → Prop) : Prop :=
 lfpD (l1_wire_Writer_Texts B ro a0 a1 Q ) (0) σ

set_option maxRecDepth 100000 in
set_option maxHeartbeats 4000000 in
theorem wire_Writer_Texts_ok {B : World} {ro : AH} {a0 : Option Addr} {a1 : Sl} {σ : AH} {Q : AH → Prop} (h : Sep ro σ → f_wire_Writer_Texts B ro a0 a1 σ Q) : c_wire_Writer_Texts B ro a0 a1 σ Q := by
  refine ACalls.of_sep fun hsep => ?_
  replace h := h hsep
  refine ACalls.of_body (args := [.pointer a0, Sl.v a1]) Tryz.func67 rfl (by rw [Tryz.ntmps67]; simp) ?_
  rw [Tryz.ntmps67]
  unfold f_wire_Writer_Texts at h
  refine AW.seq ?_
  refine AW.reg ?_
  refine Lp (V_move rfl rfl) rfl rfl ?_
  refine Lp (V_lenL rfl rfl Tryz.underlying25 rfl rfl) rfl rfl ?_
  refine Lp (V_move rfl rfl) rfl rfl ?_
  refine Lnil ?_
  refine thenN ?_
  refine AW.block ?_
  refine ARound.loop (fr' := [(0, .pointer a0), (6, Sl.v a1), (7, .int .i64 (a1.len : Int)), (8, .int .i64 0)]) ?_ (FrLe.cons rfl (FrLe.cons rfl (FrLe.cons rfl (FrLe.cons rfl (FrLe.nil _)))))
  refine h (fun x8_2 σ => ARound _ _ _ _ _ _ [(0, .pointer a0), (6, Sl.v a1), (7, .int .i64 (a1.len : Int)), (8, .int .i64 x8_2)] σ) ?_
  rintro x8_2 σ Y1 hY1 h
  show AW _ _ _ _ _ _ _ _
  unfold l1_wire_Writer_Texts at h
  refine AW.seq ?_
  refine AW.reg ?_
  refine Lp (V_lss rfl rfl rfl) rfl rfl ?_
  refine Lnil ?_
  refine thenN ?_
  refine AW.seq ?_
  refine AW.iff rfl decide_eq_true_iff h (fun h => ?_) (fun h => ?_)
  rotate_left
  · refine AW.exit ?_
    refine thenE ?_
    refine thenE ?_
    refine blockE ?_
    exact bN0 Tryz.results67 ⟨rfl, h⟩
  refine AW.skip ?_
  refine thenN ?_
  refine AW.seq ?_
  refine AW.block ?_
  refine AW.seq ?_
  refine AW.reg ?_
  obtain ⟨p10_3, ha, h0, h1, h⟩ := h
  refine Lp (V_ixA rfl Tryz.underlying25 ty9 (ixL rfl ha) rfl h0 h1) rfl rfl ?_
  obtain ⟨x11_4, hc, h⟩ := h
  refine Ls rfl rfl (X_ld rfl Tryz.underlying9 rfl rfl hc ?_)
  refine Lp (V_asg rfl rfl) rfl rfl ?_
  refine Lnil ?_
  refine thenN ?_
  refine AW.seq ?_
  refine AW.reg ?_
  refine Lp (V_move rfl rfl) rfl rfl ?_
  obtain ⟨p13_5, hc, h⟩ := h
  refine Lp (V_nil rfl (by rw [← hc]; rfl)) rfl rfl ?_
  refine Lp (V_fld rfl Tryz.underlying202 rfl ty200 (by decide) rfl) rfl rfl ?_
  refine Lp (V_move rfl rfl) rfl rfl ?_
  refine Lp (V_lenS rfl rfl Tryz.underlying9 rfl rfl) rfl rfl ?_
  refine Ls rfl rfl (X_call rfl Tryz.func113 rfl rfl rfl (ACalls.mono h ?_))
  rintro v σ ⟨rfl, h⟩
  refine Lnil ?_
  refine thenN ?_
  refine AW.reg ?_
  refine Lp (V_move rfl rfl) rfl rfl ?_
  obtain ⟨p19_6, hc, h⟩ := h
  refine Lp (V_nil rfl (by rw [← hc]; rfl)) rfl rfl ?_
  refine Lp (V_fld rfl Tryz.underlying202 rfl ty200 (by decide) rfl) rfl rfl ?_
  refine Lp (V_fld rfl Tryz.underlying200 rfl ty198 (by decide) rfl) rfl rfl ?_
  refine Lp (V_move rfl rfl) rfl rfl ?_
  refine Ls rfl rfl (X_call rfl Tryz.func114 rfl rfl rfl (ACalls.mono h ?_))
  rintro v σ ⟨x23_7, x23_8, rfl, h⟩
  refine Lnil ?_
  refine blockN ?_
  refine thenN ?_
  refine AW.reg ?_
  refine Lp (V_add rfl rfl rfl) rfl rfl ?_
  refine Lp (V_move rfl rfl) rfl rfl ?_
  refine Lnil ?_
  refine thenN ?_
  refine ARound.head (fr' := [(0, .pointer a0), (6, Sl.v a1), (7, .int .i64 (a1.len : Int)), (8, .int .i64 (IntKind.i64.wrap (x8_2 + 1)))]) ?_ (FrLe.cons rfl (FrLe.cons rfl (FrLe.cons rfl (FrLe.cons rfl (FrLe.nil _)))))
  exact hY1 _ _ h

def l1_wire_Writer_Blobs (B : World) (ro : AH) (a0 : Option Addr) (a1 : Sl) (Q : AH → Prop) : (Int) → AH → ((Int) → AH → Prop) → Prop := fun x8_2 σ Y1 =>
 if x8_2 < (a1.len : Int) then
  ∃ p10_3 : Addr, a1.a = some p10_3 ∧ (0 : Int) ≤ x8_2 ∧ x8_2 < (a1.len : Int) ∧
  ∃ (x11_4 : Sl), acell ro σ (p10_3.add (Int.toNat x8_2 * 1)) = some (Sl.v x11_4) ∧
  ∃ p13_5 : Addr, a0 = some p13_5 ∧
  c_wire_buffer_num B ro (some p13_5) (x11_4.len : Int) σ fun σ =>
  ∃ p19_6 : Addr, a0 = some p19_6 ∧
  c_bytes_Buffer_Write B ro (some p19_6) x11_4 σ fun x23_7 x23_8 σ =>
  Y1 (IntKind.i64.wrap (x8_2 + 1)) σ
 else
 Q σ

def f_wire_Writer_Blobs (B : World) (ro : AH) (a0 : Option Addr) (a1 : Sl) (σ : AH) (Q : AH → Prop) : Prop :=
 lfpD (l1_wire_Writer_Blobs B ro a0 a1 Q ) (0) σ

set_option maxRecDepth 100000 in
set_option maxHeartbeats 4000000 in
theorem wire_Writer_Blobs_ok {B : World} {ro : AH} {a0 : Option Addr} {a1 : Sl} {σ : AH} {Q : AH → Prop} (h : Sep ro σ → f_wire_Writer_Blobs B ro a0 a1 σ Q) : c_wire_Writer_Blobs B ro a0 a1 σ Q := by
  refine ACalls.of_sep fun hsep => ?_
  replace h := h hsep
  refine ACalls.of_body (args := [.pointer a0, Sl.v a1]) Tryz.func68 rfl (by rw [Tryz.ntmps68]; simp) ?_
  rw [Tryz.ntmps68]
  unfold f_wire_Writer_Blobs at h
  refine AW.seq ?_
  refine AW.reg ?_
  refine Lp (V_move rfl rfl) rfl rfl ?_
  refine Lp (V_lenL rfl rfl Tryz.underlying208 rfl rfl) rfl rfl ?_
  refine Lp (V_move rfl rfl) rfl rfl ?_
  refine Lnil ?_
  refine thenN ?_
  refine AW.block ?_
  refine ARound.loop (fr' := [(0, .pointer a0), (6, Sl.v a1), (7, .int .i64 (a1.len : Int)), (8, .int .i64 0)]) ?_ (FrLe.cons rfl (FrLe.cons rfl (FrLe.cons rfl (FrLe.cons rfl (FrLe.nil _)))))
  refine h (fun x8_2 σ => ARound _ _ _ _ _ _ [(0, .pointer a0), (6, Sl.v a1), (7, .int .i64 (a1.len : Int)), (8, .int .i64 x8_2)] σ) ?_
  rintro x8_2 σ Y1 hY1 h
  show AW _ _ _ _ _ _ _ _
  unfold l1_wire_Writer_Blobs at h
  refine AW.seq ?_
  refine AW.reg ?_
  refine Lp (V_lss rfl rfl rfl) rfl rfl ?_
  refine Lnil ?_
  refine thenN ?_
  refine AW.seq ?_
  refine AW.iff rfl decide_eq_true_iff h (fun h => ?_) (fun h => ?_)
  rotate_left
  · refine AW.exit ?_
    refine thenE ?_
    refine thenE ?_
    refine blockE ?_
    exact bN0 Tryz.results68 ⟨rfl, h⟩
  refine AW.skip ?_
  refine thenN ?_
  refine AW.seq ?_
  refine AW.block ?_
  refine AW.seq ?_
  refine AW.reg ?_
  obtain ⟨p10_3, ha, h0, h1, h⟩ := h
  refine Lp (V_ixA rfl Tryz.underlying208 ty30 (ixL rfl ha) rfl h0 h1) rfl rfl ?_
  obtain ⟨x11_4, hc, h⟩ := h
  refine Ls rfl rfl (X_ld rfl Tryz.underlying30 rfl rfl hc ?_)
  refine Lp (V_asg rfl rfl) rfl rfl ?_
  refine Lnil ?_
  refine thenN ?_
  refine AW.seq ?_
  refine AW.reg ?_
  refine Lp (V_move rfl rfl) rfl rfl ?_
  obtain ⟨p13_5, hc, h⟩ := h
  refine Lp (V_nil rfl (by rw [← hc]; rfl)) rfl rfl ?_
  refine Lp (V_fld rfl Tryz.underlying202 rfl ty200 (by decide) rfl) rfl rfl ?_
  refine Lp (V_move rfl rfl) rfl rfl ?_
  refine Lp (V_lenL rfl rfl Tryz.underlying30 rfl rfl) rfl rfl ?_
  refine Ls rfl rfl (X_call rfl Tryz.func113 rfl rfl rfl (ACalls.mono h ?_))
  rintro v σ ⟨rfl, h⟩
  refine Lnil ?_
  refine thenN ?_
  refine AW.reg ?_
  refine Lp (V_move rfl rfl) rfl rfl ?_
  obtain ⟨p19_6, hc, h⟩ := h
  refine Lp (V_nil rfl (by rw [← hc]; rfl)) rfl rfl ?_
  refine Lp (V_fld rfl Tryz.underlying202 rfl ty200 (by decide) rfl) rfl rfl ?_
  refine Lp (V_fld rfl Tryz.underlying200 rfl ty198 (by decide) rfl) rfl rfl ?_
  refine Lp (V_move rfl rfl) rfl rfl ?_
  refine Ls rfl rfl (X_call rfl Tryz.func115 rfl rfl rfl (ACalls.mono h ?_))
  rintro v σ ⟨x23_7, x23_8, rfl, h⟩
  refine Lnil ?_
  refine blockN ?_
  refine thenN ?_
  refine AW.reg ?_
  refine Lp (V_add rfl rfl rfl) rfl rfl ?_
  refine Lp (V_move rfl rfl) rfl rfl ?_
  refine Lnil ?_
  refine thenN ?_
  refine ARound.head (fr' := [(0, .pointer a0), (6, Sl.v a1), (7, .int .i64 (a1.len : Int)), (8, .int .i64 (IntKind.i64.wrap (x8_2 + 1)))]) ?_ (FrLe.cons rfl (FrLe.cons rfl (FrLe.cons rfl (FrLe.cons rfl (FrLe.nil _)))))
  exact hY1 _ _ h

def l1_wire_Writer_Nums (B : World) (ro : AH) (a0 : Option Addr) (a1 : Sl) (Q : AH → Prop) : (Int) → AH → ((Int) → AH → Prop) → Prop := fun x8_2 σ Y1 =>
 if x8_2 < (a1.len : Int) then
  ∃ p10_3 : Addr, a1.a = some p10_3 ∧ (0 : Int) ≤ x8_2 ∧ x8_2 < (a1.len : Int) ∧
  ∃ (x11_4 : Int), acell ro σ (p10_3.add (Int.toNat x8_2 * 1)) = some (.int .i64 x11_4) ∧
  ∃ p13_5 : Addr, a0 = some p13_5 ∧
  c_wire_buffer_num B ro (some p13_5) x11_4 σ fun σ =>
  Y1 (IntKind.i64.wrap (x8_2 + 1)) σ
 else
 Q σ

def f_wire_Writer_Nums (B : World) (ro : AH) (a0 : Option Addr) (a1 : Sl) (σ : AH) (Q : AH → Prop) : Prop :=
 lfpD (l1_wire_Writer_Nums B ro a0 a1 Q ) (0) σ

set_option maxRecDepth 100000 in
set_option maxHeartbeats 4000000 in
theorem wire_Writer_Nums_ok {B : World} {ro : AH} {a0 : Option Addr} {a1 : Sl} {σ : AH} {Q : AH → Prop} (h : Sep ro σ → f_wire_Writer_Nums B ro a0 a1 σ Q) : c_wire_Writer_Nums B ro a0 a1 σ Q := by
  refine ACalls.of_sep fun hsep => ?_
  replace h := h hsep
  refine ACalls.of_body (args := [.pointer a0, Sl.v a1]) Tryz.func69 rfl (by rw [Tryz.ntmps69]; simp) ?_
  rw [Tryz.ntmps69]
  unfold f_wire_Writer_Nums at h
  refine AW.seq ?_
  refine AW.reg ?_
  refine Lp (V_move rfl rfl) rfl rfl ?_
  refine Lp (V_lenL rfl rfl Tryz.underlying58 rfl rfl) rfl rfl ?_
  refine Lp (V_move rfl rfl) rfl rfl ?_
  refine Lnil ?_
  refine thenN ?_
  refine AW.block ?_
  refine ARound.loop (fr' := [(0, .pointer a0), (6, Sl.v a1), (7, .int .i64 (a1.len : Int)), (8, .int .i64 0)]) ?_ (FrLe.cons rfl (FrLe.cons rfl (FrLe.cons rfl (FrLe.cons rfl (FrLe.nil _)))))
  refine h (fun x8_2 σ => ARound _ _ _ _ _ _ [(0, .pointer a0), (6, Sl.v a1), (7, .int .i64 (a1.len : Int)), (8, .int .i64 x8_2)] σ) ?_
  rintro x8_2 σ Y1 hY1 h
  show AW _ _ _ _ _ _ _ _
  unfold l1_wire_Writer_Nums at h
  refine AW.seq ?_
  refine AW.reg ?_
  refine Lp (V_lss rfl rfl rfl) rfl rfl ?_
  refine Lnil ?_
  refine thenN ?_
  refine AW.seq ?_
  refine AW.iff rfl decide_eq_true_iff h (fun h => ?_) (fun h => ?_)
  rotate_left
  · refine AW.exit ?_
    refine thenE ?_
    refine thenE ?_
    refine blockE ?_
    exact bN0 Tryz.results69 ⟨rfl, h⟩
  refine AW.skip ?_
  refine thenN ?_
  refine AW.seq ?_
  refine AW.block ?_
  refine AW.seq ?_
  refine AW.reg ?_
  obtain ⟨p10_3, ha, h0, h1, h⟩ := h
  refine Lp (V_ixA rfl Tryz.underlying58 ty3 (ixL rfl ha) rfl h0 h1) rfl rfl ?_
  obtain ⟨x11_4, hc, h⟩ := h
  refine Ls rfl rfl (X_ld rfl Tryz.underlying3 rfl rfl hc ?_)
  refine Lp (V_asg rfl rfl) rfl rfl ?_
  refine Lnil ?_
  refine thenN ?_
  refine AW.reg ?_
  refine Lp (V_move rfl rfl) rfl rfl ?_
  obtain ⟨p13_5, hc, h⟩ := h
  refine Lp (V_nil rfl (by rw [← hc]; rfl)) rfl rfl ?_
  refine Lp (V_fld rfl Tryz.underlying202 rfl ty200 (by decide) rfl) rfl rfl ?_
  refine Lp (V_move rfl rfl) rfl rfl ?_
  refine Ls rfl rfl (X_call rfl Tryz.func113 rfl rfl rfl (ACalls.mono h ?_))
  rintro v σ ⟨rfl, h⟩
  refine Lnil ?_
  refine blockN ?_
  refine thenN ?_
  refine AW.reg ?_
  refine Lp (V_add rfl rfl rfl) rfl rfl ?_
  refine Lp (V_move rfl rfl) rfl rfl ?_
  refine Lnil ?_
  refine thenN ?_
  refine ARound.head (fr' := [(0, .pointer a0), (6, Sl.v a1), (7, .int .i64 (a1.len : Int)), (8, .int .i64 (IntKind.i64.wrap (x8_2 + 1)))]) ?_ (FrLe.cons rfl (FrLe.cons rfl (FrLe.cons rfl (FrLe.cons rfl (FrLe.nil _)))))
  exact hY1 _ _ h

def f_wire_Writer_Out (B : World) (ro : AH) (a0 : Option Addr) (σ : AH) (Q : Sl → Int → AH → Prop) : Prop :=
 ∃ p5_1 : Addr, a0 = some p5_1 ∧
 ∃ (x8_2 : Bool), acell ro σ (p5_1.add 3) = some (.bool x8_2) ∧
 if x8_2 = true then
  Q (⟨none, 0, 0⟩ : Sl) 10 σ
 else
 ∃ p10_3 : Addr, a0 = some p10_3 ∧
 c_bytes_Buffer_Bytes B ro (some p10_3) σ fun x13_4 σ =>
 c_bytes_Clone B ro x13_4 σ fun x14_5 σ =>
 Q x14_5 0 σ

set_option maxRecDepth 100000 in
set_option maxHeartbeats 4000000 in
theorem wire_Writer_Out_ok {B : World} {ro : AH} {a0 : Option Addr} {σ : AH} {Q : Sl → Int → AH → Prop} (h : Sep ro σ → f_wire_Writer_Out B ro a0 σ Q) : c_wire_Writer_Out B ro a0 σ Q := by
  refine ACalls.of_sep fun hsep => ?_
  replace h := h hsep
  refine ACalls.of_body (args := [.pointer a0]) Tryz.func70 rfl (by rw [Tryz.ntmps70]; simp) ?_
  rw [Tryz.ntmps70]
  unfold f_wire_Writer_Out at h
  refine AW.seq ?_
  refine AW.reg ?_
  refine Lp (V_asg rfl rfl) rfl rfl ?_
  refine Lp (V_asg rfl rfl) rfl rfl ?_
  refine Lnil ?_
  refine thenN ?_
  refine AW.seq ?_
  refine AW.seq ?_
  refine AW.reg ?_
  refine Lp (V_move rfl rfl) rfl rfl ?_
  obtain ⟨p5_1, hc, h⟩ := h
  refine Lp (V_nil rfl (by rw [← hc]; rfl)) rfl rfl ?_
  refine Lp (V_fld rfl Tryz.underlying202 rfl ty200 (by decide) rfl) rfl rfl ?_
  refine Lp (V_fld rfl Tryz.underlying200 rfl ty4 (by decide) rfl) rfl rfl ?_
  obtain ⟨x8_2, hc, h⟩ := h
  refine Ls rfl rfl (X_ld rfl Tryz.underlying4 rfl rfl hc ?_)
  refine Lnil ?_
  refine thenN ?_
  refine AW.iff rfl Iff.rfl h (fun h => ?_) (fun h => ?_)
  · refine AW.seq ?_
    refine AW.reg ?_
    refine Lp (V_asg rfl rfl) rfl rfl ?_
    refine Lp (V_asg rfl rfl) rfl rfl ?_
    refine Lnil ?_
    refine thenN ?_
    refine AW.ret ?_
    refine thenR ?_
    exact bR2 Tryz.results70 rfl rfl ⟨_, _, rfl, h⟩
  refine AW.skip ?_
  refine thenN ?_
  refine AW.seq ?_
  refine AW.reg ?_
  refine Lp (V_move rfl rfl) rfl rfl ?_
  obtain ⟨p10_3, hc, h⟩ := h
  refine Lp (V_nil rfl (by rw [← hc]; rfl)) rfl rfl ?_
  refine Lp (V_fld rfl Tryz.underlying202 rfl ty200 (by decide) rfl) rfl rfl ?_
  refine Lp (V_fld rfl Tryz.underlying200 rfl ty198 (by decide) rfl) rfl rfl ?_
  refine Ls rfl rfl (X_call rfl Tryz.func116 rfl rfl rfl (ACalls.mono h ?_))
  rintro v σ ⟨x13_4, rfl, h⟩
  refine Ls rfl rfl (X_call rfl Tryz.func61 rfl rfl rfl (ACalls.mono h ?_))
  rintro v σ ⟨x14_5, rfl, h⟩
  refine Lp (V_asg rfl rfl) rfl rfl ?_
  refine Lp (V_asg rfl rfl) rfl rfl ?_
  refine Lnil ?_
  refine thenN ?_
  refine AW.ret ?_
  exact bR2 Tryz.results70 rfl rfl ⟨_, _, rfl, h⟩

def f_wire_buffer_num (B : World) (ro : AH) (a0 : Option Addr) (a1 : Int) (σ : AH) (Q : AH → Prop) : Prop :=
 c_wire_right B ro a1 σ fun x5_1 σ =>
 if ¬ (x5_1 = true) then
  ∃ p8_2 : Addr, a0 = some p8_2 ∧
  stN (p8_2.add 3) (fun σ =>
   Q σ) [.bool true] 0 σ
 else
 ∃ p11_3 : Addr, a0 = some p11_3 ∧
 c_wire_put B ro (⟨none, 0, 0⟩ : Sl) a1 σ fun x14_4 σ =>
 c_bytes_Buffer_Write B ro (some p11_3) x14_4 σ fun x15_5 x15_6 σ =>
 Q σ

set_option maxRecDepth 100000 in
set_option maxHeartbeats 4000000 in
theorem wire_buffer_num_ok {B : World} {ro : AH} {a0 : Option Addr} {a1 : Int} {σ : AH} {Q : AH → Prop} (h : Sep ro σ → f_wire_buffer_num B ro a0 a1 σ Q) : c_wire_buffer_num B ro a0 a1 σ Q := by
  refine ACalls.of_sep fun hsep => ?_
  replace h := h hsep
  refine ACalls.of_body (args := [.pointer a0, .int .i64 a1]) Tryz.func113 rfl (by rw [Tryz.ntmps113]; simp) ?_
  rw [Tryz.ntmps113]
  unfold f_wire_buffer_num at h
  refine AW.seq ?_
  refine AW.seq ?_
  refine AW.reg ?_
  refine Lp (V_move rfl rfl) rfl rfl ?_
  refine Ls rfl rfl (X_call rfl Tryz.func135 rfl rfl rfl (ACalls.mono h ?_))
  rintro v σ ⟨x5_1, rfl, h⟩
  refine Lp (V_not rfl rfl) rfl rfl ?_
  refine Lnil ?_
  refine thenN ?_
  refine AW.iff rfl (bnot_iff Iff.rfl) h (fun h => ?_) (fun h => ?_)
  · refine AW.seq ?_
    refine AW.reg ?_
    refine Lp (V_move rfl rfl) rfl rfl ?_
    obtain ⟨p8_2, hc, h⟩ := h
    refine Lp (V_nil rfl (by rw [← hc]; rfl)) rfl rfl ?_
    refine Lp (V_fld rfl Tryz.underlying200 rfl ty4 (by decide) rfl) rfl rfl ?_
    refine Ls rfl rfl (X_st rfl ty4 rfl rfl rfl rfl (stN_mono h fun σ h => ?_))
    refine Lnil ?_
    refine thenN ?_
    refine AW.ret ?_
    refine thenR ?_
    exact bR0 Tryz.results113 ⟨rfl, h⟩
  refine AW.skip ?_
  refine thenN ?_
  refine AW.drawn0 (fun i => ([0, 0, 0, 0, 2, 2] : List Nat).getD i 2) [] [0, 1, 2, 3, 4, 5] Tryz.mixed (by decide +kernel) ?_
  refine Dp rfl rfl rfl rfl (V_move rfl rfl) ?_
  obtain ⟨p11_3, hc, h⟩ := h
  refine Dp rfl rfl rfl rfl (V_nil rfl (by rw [← hc]; rfl)) ?_
  refine Dp rfl rfl rfl rfl (V_fld rfl Tryz.underlying200 rfl ty198 (by decide) rfl) ?_
  refine Dp rfl rfl rfl rfl (V_move rfl rfl) ?_
  refine Dg rfl rfl rfl rfl (X_call rfl Tryz.func136 rfl rfl rfl (ACalls.mono h ?_))
  rintro v σ ⟨x14_4, rfl, h⟩
  refine Dg rfl rfl rfl rfl (X_call rfl Tryz.func115 rfl rfl rfl (ACalls.mono h ?_))
  rintro v σ ⟨x15_5, x15_6, rfl, h⟩
  refine Dend ?_
  exact bN0 Tryz.results113 ⟨rfl, h⟩

def f_wire_right (B : World) (ro : AH) (a0 : Int) (σ : AH) (Q : Bool → AH → Prop) : Prop :=
 Q ((decide (0 ≤ a0)) && (decide (a0 ≤ 4611686018427387903))) σ

set_option maxRecDepth 100000 in
set_option maxHeartbeats 4000000 in
theorem wire_right_ok {B : World} {ro : AH} {a0 : Int} {σ : AH} {Q : Bool → AH → Prop} (h : Sep ro σ → f_wire_right B ro a0 σ Q) : c_wire_right B ro a0 σ Q := by
  refine ACalls.of_sep fun hsep => ?_
  replace h := h hsep
  refine ACalls.of_body (args := [.int .i64 a0]) Tryz.func135 rfl (by rw [Tryz.ntmps135]; simp) ?_
  rw [Tryz.ntmps135]
  unfold f_wire_right at h
  refine AW.seq ?_
  refine AW.reg ?_
  refine Lp (V_asg rfl rfl) rfl rfl ?_
  refine Lnil ?_
  refine thenN ?_
  refine AW.seq ?_
  refine AW.reg ?_
  refine Lp (V_move rfl rfl) rfl rfl ?_
  refine Lp (V_geq rfl rfl rfl) rfl rfl ?_
  refine Lp (V_move rfl rfl) rfl rfl ?_
  refine Lsplit 3 (decide (0 ≤ a0)) [(8, .bool ((decide (0 ≤ a0)) && (decide (a0 ≤ 4611686018427387903))))] ?_ ?_ ?_
  · intro e2 hk2
    refine Lypb (V_move rfl rfl) rfl rfl rfl rfl e2 ?_
    refine Lypb (V_leq rfl rfl rfl) rfl rfl rfl rfl e2 ?_
    refine Lp (V_pickT rfl (evb e2) rfl) rfl rfl ?_
    exact hk2 _ (FrLe.cons (by rw [e2]; rfl) (FrLe.nil _))
  · intro e2 hk2
    refine Ln rfl rfl rfl rfl (.inl (by rw [e2]; rfl)) ?_
    refine Ln rfl rfl rfl rfl (.inl (by rw [e2]; rfl)) ?_
    refine Lp (V_pickF rfl (evb e2) rfl) rfl rfl ?_
    exact hk2 _ (FrLe.cons (by rw [e2]; rfl) (FrLe.nil _))
  intro fr hl
  refine Lfr hl ?_
  refine Lp (V_asg rfl rfl) rfl rfl ?_
  refine Lnil ?_
  refine thenN ?_
  refine AW.ret ?_
  exact bR1 Tryz.results135 rfl ⟨_, rfl, h⟩

def j1_wire_put (B : World) (ro : AH) (Q : Sl → AH → Prop) (x0_2 : Sl) (x1_3 : Int) (σ : AH) : Prop :=
 nw ro σ (.cells #[.int .u8 (IntKind.u8.wrap x1_3)] 5) fun x18_4 σ =>
 awp Tryz.prog ro (Builtin.append_ #[30, 30] 30 #[Sl.v x0_2, Sl.v (⟨some ⟨x18_4, 0, none⟩, 1, 1⟩ : Sl)]) (fun v σ => ∃ (x19_5 : Sl), v = Sl.v x19_5 ∧
  Q x19_5 σ) σ

def l6_wire_put (B : World) (ro : AH) (Q : Sl → AH → Prop) : (Sl × Int) → AH → ((Sl × Int) → AH → Prop) → Prop := fun ⟨x0_7, x1_8⟩ σ Y6 =>
 if 128 ≤ x1_8 then
  nw ro σ (.cells #[.int .u8 (bitOr .u8 (IntKind.u8.wrap x1_8) 128)] 5) fun x13_9 σ =>
  awp Tryz.prog ro (Builtin.append_ #[30, 30] 30 #[Sl.v x0_7, Sl.v (⟨some ⟨x13_9, 0, none⟩, 1, 1⟩ : Sl)]) (fun v σ => ∃ (x14_10 : Sl), v = Sl.v x14_10 ∧
   Y6 (x14_10, Int.fdiv x1_8 (2 ^ (min (Int.toNat 7) 64))) σ) σ
 else
 j1_wire_put B ro Q x0_7 x1_8 σ

def f_wire_put (B : World) (ro : AH) (a0 : Sl) (a1 : Int) (σ : AH) (Q : Sl → AH → Prop) : Prop :=
 lfpD (l6_wire_put B ro Q ) (a0, a1) σ

set_option maxRecDepth 100000 in
set_option maxHeartbeats 4000000 in
theorem wire_put_ok {B : World} {ro : AH} {a0 : Sl} {a1 : Int} {σ : AH} {Q : Sl → AH → Prop} (h : Sep ro σ → f_wire_put B ro a0 a1 σ Q) : c_wire_put B ro a0 a1 σ Q := by
  refine ACalls.of_sep fun hsep => ?_
  replace h := h hsep
  refine ACalls.of_body (args := [Sl.v a0, .int .i64 a1]) Tryz.func136 rfl (by rw [Tryz.ntmps136]; simp) ?_
  rw [Tryz.ntmps136]
  unfold f_wire_put at h
  refine AW.seq ?_
  refine AW.reg ?_
  refine Lp (V_asg rfl rfl) rfl rfl ?_
  refine Lnil ?_
  refine thenN ?_
  refine AW.seqJ (fun fr σ => ∃ (x0_2 : Sl) (x1_3 : Int), FrLe [(0, Sl.v x0_2), (1, .int .i64 x1_3)] fr ∧ j1_wire_put B ro Q x0_2 x1_3 σ) ?_ ?_
  · rintro fr σ ⟨x0_2, x1_3, hl, h⟩
    refine AW.weaken ?_ hl (HLe.refl _)
    unfold j1_wire_put at h
    refine AW.seq ?_
    refine AW.reg ?_
    refine Lp (V_move rfl rfl) rfl rfl ?_
    refine Lp (V_move rfl rfl) rfl rfl ?_
    refine Lp (V_cvt rfl rfl Tryz.underlying3 Tryz.underlying5) rfl rfl ?_
    refine Ls rfl rfl (X_new (A_bsl (vs := [(0, .int .u8 (IntKind.u8.wrap x1_3))]) (cs := #[.int .u8 (IntKind.u8.wrap x1_3)]) rfl Tryz.underlying30 ty5 (by decide) rfl rfl) fun x18_4 g1 g2 => ?_)
    replace h := h x18_4 g1 g2
    refine Ls rfl rfl (X_bi (s := Builtin.append_ #[30, 30] 30 #[Sl.v x0_2, Sl.v (⟨some ⟨x18_4, 0, none⟩, 1, 1⟩ : Sl)]) rfl rfl (fun _ => rfl) (awp_mono _ h ?_))
    rintro v σ ⟨x19_5, rfl, h⟩
    refine Lp (V_asg rfl rfl) rfl rfl ?_
    refine Lnil ?_
    refine thenN ?_
    refine AW.ret ?_
    exact bR1 Tryz.results136 rfl ⟨_, rfl, h⟩
  refine AW.block ?_
  refine ARound.loop (fr' := [(0, Sl.v a0), (1, .int .i64 a1)]) ?_ (FrLe.cons rfl (FrLe.cons rfl (FrLe.nil _)))
  refine h (fun ⟨x0_7, x1_8⟩ σ => ARound _ _ _ _ _ _ [(0, Sl.v x0_7), (1, .int .i64 x1_8)] σ) ?_
  rintro ⟨x0_7, x1_8⟩ σ Y6 hY6 h
  show AW _ _ _ _ _ _ _ _
  unfold l6_wire_put at h
  dsimp only at h
  refine AW.seq ?_
  refine AW.seq ?_
  refine AW.reg ?_
  refine Lp (V_move rfl rfl) rfl rfl ?_
  refine Lp (V_geq rfl rfl rfl) rfl rfl ?_
  refine Lnil ?_
  refine thenN ?_
  refine AW.iff rfl decide_eq_true_iff h (fun h => ?_) (fun h => ?_)
  rotate_left
  · refine AW.exit ?_
    refine thenE ?_
    refine thenE ?_
    refine blockE ?_
    refine thenN ?_
    exact ⟨_, _, (FrLe.cons rfl (FrLe.cons rfl (FrLe.nil _))), h⟩
  refine AW.skip ?_
  refine thenN ?_
  refine AW.seq ?_
  refine AW.block ?_
  refine AW.reg ?_
  refine Lp (V_move rfl rfl) rfl rfl ?_
  refine Lp (V_move rfl rfl) rfl rfl ?_
  refine Lp (V_cvt rfl rfl Tryz.underlying3 Tryz.underlying5) rfl rfl ?_
  refine Lp (V_or rfl rfl rfl) rfl rfl ?_
  refine Ls rfl rfl (X_new (A_bsl (vs := [(0, .int .u8 (bitOr .u8 (IntKind.u8.wrap x1_8) 128))]) (cs := #[.int .u8 (bitOr .u8 (IntKind.u8.wrap x1_8) 128)]) rfl Tryz.underlying30 ty5 (by decide) rfl rfl) fun x13_9 g1 g2 => ?_)
  replace h := h x13_9 g1 g2
  refine Ls rfl rfl (X_bi (s := Builtin.append_ #[30, 30] 30 #[Sl.v x0_7, Sl.v (⟨some ⟨x13_9, 0, none⟩, 1, 1⟩ : Sl)]) rfl rfl (fun _ => rfl) (awp_mono _ h ?_))
  rintro v σ ⟨x14_10, rfl, h⟩
  refine Lp (V_asg rfl rfl) rfl rfl ?_
  refine Lnil ?_
  refine blockN ?_
  refine thenN ?_
  refine AW.reg ?_
  refine Lp (V_move rfl rfl) rfl rfl ?_
  refine Lp (V_shr rfl rfl rfl (by decide)) rfl rfl ?_
  refine Lp (V_asg rfl rfl) rfl rfl ?_
  refine Lnil ?_
  refine thenN ?_
  refine ARound.head (fr' := [(0, Sl.v x14_10), (1, .int .i64 (Int.fdiv x1_8 (2 ^ (min (Int.toNat 7) 64))))]) ?_ (FrLe.cons rfl (FrLe.cons rfl (FrLe.nil _)))
  exact hY6 _ _ h

end Go.Proofs.YthfpmipeejjogaaGreatDoor.G

/- The wire, the walk: a writer. -/
namespace Go.Proofs.YthfpmipeejjogaaGreatDoor.Wi
open Go Go.Proofs.YthfpmipeejjogaaGreatDoor.SL Go.Proofs.YthfpmipeejjogaaGreatDoor.G Go.Proofs.YthfpmipeejjogaaGreatDoor.Zt
set_option linter.unusedSimpArgs false
set_option linter.unusedVariables false
variable {B : World} {ro σ σ' : AH} {tag tag' : Nat → Nat}

theorem u8or (n : Nat) : bitOr .u8 (IntKind.u8.wrap (n : Int)) 128 = ((n % 128 + 128 : Nat) : Int) := by
  have h : ∀ c : Fin 256, bitOr .u8 ((c.val : Nat) : Int) 128 = ((c.val % 128 + 128 : Nat) : Int) := by decide +kernel
  have e : IntKind.u8.wrap (n : Int) = ((n % 256 : Nat) : Int) := by
    simp [IntKind.wrap, IntKind.bits, IntKind.signed]
  rw [e, h ⟨n % 256, Nat.mod_lt _ (by decide)⟩]
  simp only
  omega
theorem u8wrap {n : Nat} (h : n < 256) : IntKind.u8.wrap (n : Int) = (n : Int) := by
  simp [IntKind.wrap, IntKind.bits, IntKind.signed]; omega
theorem vU_of {n : Nat} (h : n < 256) : vU (UInt8.ofNat n) = .int .u8 (n : Int) := by
  unfold vU; rw [u8_of n h]
theorem right_ok {n : Int} {Q : Bool → AH → Prop} (hQ : Q (rightN n) σ) : c_wire_right B ro n σ Q := by
  refine wire_right_ok fun _ => ?_
  unfold f_wire_right
  exact hQ
set_option maxRecDepth 100000 in
theorem put_ok {n : Nat} {Q : Sl → AH → Prop} (hs : SL.Sep ro σ) (hn : n < 4611686018427387904) (hQ : ∀ s tag' σ', Step [1] ro tag σ tag' σ' → Row tag' σ' 1 5 s ((vput n).map vU) → Q s σ') : c_wire_put B ro ⟨none, 0, 0⟩ (n : Int) σ Q := by
  refine wire_put_ok fun _ => ?_
  unfold f_wire_put
  suffices ∀ (m k : Nat) (acc : Str) (s : Sl) (tag1 : Nat → Nat) (σ1 : AH), k < 128 ^ (m + 1) → acc.length + m < 20 → acc ++ vput k = vput n → Step [1] ro tag σ tag1 σ1 → Row tag1 σ1 1 5 s (acc.map vU) → lfpD (l6_wire_put B ro Q) (s, (k : Int)) σ1 from
    this 8 n [] ⟨none, 0, 0⟩ tag σ (by omega) (by decide) rfl (Step.refl hs) (Row.nil 1 5)
  intro m
  induction m with
  | zero =>
    intro k acc s tag1 σ1 hk ha he st r1
    have hk : k < 128 := by simpa using hk
    refine lfpD.intro ?_
    unfold l6_wire_put
    simp only
    rw [if_neg (by omega)]
    unfold j1_wire_put
    refine nw_cells (tag := tag1) 0 st.sep fun x tag2 σ2 st2 r2 => ?_
    rw [u8wrap (by omega)] at r2
    refine awp_appendN (l2 := [vU (UInt8.ofNat k)]) (r1.keep (st2 []) (by simp)) (st2 []).sep (by rw [vU_of (by omega)]; exact r2.read (st2 []).sep) u30 ty5 rfl (by simp [storable]) (by simp; omega) (by decide) fun s' tag3 σ3 st3 r3 => ?_
    refine ⟨s', rfl, hQ s' tag3 σ3 (st.trans ((st2 _).trans (st3 _ (.inr (by simp))))) ?_⟩
    rw [← he]
    rw [vput, if_pos hk, List.map_append]
    exact r3
  | succ m ih =>
    intro k acc s tag1 σ1 hk ha he st r1
    refine lfpD.intro ?_
    unfold l6_wire_put
    simp only
    by_cases h128 : 128 ≤ k
    · rw [if_pos (by omega)]
      refine nw_cells (tag := tag1) 0 st.sep fun x tag2 σ2 st2 r2 => ?_
      rw [u8or] at r2
      refine awp_appendN (l2 := [vU (UInt8.ofNat (k % 128 + 128))]) (r1.keep (st2 []) (by simp)) (st2 []).sep (by rw [vU_of (by omega)]; exact r2.read (st2 []).sep) u30 ty5 rfl (by simp [storable]) (by simp; omega) (by decide) fun s' tag3 σ3 st3 r3 => ?_
      refine ⟨s', rfl, ?_⟩
      rw [show Int.fdiv (k : Int) (2 ^ (min (Int.toNat 7) 64)) = ((k / 128 : Nat) : Int) by
        rw [show (2 : Int) ^ (min (Int.toNat 7) 64) = 128 from by decide, Int.fdiv_eq_ediv_of_nonneg _ (by decide)]; omega]
      refine ih (k / 128) (acc ++ [UInt8.ofNat (k % 128 + 128)]) s' tag3 σ3 (by rw [Nat.pow_succ] at hk; exact Nat.div_lt_of_lt_mul (by rw [Nat.mul_comm]; exact hk)) (by simp; omega) ?_ (st.trans ((st2 _).trans (st3 _ (.inr (by simp))))) (by rw [List.map_append]; exact r3)
      rw [← he, List.append_assoc]
      conv => rhs; rw [vput, if_neg (by omega)]
      rfl
    · rw [if_neg (by omega)]
      unfold j1_wire_put
      refine nw_cells (tag := tag1) 0 st.sep fun x tag2 σ2 st2 r2 => ?_
      rw [u8wrap (by omega)] at r2
      refine awp_appendN (l2 := [vU (UInt8.ofNat k)]) (r1.keep (st2 []) (by simp)) (st2 []).sep (by rw [vU_of (by omega)]; exact r2.read (st2 []).sep) u30 ty5 rfl (by simp [storable]) (by simp; omega) (by decide) fun s' tag3 σ3 st3 r3 => ?_
      refine ⟨s', rfl, hQ s' tag3 σ3 (st.trans ((st2 _).trans (st3 _ (.inr (by simp))))) ?_⟩
      rw [← he]
      rw [vput, if_pos (by omega), List.map_append]
      exact r3

/-- what a number does to what was written -/
def wnum (a : Str × Bool) (n : Int) : Str × Bool := if rightN n then (a.1 ++ vput n.toNat, a.2) else (a.1, true)
theorem wnum_len (a : Str × Bool) (n : Int) : (wnum a n).1.length ≤ a.1.length + 9 := by
  unfold wnum
  split
  · rename_i h
    unfold rightN at h
    simp only [Bool.and_eq_true, decide_eq_true_eq] at h
    have := (vput_len 8 n.toNat (by omega)).2
    simp; omega
  · simp
set_option maxRecDepth 100000 in
theorem num_ok {r W : Nat} {a : Str × Bool} {n : Int} {Q : AH → Prop} (h : BufAt tag σ r W a.1 a.2) (hr : r ≠ 1) (hs : SL.Sep ro σ) (hl : a.1.length + 9 ≤ 140737488355328)
    (hQ : ∀ tag' σ', Step [r, r + 64, 1] ro tag σ tag' σ' → BufAt tag' σ' r W (wnum a n).1 (wnum a n).2 → Q σ') : c_wire_buffer_num B ro (some ⟨W, 0, none⟩) n σ Q := by
  refine wire_buffer_num_ok fun _ => ?_
  unfold f_wire_buffer_num
  refine right_ok ?_
  unfold wnum at hQ
  by_cases hn : rightN n = true
  · rw [if_neg (by simp [hn])]
    simp only [hn, if_true] at hQ
    have hn' := hn
    unfold rightN at hn'
    simp only [Bool.and_eq_true, decide_eq_true_eq] at hn'
    refine ⟨_, rfl, ?_⟩
    obtain ⟨k, rfl⟩ := Int.eq_ofNat_of_zero_le hn'.1
    rw [Int.toNat_natCast] at hQ
    refine put_ok (tag := tag) hs (by omega) fun s tag1 σ1 st1 r1 => ?_
    have hk := (vput_len 8 k (by omega)).2
    refine bufWrite_ok (d := vput k) (h.keep st1 (by simpa using hr) (by simp)) st1.sep (by omega) (by rw [r1.len]; simp) (fun tag2 σ2 st2 => (r1.keep st2 (by simp; omega)).read st2.sep) fun _ _ tag2 σ2 st2 h2 => ?_
    exact hQ tag2 σ2 ((st1.mono (by simp)).trans (st2.mono (by simp))) h2
  · rw [if_pos (by simpa using hn)]
    simp only [hn] at hQ
    obtain ⟨s0, hcap, lr, h1, h2⟩ := h
    refine ⟨_, rfl, ?_⟩
    refine h1.st (i := 3) hs rfl (by simp) rfl fun σ1 st1 r1 => ?_
    exact hQ tag σ1 (st1.mono (by simp)) ⟨s0, hcap, lr, r1, h2.keep st1 (by simp)⟩
set_option maxRecDepth 100000 in
theorem newWriter_ok {r : Nat} {Q : Option Addr → AH → Prop} (hQ : ∀ W tag' σ', (∀ R, Step R ro tag σ tag' σ') → BufAt tag' σ' r W [] false → Q (some ⟨W, 0, none⟩) σ') : c_wire_NewWriter B ro σ Q := by
  refine wire_NewWriter_ok fun hs => ?_
  unfold f_wire_NewWriter
  refine nw_cells (tag := tag) r hs fun W tag1 σ1 st1 r1 => ?_
  exact hQ W tag1 σ1 st1 ⟨⟨none, 0, 0⟩, by decide, 0, r1, Row.nil _ _⟩

theorem not1 : ¬ (IntKind.i64.wrap (0 + 1) < ((1 : Nat) : Int)) := by decide
def wtext (a : Str × Bool) (p : Str) : Str × Bool := ((wnum a p.length).1 ++ p, (wnum a p.length).2)
theorem wtext_len (a : Str × Bool) (p : Str) : (wtext a p).1.length ≤ a.1.length + 9 + p.length := by
  have := wnum_len a p.length
  unfold wtext; simp; omega
set_option maxRecDepth 100000 in
/-- one text -/
theorem texts1_ok {r W x q : Nat} {a : Str × Bool} {p : Str} {Q : AH → Prop} (h : BufAt tag σ r W a.1 a.2) (hr : r ≠ 1) (hq : q ≠ r ∧ q ≠ r + 64 ∧ q ≠ 1) (hs : SL.Sep ro σ) (hl : a.1.length + 9 + p.length ≤ 140737488355328) (hx : Row tag σ q 9 ⟨some ⟨x, 0, none⟩, 1, 1⟩ [Pa.vS p])
    (hQ : ∀ tag' σ', Step [r, r + 64, 1] ro tag σ tag' σ' → BufAt tag' σ' r W (wtext a p).1 (wtext a p).2 → Q σ') : c_wire_Writer_Texts B ro (some ⟨W, 0, none⟩) ⟨some ⟨x, 0, none⟩, 1, 1⟩ σ Q := by
  refine wire_Writer_Texts_ok fun _ => ?_
  unfold f_wire_Writer_Texts
  refine lfpD.intro ?_
  unfold l1_wire_Writer_Texts
  rw [if_pos (by simp)]
  refine ⟨_, rfl, by decide, by simp, S p, hx.cell1 hs, _, rfl, ?_⟩
  have hlen := wnum_len a p.length
  rw [show ((S p).size : Int) = (p.length : Nat) from by rw [← L_len, L_S]]
  refine num_ok h hr hs (by omega) fun tag1 σ1 st1 h1 => ?_
  refine ⟨_, rfl, ?_⟩
  refine bufWriteStr_ok h1 st1.sep (by rw [L_S]; omega) fun _ _ tag2 σ2 st2 h2 => ?_
  rw [L_S] at h2
  refine lfpD.intro ?_
  rw [if_neg (show ¬ (IntKind.i64.wrap (0 + 1) < ((⟨some ⟨x, 0, none⟩, 1, 1⟩ : Sl).len : Int)) from not1)]
  exact hQ tag2 σ2 (st1.trans (st2.mono (by simp))) h2
set_option maxRecDepth 100000 in
/-- one blob -/
theorem blobs1_ok {r W x q : Nat} {a : Str × Bool} {s : Sl} {p : Str} {Q : AH → Prop} (h : BufAt tag σ r W a.1 a.2) (hr : r ≠ 1) (hq : q ≠ r ∧ q ≠ r + 64 ∧ q ≠ 1) (hs : SL.Sep ro σ) (hl : a.1.length + 9 + p.length ≤ 140737488355328) (hx : Row tag σ q 30 ⟨some ⟨x, 0, none⟩, 1, 1⟩ [Sl.v s]) (hsl : s.len = p.length)
    (hsrc : ∀ tag' σ', Step [r, r + 64, 1] ro tag σ tag' σ' → SL.Read ro σ' s (p.map vU)) (hQ : ∀ tag' σ', Step [r, r + 64, 1] ro tag σ tag' σ' → BufAt tag' σ' r W (wtext a p).1 (wtext a p).2 → Q σ') :
    c_wire_Writer_Blobs B ro (some ⟨W, 0, none⟩) ⟨some ⟨x, 0, none⟩, 1, 1⟩ σ Q := by
  refine wire_Writer_Blobs_ok fun _ => ?_
  unfold f_wire_Writer_Blobs
  refine lfpD.intro ?_
  unfold l1_wire_Writer_Blobs
  rw [if_pos (by simp)]
  refine ⟨_, rfl, by decide, by simp, s, hx.cell1 hs, _, rfl, ?_⟩
  have hlen := wnum_len a p.length
  rw [hsl]
  refine num_ok h hr hs (by omega) fun tag1 σ1 st1 h1 => ?_
  refine ⟨_, rfl, ?_⟩
  have wid : ∀ x ∈ [r, r + 64], x ∈ [r, r + 64, 1] := fun x hx => by
    simp only [List.mem_cons, List.not_mem_nil, or_false] at hx ⊢
    rcases hx with h | h <;> simp [h]
  refine bufWrite_ok (d := p) h1 st1.sep (by omega) hsl (fun tag2 σ2 st2 => hsrc tag2 σ2 (st1.trans (st2.mono wid))) fun _ _ tag2 σ2 st2 h2 => ?_
  refine lfpD.intro ?_
  rw [if_neg (show ¬ (IntKind.i64.wrap (0 + 1) < ((⟨some ⟨x, 0, none⟩, 1, 1⟩ : Sl).len : Int)) from not1)]
  exact hQ tag2 σ2 (st1.trans (st2.mono wid)) h2
set_option maxRecDepth 100000 in
theorem nums_ok {r W q : Nat} {s : Sl} {Q : AH → Prop} (hr : r ≠ 1) (hq : q ≠ r ∧ q ≠ r + 64 ∧ q ≠ 1) {ns : List Int} {a : Str × Bool} (h : BufAt tag σ r W a.1 a.2) (hs : SL.Sep ro σ) (hl : a.1.length + 9 * ns.length ≤ 140737488355328) (hx : Row tag σ q 3 s (ns.map Zt.vI))
    (hQ : ∀ tag' σ', Step [r, r + 64, 1] ro tag σ tag' σ' → BufAt tag' σ' r W (ns.foldl wnum a).1 (ns.foldl wnum a).2 → Q σ') : c_wire_Writer_Nums B ro (some ⟨W, 0, none⟩) s σ Q := by
  refine wire_Writer_Nums_ok fun _ => ?_
  unfold f_wire_Writer_Nums
  have hsl : s.len = ns.length := by rw [hx.len, List.length_map]
  suffices ∀ (m j : Nat) (tag1 : Nat → Nat) (σ1 : AH), j + m = ns.length → Step [r, r + 64, 1] ro tag σ tag1 σ1 → ((ns.take j).foldl wnum a).1.length ≤ a.1.length + 9 * j → BufAt tag1 σ1 r W ((ns.take j).foldl wnum a).1 ((ns.take j).foldl wnum a).2 → lfpD (l1_wire_Writer_Nums B ro (some ⟨W, 0, none⟩) s Q) (j : Int) σ1 from
    this _ 0 tag σ (Nat.zero_add _) (Step.refl hs) (by simp) (by simpa using h)
  intro m
  induction m with
  | zero =>
    intro j tag1 σ1 hj st _ h1
    refine lfpD.intro ?_
    unfold l1_wire_Writer_Nums
    rw [if_neg (by omega)]
    rw [List.take_of_length_le (by omega)] at h1
    exact hQ tag1 σ1 st h1
  | succ m ih =>
    intro j tag1 σ1 hj st hln h1
    have hjl : j < ns.length := by omega
    have hx1 := hx.keep st (by simp; omega)
    obtain ⟨p, hp, hg⟩ := hx1.ptr st.sep (by simp; omega)
    refine lfpD.intro ?_
    unfold l1_wire_Writer_Nums
    rw [if_pos (by omega)]
    refine ⟨p, hp, by omega, by omega, ns[j], ?_, _, rfl, ?_⟩
    · have := hg j (Zt.vI ns[j]) (by rw [List.getElem?_map, List.getElem?_eq_getElem hjl]; rfl)
      rw [Int.toNat_natCast]; exact this
    · refine num_ok h1 hr st.sep (by omega) fun tag2 σ2 st2 h2 => ?_
      rw [Pa.inc j (by omega)]
      have e : (ns.take (j + 1)).foldl wnum a = wnum ((ns.take j).foldl wnum a) ns[j] := by
        rw [List.take_add_one, List.getElem?_eq_getElem hjl, List.foldl_append]; rfl
      have := wnum_len ((ns.take j).foldl wnum a) ns[j]
      exact ih (j + 1) tag2 σ2 (by omega) (st.trans st2) (by rw [e]; omega) (by rw [e]; exact h2)
set_option maxRecDepth 100000 in
theorem out_ok {r W : Nat} {a : Str × Bool} {Q : Sl → Int → AH → Prop} (h : BufAt tag σ r W a.1 a.2) (hs : SL.Sep ro σ) (hl : a.1.length ≤ 140737488355328)
    (hbad : a.2 = true → Q ⟨none, 0, 0⟩ 10 σ) (hgood : a.2 = false → ∀ s tag' σ', (∀ R, Step R ro tag σ tag' σ') → Row tag' σ' 6 5 s (a.1.map vU) → Q s 0 σ') : c_wire_Writer_Out B ro (some ⟨W, 0, none⟩) σ Q := by
  refine wire_Writer_Out_ok fun _ => ?_
  unfold f_wire_Writer_Out
  obtain ⟨s0, hcap, lr, h1, h2⟩ := h
  obtain ⟨p, hp, hg⟩ := h1.ptr hs (by simp)
  cases hp
  refine ⟨_, rfl, a.2, hg 3 _ rfl, ?_⟩
  by_cases hb : a.2 = true
  · rw [if_pos hb]; exact hbad hb
  · rw [if_neg hb]
    refine ⟨_, rfl, ?_⟩
    refine bytes_Buffer_Bytes_ok fun _ => ?_
    unfold f_bytes_Buffer_Bytes
    refine ⟨_, rfl, _, rfl, s0, hg 0 _ rfl, 0, hg 1 _ rfl, ⟨trivial, by decide, by simp only [cutHi]; omega⟩, ?_⟩
    rw [show (⟨cutA s0.a (Int.toNat 0) s0.cap 1, s0.len - Int.toNat 0, s0.cap - Int.toNat 0⟩ : Sl) = s0 from by rw [show Int.toNat 0 = 0 from rfl, cutA_zero]; rfl]
    refine clone_ok (tag := tag) (h2.read hs) hs (by simp; omega) (vU_st _) fun s' tag1 σ1 st1 r1 => ?_
    exact hgood (by simpa using hb) s' tag1 σ1 st1 r1
end Go.Proofs.YthfpmipeejjogaaGreatDoor.Wi

/- The tree's bytes, the walk; bytes as a string. -/
namespace Go.Proofs.YthfpmipeejjogaaGreatDoor.Zt
open Go Go.Proofs.YthfpmipeejjogaaGreatDoor.SL Go.Proofs.YthfpmipeejjogaaGreatDoor.G Go.Proofs.YthfpmipeejjogaaGreatDoor.Pa Go.Proofs.YthfpmipeejjogaaGreatDoor.Wi
set_option linter.unusedSimpArgs false
set_option linter.unusedVariables false
variable {B : World} {ro σ σ' : AH} {tag tag' : Nat → Nat}

theorem u5'' : Tryz.prog.underlying 5 = some (.int .u8) := by kernel_rfl
theorem forIn_bytes {P : Program} {f : Value → ByteArray → Sem (ForInStep ByteArray)} (hf : ∀ (c : UInt8) (r : ByteArray), f (vU c) r = Sem.pure (.yield (r.push c))) :
    ∀ (l : Str) (s : Str), (forIn (l.map vU) (S s) f : Sem ByteArray) = Sem.pure (S (s ++ l)) := by
  intro l
  induction l with
  | nil => intro s; simp; rfl
  | cons c l ih =>
    intro s
    simp only [List.map_cons, List.forIn_cons]
    rw [hf]
    show (match ForInStep.yield ((S s).push c) with | _ => _ : Sem ByteArray) = _
    have e : (S s).push c = S (s ++ [c]) := by unfold S; simp [ByteArray.push]
    show forIn (l.map vU) ((S s).push c) f = _
    rw [e, ih]
    simp
theorem awp_b2s {s : Sl} {l : Str} {K : Value → AH → Prop} (h : SL.Read ro σ s (l.map vU)) (hK : K (.string (S l)) σ) : awp Tryz.prog ro (convert 30 9 (Sl.v s)) K σ := by
  unfold convert
  simp only [bind_def]
  rw [awp_underlying u30, awp_underlying u9]
  simp only [Sl.v]
  rw [awp_underlying u5'']
  simp only
  unfold Conv.bytesToString
  cases hs : s.a with
  | none =>
    have : l = [] := by have := h.2.1 hs; simpa using this
    subst this
    exact hK
  | some p =>
    simp only
    rw [h.1]
    refine (awp_bind _ _).2 ?_
    refine awp_loadCells (l.map vU) 0 #[] (cellsAt_of 0 fun j v hj => by rw [Nat.zero_add]; exact h.2.2 p hs j v hj) ?_
    simp only [List.nil_append, List.forIn_toArray, Array.empty_append]
    refine (awp_bind _ _).2 ?_
    refine cast (congrArg (fun z => awp Tryz.prog ro z _ σ) (forIn_bytes (P := Tryz.prog) ?_ l [])).symm ?_
    · intro c r
      simp only [vU]
      show Sem.pure (ForInStep.yield (r.push (UInt8.ofNat (Int.toNat (c.toNat : Int))))) = _
      rw [Int.toNat_natCast]; simp
    · exact hK
set_option maxRecDepth 100000 in
theorem same_ok {a b : Sl} {x y : Str} {Q : Bool → AH → Prop} (ha : SL.Read ro σ a (x.map vU)) (hb : SL.Read ro σ b (y.map vU)) (hQ : Q (decide (x = y)) σ) : c_ref01_Same B ro a b σ Q := by
  refine ref01_Same_ok fun _ => ?_
  unfold f_ref01_Same
  refine awp_b2s ha ⟨S x, rfl, awp_b2s hb ⟨S y, rfl, ?_⟩⟩
  rw [show decide (S x = S y) = decide (x = y) from by simp only [S_inj]]
  exact hQ

/-! what a writer holds behind nodes -/
def wnode (a : Str × Bool) (p : Str × Nd) : Str × Bool := [p.2.ver, p.2.ctr, p.2.own].foldl wnum (wtext (wtext a p.1) p.2.data)
theorem wnum_bad (a : Str × Bool) (n : Int) (h : a.2 = true) : (wnum a n).2 = true := by unfold wnum; split <;> simp [h]
theorem wtext_bad (a : Str × Bool) (p : Str) (h : a.2 = true) : (wtext a p).2 = true := by unfold wtext; exact wnum_bad _ _ h
theorem wnode_bad (a : Str × Bool) (p : Str × Nd) (h : a.2 = true) : (wnode a p).2 = true := by
  unfold wnode
  simp only [List.foldl_cons, List.foldl_nil]
  exact wnum_bad _ _ (wnum_bad _ _ (wnum_bad _ _ (wtext_bad _ _ (wtext_bad _ _ h))))
theorem wtext_eq (a : Str × Bool) (p : Str) (h : p.length ≤ 4611686018427387903) : wtext a p = (a.1 ++ blob p, a.2) := by
  have hr : rightN (p.length : Int) = true := by simp [rightN]; omega
  unfold wtext wnum
  rw [if_pos hr]
  simp [blob]
theorem wnode_eq (a : Str × Bool) (p : Str × Nd) (h1 : p.1.length ≤ 4611686018427387903) (h2 : p.2.data.length ≤ 4611686018427387903) (h : numsOk p.2 = true) : wnode a p = (a.1 ++ encN p, a.2) := by
  unfold numsOk at h
  simp only [Bool.and_eq_true] at h
  unfold wnode
  rw [wtext_eq _ _ h1, wtext_eq _ _ h2]
  simp only [List.foldl_cons, List.foldl_nil]
  unfold wnum
  rw [if_pos h.1.1, if_pos h.1.2, if_pos h.2]
  simp [encN]
theorem wnode_no (a : Str × Bool) (p : Str × Nd) (h : numsOk p.2 = false) : (wnode a p).2 = true := by
  unfold wnode
  simp only [List.foldl_cons, List.foldl_nil]
  unfold numsOk at h
  by_cases h1 : rightN p.2.ver = true
  · by_cases h2 : rightN p.2.ctr = true
    · have h3 : ¬ rightN p.2.own = true := by simpa [h1, h2] using h
      unfold wnum; rw [if_neg h3]
    · refine wnum_bad _ _ ?_
      unfold wnum; rw [if_neg h2]
  · refine wnum_bad _ _ (wnum_bad _ _ ?_)
    unfold wnum; rw [if_neg h1]
theorem wnode_len (a : Str × Bool) (p : Str × Nd) : (wnode a p).1.length ≤ a.1.length + 45 + p.1.length + p.2.data.length := by
  unfold wnode
  simp only [List.foldl_cons, List.foldl_nil]
  have h1 := wtext_len a p.1
  have h2 := wtext_len (wtext a p.1) p.2.data
  have h3 := wnum_len (wtext (wtext a p.1) p.2.data) p.2.ver
  have h4 := wnum_len (wnum (wtext (wtext a p.1) p.2.data) p.2.ver) p.2.ctr
  have h5 := wnum_len (wnum (wnum (wtext (wtext a p.1) p.2.data) p.2.ver) p.2.ctr) p.2.own
  omega
theorem wfold_bad (x : St) (a : Str × Bool) (h : a.2 = true) : (x.foldl wnode a).2 = true := by
  induction x generalizing a with
  | nil => exact h
  | cons p x ih => exact ih _ (wnode_bad a p h)
theorem wfold (x : St) (hx : ∀ p ∈ x, p.1.length ≤ 4611686018427387903 ∧ p.2.data.length ≤ 4611686018427387903) (a : Str × Bool) :
    (x.all (fun p => numsOk p.2) = true → x.foldl wnode a = (a.1 ++ encL x, a.2)) ∧ (x.all (fun p => numsOk p.2) = false → (x.foldl wnode a).2 = true) := by
  induction x generalizing a with
  | nil => exact ⟨fun _ => by simp [encL], fun h => by simp at h⟩
  | cons p x ih =>
    have hp := hx p (by simp)
    have := ih (fun q hq => hx q (by simp [hq])) (wnode a p)
    refine ⟨fun h => ?_, fun h => ?_⟩
    · simp only [List.all_cons, Bool.and_eq_true] at h
      rw [List.foldl_cons, this.1 h.2, wnode_eq a p hp.1 hp.2 h.1]
      simp [encL]
    · rw [List.foldl_cons]
      cases hn : numsOk p.2 with
      | false => exact wfold_bad _ _ (wnode_no a p hn)
      | true => exact this.2 (by simpa [hn] using h)
set_option maxRecDepth 100000 in
theorem encode_ok {r T M : Nat} {bs : List Nat} {st : St} {Q : Sl → AH → Prop} (hr : r < 64) (hr0 : r ≠ 0) (hr1 : r ≠ 1) (hr6 : r ≠ 6) (hr3 : r ≠ 30) (h : TreeAt tag σ r T M bs st) (hl : ∀ p ∈ st, p.1.length ≤ 128 ∧ p.2.data.length ≤ 256) (hn : st.length ≤ 4294967296)
    (hQ : ∀ (s : Sl) (tag' : Nat → Nat) (σ' : AH), Step [30, 94, 1] ro tag σ tag' σ' → Row tag' σ' 6 5 s ((encS st).map vU) → Q s σ') : c_ztree_Tree_Encode B ro (some ⟨T, 0, none⟩) σ Q := by
  refine ztree_Tree_Encode_ok fun hs => ?_
  unfold f_ztree_Tree_Encode
  have hR : ∀ x ∈ [30, 94, 1], x % 64 ≠ r % 64 ∧ x ≠ 6 := fun x hx => by
    simp only [List.mem_cons, List.not_mem_nil, or_false] at hx
    omega
  refine newWriter_ok (tag := tag) (r := 30) fun W tag1 σ1 st1 b1 => ?_
  refine paths_ok (q := 22) (h.keep (st1 []) (by simp)) (fun p hp => (hl p hp).1) (by omega) fun s tag2 σ2 ks st2 hpm hsrt hr2 => ?_
  have hks := srt_keys h.keys hpm hsrt
  have hsl : s.len = ks.length := by rw [hr2.len, List.length_map]
  have hkl : ks.length = (srt st).length := by rw [hks, List.length_map]
  have hkn : ks.length = st.length := by rw [hpm.length_eq, List.length_map]
  have hmem : ∀ p ∈ srt st, p.1.length ≤ 128 ∧ p.2.data.length ≤ 256 := fun p hp => hl p ((srt_perm st).mem_iff.1 hp)
  suffices ∀ (m j : Nat) (tag3 : Nat → Nat) (σ3 : AH), j + m = ks.length → Step [30, 94, 1] ro tag σ tag3 σ3 → TreeAt tag3 σ3 r T M bs st → Row tag3 σ3 22 9 s (ks.map Pa.vS) → (((srt st).take j).foldl wnode ([], false)).1.length ≤ 429 * j →
      BufAt tag3 σ3 30 W (((srt st).take j).foldl wnode ([], false)).1 (((srt st).take j).foldl wnode ([], false)).2 → lfpD (l6_ztree_Tree_Encode B ro (some ⟨T, 0, none⟩) (some ⟨W, 0, none⟩) s Q) (j : Int) σ3 from
    this _ 0 tag2 σ2 (Nat.zero_add _) ((st1 _).trans (st2 _)) ((h.keep (st1 []) (by simp)).keep (st2 []) (by simp)) hr2 (by simp) (b1.keep (st2 []) (by simp) (by simp))
  intro m
  induction m with
  | zero =>
    intro j tag3 σ3 hj hst hA hrow hlen hb
    refine lfpD.intro ?_
    unfold l6_ztree_Tree_Encode
    rw [if_neg (by omega)]
    unfold j2_ztree_Tree_Encode
    rw [List.take_of_length_le (by omega)] at hb hlen
    have hw := wfold (srt st) (fun p hp => by have := hmem p hp; omega) ([], false)
    have hes : encS st = if (srt st).all (fun p => numsOk p.2) = true then encL (srt st) else [] := rfl
    refine out_ok hb hst.sep (by omega) (fun hbad => ?_) fun hgood s' tag4 σ4 st4 r4 => ?_
    · refine hQ _ tag3 σ3 hst ?_
      rw [hes, if_neg (fun hall => by rw [hw.1 hall] at hbad; cases hbad)]
      exact Row.nil 6 5
    · refine hQ s' tag4 σ4 (hst.trans (st4 _)) ?_
      have hall : (srt st).all (fun p => numsOk p.2) = true := by
        cases e : (srt st).all (fun p => numsOk p.2) with
        | true => rfl
        | false => rw [hw.2 e] at hgood; cases hgood
      rw [hes, if_pos hall]
      rw [hw.1 hall] at r4
      simpa using r4
  | succ m ih =>
    intro j tag3 σ3 hj hst hA hrow hlen hb
    have hjl : j < ks.length := by omega
    have hjs : j < (srt st).length := by omega
    obtain ⟨pp, hpp, _, hget⟩ := Row.sget hrow hst.sep hjl
    have hs3 := hst.sep
    refine lfpD.intro ?_
    unfold l6_ztree_Tree_Encode
    rw [if_pos (by omega)]
    refine ⟨pp, hpp, by omega, by omega, S ks[j], by rw [Int.toNat_natCast]; exact hget j hjl, _, rfl, _, Row.cell1 hA.cell hs3, ?_⟩
    refine awp_lookup_str hA.map hs3 u126 u9 ty129 ?_
    have hkj : ks[j] = (srt st)[j].1 := by simp only [hks, List.getElem_map]
    have hnj : st.lookup ks[j] = some (srt st)[j].2 := by
      rw [lookup_iff h.keys, ← (srt_perm st).mem_iff, hkj]
      exact List.getElem_mem hjs
    have hdl := hmem _ (List.getElem_mem hjs)
    rcases kv_lookup st bs ks[j] h.len with ⟨a, _⟩ | ⟨i, b, n, a1, a2, a3, e⟩
    · rw [hnj] at a; cases a
    · rw [e]
      rw [hnj] at a3
      have hn : n = (srt st)[j].2 := (Option.some.inj a3).symm
      refine ⟨some ⟨b, 0, none⟩, rfl, ?_⟩
      refine nw_cells (tag := tag3) 0 hs3 fun x tag4 σ4 st4 r4 => ?_
      refine texts1_ok (r := 30) (q := 0) (p := ks[j]) (hb.keep (st4 []) (by simp) (by simp)) (by decide) (by decide) (st4 []).sep (by rw [hkj]; omega) r4 fun tag5 σ5 st5 b5 => ?_
      have hA5 := (hA.keep (st4 []) (by simp)).keep st5 hR
      obtain ⟨ds, hn1, hn2⟩ := hA5.nodes i b _ a1 a2
      obtain ⟨q5, hq5, hg5⟩ := hn1.ptr st5.sep (by simp)
      cases hq5
      refine ⟨_, rfl, ds, hg5 4 _ rfl, ?_⟩
      refine nw_cells (tag := tag5) 0 st5.sep fun y tag6 σ6 st6 r6 => ?_
      have hn26 := hn2.keep (st6 []) (by simp)
      have hdn : n.data.length ≤ 256 := by rw [hn]; exact hdl.2
      have l5 := wtext_len (((srt st).take j).foldl wnode ([], false)) ks[j]
      refine blobs1_ok (r := 30) (q := 0) (p := n.data) (b5.keep (st6 []) (by simp) (by simp)) (by decide) (by decide) (st6 []).sep (by rw [hkj] at l5 ⊢; omega) r6 (by rw [hn2.len, List.length_map]) (fun tag7 σ7 st7 => (hn26.keep st7 (by decide)).read st7.sep) fun tag7 σ7 st7 b7 => ?_
      have hA7 := (hA5.keep (st6 []) (by simp)).keep st7 hR
      obtain ⟨ds7, hn17, hn27⟩ := hA7.nodes i b _ a1 a2
      obtain ⟨q7, hq7, hg7⟩ := hn17.ptr st7.sep (by simp)
      cases hq7
      refine ⟨_, rfl, _, rfl, _, rfl, n.ver, hg7 0 _ rfl, n.ctr, hg7 1 _ rfl, n.own, hg7 2 _ rfl, ?_⟩
      refine nw_cells (tag := tag7) 0 st7.sep fun z tag8 σ8 st8 r8 => ?_
      have l7 := wtext_len (wtext (((srt st).take j).foldl wnode ([], false)) ks[j]) n.data
      refine nums_ok (r := 30) (q := 0) (ns := [n.ver, n.ctr, n.own]) (by decide) (by decide) (b7.keep (st8 []) (by simp) (by simp)) (st8 []).sep (by rw [hkj] at l5 l7 ⊢; simp; omega) r8 fun tag9 σ9 st9 b9 => ?_
      rw [Pa.inc j (by omega)]
      have e1 : ((srt st).take (j + 1)).foldl wnode ([], false) = [n.ver, n.ctr, n.own].foldl wnum (wtext (wtext (((srt st).take j).foldl wnode ([], false)) ks[j]) n.data) := by
        rw [List.take_add_one, List.getElem?_eq_getElem hjs, List.foldl_append, hn, hkj]; rfl
      have l9 := wnode_len (((srt st).take j).foldl wnode ([], false)) (srt st)[j]
      have e2 : wnode (((srt st).take j).foldl wnode ([], false)) (srt st)[j] = ((srt st).take (j + 1)).foldl wnode ([], false) := by
        rw [List.take_add_one, List.getElem?_eq_getElem hjs, List.foldl_append]; rfl
      refine ih (j + 1) tag9 σ9 (by omega) (((((((hst.trans (st4 _)).trans st5).trans (st6 _)).trans st7).trans (st8 _)).trans st9)) ((hA7.keep (st8 []) (by simp)).keep st9 hR) ((((((hrow.keep (st4 []) (by simp)).keep st5 (by decide)).keep (st6 []) (by simp)).keep st7 (by decide)).keep (st8 []) (by simp)).keep st9 (by decide)) ?_ ?_
      · rw [← e2]; omega
      · rw [e1]; exact b9
end Go.Proofs.YthfpmipeejjogaaGreatDoor.Zt

/- ZtreeStill, the walk. -/
namespace Go.Proofs.YthfpmipeejjogaaGreatDoor.Zt
open Go Go.Proofs.YthfpmipeejjogaaGreatDoor.SL Go.Proofs.YthfpmipeejjogaaGreatDoor.G Go.Proofs.YthfpmipeejjogaaGreatDoor.Pa
set_option linter.unusedSimpArgs false
set_option linter.unusedVariables false
variable {B : World} {ro σ σ' : AH} {tag tag' : Nat → Nat}

set_option maxRecDepth 100000 in
theorem still_ok {a0 a3 : Sl} {os : List OpV} {o : OpV} (g : Glob ro) (hO : Ops ro a0 os) (hl : os.length ≤ 1048576) (hd : ∀ o ∈ os, o.data.length ≤ 140737488351232) (hrd : SL.Read ro (fun _ => none) a3 (o.data.map vU)) (hdo : o.data.length ≤ 140737488351232) :
    c_law07_ZtreeStill B ro a0 o.kind o.n (S o.path) a3 o.seq σ fun r _ => r = true := by
  refine law07_ZtreeStill_ok fun hs => ?_
  unfold f_law07_ZtreeStill
  refine nw_cells (tag := fun _ => 0) 0 hs fun x tag1 σ1 st1 r1 => ?_
  refine made_ok (tag0 := tag1) 10 g (by decide) (by decide) (by decide) hO (by omega) (fun o ho => Nat.le_trans (hd o ho) (by decide)) fun T tag2 σ2 st2 h2 hi _ => ?_
  rw [if_neg (by simp)]
  have hB := invB_made os (by omega)
  generalize os.foldl apply1 St.new = st at h2 hi hB
  have hlen := hB.len
  have r2 := r1.keepC st2 (by decide)
  obtain ⟨M, bs, hA⟩ := h2
  refine encode_ok (by decide) (by decide) (by decide) (by decide) (by decide) hA hi.small (by omega) fun s tag3 σ3 st3 r3 => ?_
  have hR : ∀ x ∈ [30, 94, 1], x % 64 ≠ 10 % 64 ∧ x ≠ 6 := by decide
  have h3 : TreeIs tag3 σ3 10 T st := ⟨M, bs, hA.keep st3 hR⟩
  have r23 := r2.keep st3 (by decide)
  have hs3 := st3.sep
  obtain ⟨px, hpx, hg⟩ := r23.ptr hs3 (by simp)
  cases hpx
  have f0 := hg 0 _ rfl
  have f1 := hg 1 _ rfl
  have f2 := hg 2 _ rfl
  obtain ⟨ht0, hto⟩ := r23.tagOf
  -- the end: the tree behind the call, and whether the call was refused
  have fin : ∀ (bad : Bool) (st' : St) tag4 σ4, SL.Sep ro σ4 → TreeIs tag4 σ4 10 T st' → Row tag4 σ4 6 5 s ((encS st).map vU) → InvB (os.length + 1) st' → (bad = decide (encS st = encS st')) → j4_law07_ZtreeStill B ro (some ⟨T, 0, none⟩) s (fun r _ => r = true) bad σ4 := fun bad st' tag4 σ4 hs4 h4 r4 hi4 hbad => by
    unfold j4_law07_ZtreeStill
    obtain ⟨M4, bs4, hA4⟩ := h4
    have := hi4.len
    refine encode_ok (by decide) (by decide) (by decide) (by decide) (by decide) hA4 hi4.inv.small (by omega) fun s5 tag5 σ5 st5 r5 => ?_
    refine same_ok ((r4.keep st5 (by decide)).read st5.sep) (r5.read st5.sep) ?_
    rw [if_pos hbad.symm]
    refine awake_ok g fun σ _ => ?_
    unfold j8_law07_ZtreeStill
    rfl
  refine ⟨o.kind, f0, ?_⟩
  by_cases k1 : o.kind = 1
  · rw [if_pos k1]
    refine lent_block x ?_
    have hsl : SL.Sep (join ro (SL.one σ3 x)) (SL.del σ3 x) := hs3.lent
    refine ⟨S o.path, r23.lend hs3 (i := 2) rfl, o.n, r23.lend hs3 (i := 1) rfl, o.seq, r23.lend hs3 (i := 4) rfl, a3, r23.lend hs3 (i := 3) rfl, ?_⟩
    refine copy_ok (tag := tag3) (hrd.keep.lent x) hsl (by simp; omega) (by simp [storable]) fun s' tag4 σ4 st4 r4 => ?_
    have h4 := (h3.del (by decide) (by decide) ht0 (b := x)).keep (st4 []) (by simp)
    have r34 := (r3.del (b := x) ht0 (by decide)).keep (st4 []) (by simp)
    refine create_ok (glob_lent g) (by decide) (by decide) (by decide) h4 (r4.read (st4 []).sep) (by omega) fun tag5 σ5 st5 h5 => ?_
    intro hdis
    rw [L_S] at h5
    rw [L_S]
    have r35 := r34.keepC st5 (by decide)
    obtain ⟨R, hR', st5⟩ := st5
    have stB := ((st4 R).trans st5).back hs3 hdis hto
    have h6 := h5.back (r' := tag3 x) hdis hto
    have r6 := r35.back (r' := tag3 x) hdis hto
    have hi6 := invB_create (p := o.path) (d := o.data) (o := o.n) (seq := o.seq) hB (by omega)
    rcases create_spec st o.path o.data o.n o.seq with ⟨e, he0, he⟩ | ⟨q, u, n, he, hu, hown, hctr, hq, hpq, hdd, ho1, ho2⟩
    · rw [he] at h6 hi6 ⊢
      simp only at h6 hi6 ⊢
      rw [if_neg (fun h => he0 h.1)]
      refine fin _ st _ _ stB.sep h6 r6 hi6 ?_
      simp [he0]; rfl
    · have hne := create_other he hB (by omega)
      rw [he] at h6 hi6 hne ⊢
      simp only at h6 hi6 hne ⊢
      have hqe : ¬ (S q = (⟨#[]⟩ : ByteArray)) := fun h => by
        have : q = [] := S_inj.1 h
        rw [this] at hpq; cases hpq
      rw [if_neg (fun h => hqe h.2)]
      refine fin _ _ _ _ stB.sep h6 r6 hi6 ?_
      simp [Ne.symm hne]
  · rw [if_neg k1]
    by_cases k2 : o.kind = 2
    · rw [if_pos k2]
      refine ⟨S o.path, f2, o.n, f1, ?_⟩
      refine delete_ok g (by decide) (by decide) (by decide) h3 (fun u n hu hn => ?_) fun tag4 σ4 st4 h4 => ?_
      · rw [L_S] at hu hn
        have hne : o.path ≠ [47] := fun e => by rw [e, root_parent] at hu; cases hu
        obtain ⟨u', m', e1, e2, _⟩ := hi.up _ n hn hne
        rw [hu] at e1; cases e1
        exact ⟨m', e2⟩
      · rw [L_S] at h4
        rw [L_S]
        have hi4 := invB_remove (p := o.path) (v := o.n) hB (by omega)
        have r4 := r3.keepC st4 (by decide)
        rcases remove_spec st o.path o.n with ⟨e, he0, he⟩ | ⟨n, u, he, hn, _, _, _⟩
        · rw [he] at h4 hi4 ⊢
          simp only at h4 hi4 ⊢
          exact fin _ st _ _ st4.sep h4 r4 hi4 (by simp [he0])
        · have hne := remove_other he hn hB (by omega)
          rw [he] at h4 hi4 hne ⊢
          simp only at h4 hi4 hne ⊢
          exact fin _ _ _ _ st4.sep h4 r4 hi4 (by simp [Ne.symm hne])
    · rw [if_neg k2]
      by_cases k3 : o.kind = 3
      · rw [if_pos k3]
        refine lent_block x ?_
        have hsl : SL.Sep (join ro (SL.one σ3 x)) (SL.del σ3 x) := hs3.lent
        refine ⟨S o.path, r23.lend hs3 (i := 2) rfl, o.n, r23.lend hs3 (i := 1) rfl, a3, r23.lend hs3 (i := 3) rfl, ?_⟩
        refine copy_ok (tag := tag3) (hrd.keep.lent x) hsl (by simp; omega) (by simp [storable]) fun s' tag4 σ4 st4 r4 => ?_
        have h4 := (h3.del (by decide) (by decide) ht0 (b := x)).keep (st4 []) (by simp)
        have r34 := (r3.del (b := x) ht0 (by decide)).keep (st4 []) (by simp)
        refine set_ok (glob_lent g) (by decide) (by decide) (by decide) h4 (r4.read (st4 []).sep) (by omega) fun tag5 σ5 st5 h5 => ?_
        intro hdis
        rw [L_S] at h5
        rw [L_S]
        have r35 := r34.keepC st5 (by decide)
        obtain ⟨R, hR', st5⟩ := st5
        have stB := ((st4 R).trans st5).back hs3 hdis hto
        have h6 := h5.back (r' := tag3 x) hdis hto
        have r6 := r35.back (r' := tag3 x) hdis hto
        have hi6 := invB_set (p := o.path) (d := o.data) (v := o.n) hB (by omega)
        rcases setD_spec st o.path o.data o.n with ⟨e, he0, he⟩ | ⟨n, he, hn, _, _⟩
        · rw [he] at h6 hi6 ⊢
          simp only at h6 hi6 ⊢
          exact fin _ st _ _ stB.sep h6 r6 hi6 (by simp [he0])
        · have hne := set_other he hn hB (by omega)
          rw [he] at h6 hi6 hne ⊢
          simp only at h6 hi6 hne ⊢
          exact fin _ _ _ _ stB.sep h6 r6 hi6 (by simp [Ne.symm hne])
      · rw [if_neg k3]
        exact awake_ok g fun σ _ => rfl
end Go.Proofs.YthfpmipeejjogaaGreatDoor.Zt

/- ZtreeShape: the script as it stands in memory. -/
namespace Go.Proofs.YthfpmipeejjogaaGreatDoor.Zt
open Go Go.Proofs.YthfpmipeejjogaaGreatDoor.SL Go.Proofs.YthfpmipeejjogaaGreatDoor.G Go.Proofs.YthfpmipeejjogaaGreatDoor.Pa
set_option linter.unusedSimpArgs false
set_option linter.unusedVariables false

theorem c5 : Tryz.prog.cellsOf 5 = 1 := by kernel_rfl
theorem c40 : Tryz.prog.cellsOf 40 = 5 := by kernel_rfl
theorem c3 : Tryz.prog.cellsOf 3 = 1 := by kernel_rfl
theorem c9 : Tryz.prog.cellsOf 9 = 1 := by kernel_rfl
theorem c30 : Tryz.prog.cellsOf 30 = 1 := by kernel_rfl
theorem c4 : Tryz.prog.cellsOf 4 = 1 := by kernel_rfl
theorem b5 : Tryz.prog.bytesOf 5 = 1 := by kernel_rfl
theorem b40 : Tryz.prog.bytesOf 40 = 64 := by kernel_rfl
theorem u4b : Tryz.prog.underlying 4 = some .bool := by kernel_rfl
theorem u3' : Tryz.prog.underlying 3 = some (.int .i64) := by kernel_rfl
theorem u4' : Tryz.prog.underlying 4 = some .bool := by kernel_rfl

theorem bytes_of {W : World} {H : Type} {enc : TypeId × Value → H} {a : Option Addr} {len cap : Nat} (h : Arg Tryz.prog W H enc 30 [.slice a len cap]) : ∃ d : Str, d.length ≤ 140737488351232 ∧ SL.Read (all W) (fun _ => none) ⟨a, len, cap⟩ (d.map vU) := by
  rcases h.slice u30 with ⟨rfl, rfl, rfl⟩ | ⟨x, rfl, hl, hb, hel⟩
  · exact ⟨[], by decide, rfl, fun _ => rfl, fun p h => by cases h⟩
  · rw [c5] at hel
    rw [b5, Nat.mul_one] at hb
    have key : ∀ j : Nat, ∃ c : UInt8, j < len → W.cell? (x.add j) = some (vU c) := fun j => by
      by_cases hj : j < len
      · obtain ⟨cs, h1, h2, h3⟩ := hel j hj
        match cs, h1 with
        | [u], _ =>
          obtain ⟨c, rfl⟩ := h3.u8 u5
          have := h2 0 (by omega)
          rw [Nat.mul_one, add_zero] at this
          exact ⟨c, fun _ => this⟩
      · exact ⟨0, fun h => absurd h hj⟩
    obtain ⟨f, hf⟩ := Classical.axiomOfChoice key
    refine ⟨(List.range len).map f, by simp [reachBytes] at hb ⊢; omega, by simp, (fun h => by cases h), fun p hp i v hv => ?_⟩
    cases hp
    have hi : i < len := by
      rcases Nat.lt_or_ge i len with h | h
      · exact h
      · rw [List.getElem?_eq_none (by simpa using h)] at hv; cases hv
    rw [List.getElem?_map, List.getElem?_map, List.getElem?_range hi] at hv
    cases hv
    exact all_cell _ (hf i hi)

theorem u22 : Tryz.prog.underlying 22 = some (.slice 40) := by kernel_rfl
theorem u40 : ∃ fs, Tryz.prog.underlying 40 = some (.struct fs) ∧ fs.toList.map (fun f => (f.type, f.offset)) = [(3, 0), (3, 1), (9, 2), (30, 3), (4, 4)] := ⟨_, Tryz.underlying40, rfl⟩
set_option maxRecDepth 100000 in
theorem op_of {W : World} {H : Type} {enc : TypeId × Value → H} {cs : List Value} (h : Arg Tryz.prog W H enc 40 cs) :
    ∃ (o : OpV) (ds : Sl), cs = [vI o.kind, vI o.n, .string (S o.path), Sl.v ds, .bool o.seq] ∧ o.data.length ≤ 140737488351232 ∧ SL.Read (all W) (fun _ => none) ds (o.data.map vU) := by
  obtain ⟨fs, hu, hfs⟩ := u40
  obtain ⟨hl, hel⟩ := h.struct hu
  rw [c40] at hl
  match cs, hl with
  | [v0, v1, v2, v3, v4], _ =>
    have get : ∀ i t o, ([(3, 0), (3, 1), (9, 2), (30, 3), (4, 4)] : List (TypeId × Nat))[i]? = some (t, o) → Arg Tryz.prog W H enc t (([v0, v1, v2, v3, v4].drop o).take (Tryz.prog.cellsOf t)) := fun i t o hi => by
      rw [← hfs, List.getElem?_map] at hi
      obtain ⟨f, hf, e⟩ := Option.map_eq_some_iff.1 hi
      have := hel i f hf
      simp only [Prod.mk.injEq] at e
      rw [e.1, e.2] at this
      exact this
    have a0 := get 0 _ _ rfl
    have a1 := get 1 _ _ rfl
    have a2 := get 2 _ _ rfl
    have a3 := get 3 _ _ rfl
    have a4 := get 4 _ _ rfl
    rw [c3] at a0 a1
    rw [c9] at a2
    rw [c30] at a3
    rw [c4] at a4
    obtain ⟨x0, rfl⟩ := Arg.i64 u3' a0
    obtain ⟨x1, rfl⟩ := Arg.i64 u3' a1
    obtain ⟨s, rfl, _⟩ := Arg.str u9 a2
    obtain ⟨b, rfl⟩ := Arg.bool u4' a4
    have hsl : ∃ a len cap, v3 = .slice a len cap := by
      obtain ⟨fuel, d, ps, hf, _⟩ := a3
      rcases Go.Deep.open_slice u30 hf with ⟨e, _⟩ | ⟨x, l, c, _, _, _, _, e, _⟩
      · simp at e; exact ⟨_, _, _, e⟩
      · simp at e; exact ⟨_, _, _, e⟩
    obtain ⟨a, len, cap, rfl⟩ := hsl
    obtain ⟨d, h1, h2⟩ := bytes_of a3
    exact ⟨⟨x0, x1, L s, d, b⟩, ⟨a, len, cap⟩, by simp [Sl.v], h1, h2⟩
set_option maxRecDepth 100000 in
theorem ops_of {W : World} {H : Type} {enc : TypeId × Value → H} {a : Option Addr} {len cap : Nat} (h : Arg Tryz.prog W H enc 22 [.slice a len cap]) :
    ∃ os : List OpV, Ops (all W) ⟨a, len, cap⟩ os ∧ os.length ≤ 2199023255552 ∧ ∀ o ∈ os, o.data.length ≤ 140737488351232 := by
  rcases h.slice u22 with ⟨rfl, rfl, rfl⟩ | ⟨x, rfl, hl, hb, hel⟩
  · exact ⟨[], ⟨rfl, fun j o h => by cases h⟩, by decide, fun o h => by cases h⟩
  · rw [c40] at hel
    rw [b40] at hb
    have key : ∀ j : Nat, ∃ q : OpV × Sl, j < len → (∀ σ, cellsAt (all W) σ (x.add (j * 5)) 0 [vI q.1.kind, vI q.1.n, .string (S q.1.path), Sl.v q.2, .bool q.1.seq]) ∧ q.1.data.length ≤ 140737488351232 ∧ SL.Read (all W) (fun _ => none) q.2 (q.1.data.map vU) := fun j => by
      by_cases hj : j < len
      · obtain ⟨cs, h1, h2, h3⟩ := hel j hj
        obtain ⟨o, ds, rfl, h4, h5⟩ := op_of h3
        refine ⟨(o, ds), fun _ => ⟨fun σ => cellsAt_of 0 fun i v hv => ?_, h4, h5⟩⟩
        have hi : i < 5 := by
          rcases Nat.lt_or_ge i 5 with h | h
          · exact h
          · rw [List.getElem?_eq_none (by simpa using h)] at hv; cases hv
        have := h2 i hi
        rw [hv] at this
        rw [Nat.zero_add]
        exact all_cell σ this
      · exact ⟨(⟨0, 0, [], [], false⟩, ⟨none, 0, 0⟩), fun h => absurd h hj⟩
    obtain ⟨f, hf⟩ := Classical.axiomOfChoice key
    refine ⟨(List.range len).map fun j => (f j).1, ⟨by simp, fun j o ho => ?_⟩, by simp [reachBytes] at hb ⊢; omega, fun o ho => ?_⟩
    · have hj : j < len := by
        rcases Nat.lt_or_ge j len with h | h
        · exact h
        · rw [List.getElem?_eq_none (by simpa using h)] at ho; cases ho
      rw [List.getElem?_map, List.getElem?_range hj] at ho
      cases ho
      obtain ⟨h1, _, h3⟩ := hf j hj
      exact ⟨x, (f j).2, rfl, h1, h3⟩
    · obtain ⟨j, hj, rfl⟩ := List.mem_map.1 ho
      exact (hf j (List.mem_range.1 hj)).2.1
end Go.Proofs.YthfpmipeejjogaaGreatDoor.Zt
