/- GWire, WiB, WiC, EnC, WiD, MapIt -/
import Derived.Test.YthfpmipeejjogaaGreatDoorXH
/- Functions as predicate transformers, and the proofs that the code does what they tell: printed by wip/tools/gen.py. -/
namespace Go.Proofs.YthfpmipeejjogaaGreatDoor.G
open Go Go.Proofs.YthfpmipeejjogaaGreatDoor.SL
set_option linter.unusedVariables false
set_option linter.unusedSimpArgs false

def f_wire_NewWriter (B : World) (ro : AH) (σ : AH) (Q : Option Addr → AH → Prop) : Prop :=
 nw ro σ (.cells #[Sl.v (⟨none, 0, 0⟩ : Sl), .int .i64 0, .int .i8 0, .bool false] 202) fun x2_1 σ =>
 Q (some ⟨x2_1, 0, none⟩) σ

set_option maxRecDepth 100000 in
set_option maxHeartbeats 4000000 in
theorem wire_NewWriter_ok {B : World} {ro : AH} {σ : AH} {Q : Option Addr → AH → Prop} (h : Sep ro σ → f_wire_NewWriter B ro σ Q) : c_wire_NewWriter B ro σ Q := by
  refine ACalls.of_sep fun hsep => ?_
  replace h := h hsep
  refine ACalls.of_body (args := []) Tryz.func66 rfl (by rw [Tryz.ntmps66]; simp) ?_
  rw [Tryz.ntmps66]
  unfold f_wire_NewWriter at h
  refine AW.seq ?_
  refine AW.reg ?_
  refine Lp (V_asg rfl rfl) rfl rfl ?_
  refine Lnil ?_
  refine thenN ?_
  refine AW.seq ?_
  refine AW.reg ?_
  refine Lp (V_bld (vs := []) (cs := #[Sl.v (⟨none, 0, 0⟩ : Sl), .int .i64 0, .int .i8 0, .bool false]) rfl Tryz.underlying202 ty202 pl202 rfl rfl) rfl rfl ?_
  refine Ls rfl rfl (X_new (A_box rfl rfl) fun x2_1 g1 g2 => ?_)
  replace h := h x2_1 g1 g2
  refine Lp (V_asg rfl rfl) rfl rfl ?_
  refine Lnil ?_
  refine thenN ?_
  refine AW.ret ?_
  exact bR1 Tryz.results66 rfl ⟨_, rfl, h⟩

def l1_wire_Writer_Texts (B : World) (ro : AH) (a0 : Option Addr) (a1 : Sl) (Q : AH → Prop) : (Int) → AH → ((Int) → AH → Prop) → Prop := fun x8_2 σ Y1 =>
 if x8_2 < (a1.len : Int) then
  ∃ p10_3 : Addr, a1.a = some p10_3 ∧ (0 : Int) ≤ x8_2 ∧ x8_2 < (a1.len : Int) ∧
  ∃ (x11_4 : ByteArray), acell ro σ (p10_3.add (Int.toNat x8_2 * 1)) = some (.string x11_4) ∧
  ∃ p13_5 : Addr, a0 = some p13_5 ∧
  c_wire_buffer_num B ro (some p13_5) (x11_4.size : Int) σ fun σ =>
  ∃ p19_6 : Addr, a0 = some p19_6 ∧
  c_bytes_Buffer_WriteString B ro (some p19_6) x11_4 σ fun x23_7 x23_8 σ =>
  Y1 (IntKind.i64.wrap (x8_2 + 1)) σ
 else
 Q σ

def f_wire_Writer_Texts (B : World) (ro : AH) (a0 : Option Addr) (a1 : Sl) (σ : AH) (Q : AH → Prop) : Prop :=
 lfpD (l1_wire_Writer_Texts B ro a0 a1 Q ) (0) σ

set_option maxRecDepth 100000 in
set_option maxHeartbeats 4000000 in
theorem wire_Writer_Texts_ok {B : World} {ro : AH} {a0 : Option Addr} {a1 : Sl} {σ : AH} {Q : AH → Prop} (h : Sep ro σ → f_wire_Writer_Texts B ro a0 a1 σ Q) : c_wire_Writer_Texts B ro a0 a1 σ Q := by
  refine ACalls.of_sep fun hsep => ?_
  replace h := h hsep
  refine ACalls.of_body (args := [.pointer a0, Sl.v a1]) Tryz.func67 rfl (by rw [Tryz.ntmps67]; simp) ?_
  rw [Tryz.ntmps67]
  unfold f_wire_Writer_Texts at h
  refine AW.seq ?_
  refine AW.reg ?_
  refine Lp (V_move rfl rfl) rfl rfl ?_
  refine Lp (V_lenL rfl rfl Tryz.underlying25 rfl rfl) rfl rfl ?_
  refine Lp (V_move rfl rfl) rfl rfl ?_
  refine Lnil ?_
  refine thenN ?_
  refine AW.block ?_
  refine ARound.loop (fr' := [(0, .pointer a0), (6, Sl.v a1), (7, .int .i64 (a1.len : Int)), (8, .int .i64 0)]) ?_ (FrLe.cons rfl (FrLe.cons rfl (FrLe.cons rfl (FrLe.cons rfl (FrLe.nil _)))))
  refine h (fun x8_2 σ => ARound _ _ _ _ _ _ [(0, .pointer a0), (6, Sl.v a1), (7, .int .i64 (a1.len : Int)), (8, .int .i64 x8_2)] σ) ?_
  rintro x8_2 σ Y1 hY1 h
  show AW _ _ _ _ _ _ _ _
  unfold l1_wire_Writer_Texts at h
  refine AW.seq ?_
  refine AW.reg ?_
  refine Lp (V_lss rfl rfl rfl) rfl rfl ?_
  refine Lnil ?_
  refine thenN ?_
  refine AW.seq ?_
  refine AW.iff rfl decide_eq_true_iff h (fun h => ?_) (fun h => ?_)
  rotate_left
  · refine AW.exit ?_
    refine thenE ?_
    refine thenE ?_
    refine blockE ?_
    exact bN0 Tryz.results67 ⟨rfl, h⟩
  refine AW.skip ?_
  refine thenN ?_
  refine AW.seq ?_
  refine AW.block ?_
  refine AW.seq ?_
  refine AW.reg ?_
  obtain ⟨p10_3, ha, h0, h1, h⟩ := h
  refine Lp (V_ixA rfl Tryz.underlying25 ty9 (ixL rfl ha) rfl h0 h1) rfl rfl ?_
  obtain ⟨x11_4, hc, h⟩ := h
  refine Ls rfl rfl (X_ld rfl Tryz.underlying9 rfl rfl hc ?_)
  refine Lp (V_asg rfl rfl) rfl rfl ?_
  refine Lnil ?_
  refine thenN ?_
  refine AW.seq ?_
  refine AW.reg ?_
  refine Lp (V_move rfl rfl) rfl rfl ?_
  obtain ⟨p13_5, hc, h⟩ := h
  refine Lp (V_nil rfl (by rw [← hc]; rfl)) rfl rfl ?_
  refine Lp (V_fld rfl Tryz.underlying202 rfl ty200 (by decide) rfl) rfl rfl ?_
  refine Lp (V_move rfl rfl) rfl rfl ?_
  refine Lp (V_lenS rfl rfl Tryz.underlying9 rfl rfl) rfl rfl ?_
  refine Ls rfl rfl (X_call rfl Tryz.func113 rfl rfl rfl (ACalls.mono h ?_))
  rintro v σ ⟨rfl, h⟩
  refine Lnil ?_
  refine thenN ?_
  refine AW.reg ?_
  refine Lp (V_move rfl rfl) rfl rfl ?_
  obtain ⟨p19_6, hc, h⟩ := h
  refine Lp (V_nil rfl (by rw [← hc]; rfl)) rfl rfl ?_
  refine Lp (V_fld rfl Tryz.underlying202 rfl ty200 (by decide) rfl) rfl rfl ?_
  refine Lp (V_fld rfl Tryz.underlying200 rfl ty198 (by decide) rfl) rfl rfl ?_
  refine Lp (V_move rfl rfl) rfl rfl ?_
  refine Ls rfl rfl (X_call rfl Tryz.func114 rfl rfl rfl (ACalls.mono h ?_))
  rintro v σ ⟨x23_7, x23_8, rfl, h⟩
  refine Lnil ?_
  refine blockN ?_
  refine thenN ?_
  refine AW.reg ?_
  refine Lp (V_add rfl rfl rfl) rfl rfl ?_
  refine Lp (V_move rfl rfl) rfl rfl ?_
  refine Lnil ?_
  refine thenN ?_
  refine ARound.head (fr' := [(0, .pointer a0), (6, Sl.v a1), (7, .int .i64 (a1.len : Int)), (8, .int .i64 (IntKind.i64.wrap (x8_2 + 1)))]) ?_ (FrLe.cons rfl (FrLe.cons rfl (FrLe.cons rfl (FrLe.cons rfl (FrLe.nil _)))))
  exact hY1 _ _ h

def l1_wire_Writer_Blobs (B : World) (ro : AH) (a0 : Option Addr) (a1 : Sl) (Q : AH → Prop) : (Int) → AH → ((Int) → AH → Prop) → Prop := fun x8_2 σ Y1 =>
 if x8_2 < (a1.len : Int) then
  ∃ p10_3 : Addr, a1.a = some p10_3 ∧ (0 : Int) ≤ x8_2 ∧ x8_2 < (a1.len : Int) ∧
  ∃ (x11_4 : Sl), acell ro σ (p10_3.add (Int.toNat x8_2 * 1)) = some (Sl.v x11_4) ∧
  ∃ p13_5 : Addr, a0 = some p13_5 ∧
  c_wire_buffer_num B ro (some p13_5) (x11_4.len : Int) σ fun σ =>
  ∃ p19_6 : Addr, a0 = some p19_6 ∧
  c_bytes_Buffer_Write B ro (some p19_6) x11_4 σ fun x23_7 x23_8 σ =>
  Y1 (IntKind.i64.wrap (x8_2 + 1)) σ
 else
 Q σ

def f_wire_Writer_Blobs (B : World) (ro : AH) (a0 : Option Addr) (a1 : Sl) (σ : AH) (Q : AH → Prop) : Prop :=
 lfpD (l1_wire_Writer_Blobs B ro a0 a1 Q ) (0) σ

set_option maxRecDepth 100000 in
set_option maxHeartbeats 4000000 in
theorem wire_Writer_Blobs_ok {B : World} {ro : AH} {a0 : Option Addr} {a1 : Sl} {σ : AH} {Q : AH → Prop} (h : Sep ro σ → f_wire_Writer_Blobs B ro a0 a1 σ Q) : c_wire_Writer_Blobs B ro a0 a1 σ Q := by
  refine ACalls.of_sep fun hsep => ?_
  replace h := h hsep
  refine ACalls.of_body (args := [.pointer a0, Sl.v a1]) Tryz.func68 rfl (by rw [Tryz.ntmps68]; simp) ?_
  rw [Tryz.ntmps68]
  unfold f_wire_Writer_Blobs at h
  refine AW.seq ?_
  refine AW.reg ?_
  refine Lp (V_move rfl rfl) rfl rfl ?_
  refine Lp (V_lenL rfl rfl Tryz.underlying208 rfl rfl) rfl rfl ?_
  refine Lp (V_move rfl rfl) rfl rfl ?_
  refine Lnil ?_
  refine thenN ?_
  refine AW.block ?_
  refine ARound.loop (fr' := [(0, .pointer a0), (6, Sl.v a1), (7, .int .i64 (a1.len : Int)), (8, .int .i64 0)]) ?_ (FrLe.cons rfl (FrLe.cons rfl (FrLe.cons rfl (FrLe.cons rfl (FrLe.nil _)))))
  refine h (fun x8_2 σ => ARound _ _ _ _ _ _ [(0, .pointer a0), (6, Sl.v a1), (7, .int .i64 (a1.len : Int)), (8, .int .i64 x8_2)] σ) ?_
  rintro x8_2 σ Y1 hY1 h
  show AW _ _ _ _ _ _ _ _
  unfold l1_wire_Writer_Blobs at h
  refine AW.seq ?_
  refine AW.reg ?_
  refine Lp (V_lss rfl rfl rfl) rfl rfl ?_
  refine Lnil ?_
  refine thenN ?_
  refine AW.seq ?_
  refine AW.iff rfl decide_eq_true_iff h (fun h => ?_) (fun h => ?_)
  rotate_left
  · refine AW.exit ?_
    refine thenE ?_
    refine thenE ?_
    refine blockE ?_
    exact bN0 Tryz.results68 ⟨rfl, h⟩
  refine AW.skip ?_
  refine thenN ?_
  refine AW.seq ?_
  refine AW.block ?_
  refine AW.seq ?_
  refine AW.reg ?_
  obtain ⟨p10_3, ha, h0, h1, h⟩ := h
  refine Lp (V_ixA rfl Tryz.underlying208 ty30 (ixL rfl ha) rfl h0 h1) rfl rfl ?_
  obtain ⟨x11_4, hc, h⟩ := h
  refine Ls rfl rfl (X_ld rfl Tryz.underlying30 rfl rfl hc ?_)
  refine Lp (V_asg rfl rfl) rfl rfl ?_
  refine Lnil ?_
  refine thenN ?_
  refine AW.seq ?_
  refine AW.reg ?_
  refine Lp (V_move rfl rfl) rfl rfl ?_
  obtain ⟨p13_5, hc, h⟩ := h
  refine Lp (V_nil rfl (by rw [← hc]; rfl)) rfl rfl ?_
  refine Lp (V_fld rfl Tryz.underlying202 rfl ty200 (by decide) rfl) rfl rfl ?_
  refine Lp (V_move rfl rfl) rfl rfl ?_
  refine Lp (V_lenL rfl rfl Tryz.underlying30 rfl rfl) rfl rfl ?_
  refine Ls rfl rfl (X_call rfl Tryz.func113 rfl rfl rfl (ACalls.mono h ?_))
  rintro v σ ⟨rfl, h⟩
  refine Lnil ?_
  refine thenN ?_
  refine AW.reg ?_
  refine Lp (V_move rfl rfl) rfl rfl ?_
  obtain ⟨p19_6, hc, h⟩ := h
  refine Lp (V_nil rfl (by rw [← hc]; rfl)) rfl rfl ?_
  refine Lp (V_fld rfl Tryz.underlying202 rfl ty200 (by decide) rfl) rfl rfl ?_
  refine Lp (V_fld rfl Tryz.underlying200 rfl ty198 (by decide) rfl) rfl rfl ?_
  refine Lp (V_move rfl rfl) rfl rfl ?_
  refine Ls rfl rfl (X_call rfl Tryz.func115 rfl rfl rfl (ACalls.mono h ?_))
  rintro v σ ⟨x23_7, x23_8, rfl, h⟩
  refine Lnil ?_
  refine blockN ?_
  refine thenN ?_
  refine AW.reg ?_
  refine Lp (V_add rfl rfl rfl) rfl rfl ?_
  refine Lp (V_move rfl rfl) rfl rfl ?_
  refine Lnil ?_
  refine thenN ?_
  refine ARound.head (fr' := [(0, .pointer a0), (6, Sl.v a1), (7, .int .i64 (a1.len : Int)), (8, .int .i64 (IntKind.i64.wrap (x8_2 + 1)))]) ?_ (FrLe.cons rfl (FrLe.cons rfl (FrLe.cons rfl (FrLe.cons rfl (FrLe.nil _)))))
  exact hY1 _ _ h

def l1_wire_Writer_Nums (B : World) (ro : AH) (a0 : Option Addr) (a1 : Sl) (Q : AH → Prop) : (Int) → AH → ((Int) → AH → Prop) → Prop := fun x8_2 σ Y1 =>
 if x8_2 < (a1.len : Int) then
  ∃ p10_3 : Addr, a1.a = some p10_3 ∧ (0 : Int) ≤ x8_2 ∧ x8_2 < (a1.len : Int) ∧
  ∃ (x11_4 : Int), acell ro σ (p10_3.add (Int.toNat x8_2 * 1)) = some (.int .i64 x11_4) ∧
  ∃ p13_5 : Addr, a0 = some p13_5 ∧
  c_wire_buffer_num B ro (some p13_5) x11_4 σ fun σ =>
  Y1 (IntKind.i64.wrap (x8_2 + 1)) σ
 else
 Q σ

def f_wire_Writer_Nums (B : World) (ro : AH) (a0 : Option Addr) (a1 : Sl) (σ : AH) (Q : AH → Prop) : Prop :=
 lfpD (l1_wire_Writer_Nums B ro a0 a1 Q ) (0) σ

set_option maxRecDepth 100000 in
set_option maxHeartbeats 4000000 in
theorem wire_Writer_Nums_ok {B : World} {ro : AH} {a0 : Option Addr} {a1 : Sl} {σ : AH} {Q : AH → Prop} (h : Sep ro σ → f_wire_Writer_Nums B ro a0 a1 σ Q) : c_wire_Writer_Nums B ro a0 a1 σ Q := by
  refine ACalls.of_sep fun hsep => ?_
  replace h := h hsep
  refine ACalls.of_body (args := [.pointer a0, Sl.v a1]) Tryz.func69 rfl (by rw [Tryz.ntmps69]; simp) ?_
  rw [Tryz.ntmps69]
  unfold f_wire_Writer_Nums at h
  refine AW.seq ?_
  refine AW.reg ?_
  refine Lp (V_move rfl rfl) rfl rfl ?_
  refine Lp (V_lenL rfl rfl Tryz.underlying58 rfl rfl) rfl rfl ?_
  refine Lp (V_move rfl rfl) rfl rfl ?_
  refine Lnil ?_
  refine thenN ?_
  refine AW.block ?_
  refine ARound.loop (fr' := [(0, .pointer a0), (6, Sl.v a1), (7, .int .i64 (a1.len : Int)), (8, .int .i64 0)]) ?_ (FrLe.cons rfl (FrLe.cons rfl (FrLe.cons rfl (FrLe.cons rfl (FrLe.nil _)))))
  refine h (fun x8_2 σ => ARound _ _ _ _ _ _ [(0, .pointer a0), (6, Sl.v a1), (7, .int .i64 (a1.len : Int)), (8, .int .i64 x8_2)] σ) ?_
  rintro x8_2 σ Y1 hY1 h
  show AW _ _ _ _ _ _ _ _
  unfold l1_wire_Writer_Nums at h
  refine AW.seq ?_
  refine AW.reg ?_
  refine Lp (V_lss rfl rfl rfl) rfl rfl ?_
  refine Lnil ?_
  refine thenN ?_
  refine AW.seq ?_
  refine AW.iff rfl decide_eq_true_iff h (fun h => ?_) (fun h => ?_)
  rotate_left
  · refine AW.exit ?_
    refine thenE ?_
    refine thenE ?_
    refine blockE ?_
    exact bN0 Tryz.results69 ⟨rfl, h⟩
  refine AW.skip ?_
  refine thenN ?_
  refine AW.seq ?_
  refine AW.block ?_
  refine AW.seq ?_
  refine AW.reg ?_
  obtain ⟨p10_3, ha, h0, h1, h⟩ := h
  refine Lp (V_ixA rfl Tryz.underlying58 ty3 (ixL rfl ha) rfl h0 h1) rfl rfl ?_
  obtain ⟨x11_4, hc, h⟩ := h
  refine Ls rfl rfl (X_ld rfl Tryz.underlying3 rfl rfl hc ?_)
  refine Lp (V_asg rfl rfl) rfl rfl ?_
  refine Lnil ?_
  refine thenN ?_
  refine AW.reg ?_
  refine Lp (V_move rfl rfl) rfl rfl ?_
  obtain ⟨p13_5, hc, h⟩ := h
  refine Lp (V_nil rfl (by rw [← hc]; rfl)) rfl rfl ?_
  refine Lp (V_fld rfl Tryz.underlying202 rfl ty200 (by decide) rfl) rfl rfl ?_
  refine Lp (V_move rfl rfl) rfl rfl ?_
  refine Ls rfl rfl (X_call rfl Tryz.func113 rfl rfl rfl (ACalls.mono h ?_))
  rintro v σ ⟨rfl, h⟩
  refine Lnil ?_
  refine blockN ?_
  refine thenN ?_
  refine AW.reg ?_
  refine Lp (V_add rfl rfl rfl) rfl rfl ?_
  refine Lp (V_move rfl rfl) rfl rfl ?_
  refine Lnil ?_
  refine thenN ?_
  refine ARound.head (fr' := [(0, .pointer a0), (6, Sl.v a1), (7, .int .i64 (a1.len : Int)), (8, .int .i64 (IntKind.i64.wrap (x8_2 + 1)))]) ?_ (FrLe.cons rfl (FrLe.cons rfl (FrLe.cons rfl (FrLe.cons rfl (FrLe.nil _)))))
  exact hY1 _ _ h

def f_wire_Writer_Out (B : World) (ro : AH) (a0 : Option Addr) (σ : AH) (Q : Sl → Int → AH → Prop) : Prop :=
 ∃ p5_1 : Addr, a0 = some p5_1 ∧
 ∃ (x8_2 : Bool), acell ro σ (p5_1.add 3) = some (.bool x8_2) ∧
 if x8_2 = true then
  Q (⟨none, 0, 0⟩ : Sl) 10 σ
 else
 ∃ p10_3 : Addr, a0 = some p10_3 ∧
 c_bytes_Buffer_Bytes B ro (some p10_3) σ fun x13_4 σ =>
 c_bytes_Clone B ro x13_4 σ fun x14_5 σ =>
 Q x14_5 0 σ

set_option maxRecDepth 100000 in
set_option maxHeartbeats 4000000 in
theorem wire_Writer_Out_ok {B : World} {ro : AH} {a0 : Option Addr} {σ : AH} {Q : Sl → Int → AH → Prop} (h : Sep ro σ → f_wire_Writer_Out B ro a0 σ Q) : c_wire_Writer_Out B ro a0 σ Q := by
  refine ACalls.of_sep fun hsep => ?_
  replace h := h hsep
  refine ACalls.of_body (args := [.pointer a0]) Tryz.func70 rfl (by rw [Tryz.ntmps70]; simp) ?_
  rw [Tryz.ntmps70]
  unfold f_wire_Writer_Out at h
  refine AW.seq ?_
  refine AW.reg ?_
  refine Lp (V_asg rfl rfl) rfl rfl ?_
  refine Lp (V_asg rfl rfl) rfl rfl ?_
  refine Lnil ?_
  refine thenN ?_
  refine AW.seq ?_
  refine AW.seq ?_
  refine AW.reg ?_
  refine Lp (V_move rfl rfl) rfl rfl ?_
  obtain ⟨p5_1, hc, h⟩ := h
  refine Lp (V_nil rfl (by rw [← hc]; rfl)) rfl rfl ?_
  refine Lp (V_fld rfl Tryz.underlying202 rfl ty200 (by decide) rfl) rfl rfl ?_
  refine Lp (V_fld rfl Tryz.underlying200 rfl ty4 (by decide) rfl) rfl rfl ?_
  obtain ⟨x8_2, hc, h⟩ := h
  refine Ls rfl rfl (X_ld rfl Tryz.underlying4 rfl rfl hc ?_)
  refine Lnil ?_
  refine thenN ?_
  refine AW.iff rfl Iff.rfl h (fun h => ?_) (fun h => ?_)
  · refine AW.seq ?_
    refine AW.reg ?_
    refine Lp (V_asg rfl rfl) rfl rfl ?_
    refine Lp (V_asg rfl rfl) rfl rfl ?_
    refine Lnil ?_
    refine thenN ?_
    refine AW.ret ?_
    refine thenR ?_
    exact bR2 Tryz.results70 rfl rfl ⟨_, _, rfl, h⟩
  refine AW.skip ?_
  refine thenN ?_
  refine AW.seq ?_
  refine AW.reg ?_
  refine Lp (V_move rfl rfl) rfl rfl ?_
  obtain ⟨p10_3, hc, h⟩ := h
  refine Lp (V_nil rfl (by rw [← hc]; rfl)) rfl rfl ?_
  refine Lp (V_fld rfl Tryz.underlying202 rfl ty200 (by decide) rfl) rfl rfl ?_
  refine Lp (V_fld rfl Tryz.underlying200 rfl ty198 (by decide) rfl) rfl rfl ?_
  refine Ls rfl rfl (X_call rfl Tryz.func116 rfl rfl rfl (ACalls.mono h ?_))
  rintro v σ ⟨x13_4, rfl, h⟩
  refine Ls rfl rfl (X_call rfl Tryz.func61 rfl rfl rfl (ACalls.mono h ?_))
  rintro v σ ⟨x14_5, rfl, h⟩
  refine Lp (V_asg rfl rfl) rfl rfl ?_
  refine Lp (V_asg rfl rfl) rfl rfl ?_
  refine Lnil ?_
  refine thenN ?_
  refine AW.ret ?_
  exact bR2 Tryz.results70 rfl rfl ⟨_, _, rfl, h⟩

def f_wire_NewReader (B : World) (ro : AH) (a0 : Sl) (σ : AH) (Q : Option Addr → AH → Prop) : Prop :=
 c_bytes_Clone B ro a0 σ fun x4_1 σ =>
 nw ro σ (.cells #[Sl.v x4_1, .int .i64 0] 213) fun x6_2 σ =>
 Q (some ⟨x6_2, 0, none⟩) σ

set_option maxRecDepth 100000 in
set_option maxHeartbeats 4000000 in
theorem wire_NewReader_ok {B : World} {ro : AH} {a0 : Sl} {σ : AH} {Q : Option Addr → AH → Prop} (h : Sep ro σ → f_wire_NewReader B ro a0 σ Q) : c_wire_NewReader B ro a0 σ Q := by
  refine ACalls.of_sep fun hsep => ?_
  replace h := h hsep
  refine ACalls.of_body (args := [Sl.v a0]) Tryz.func74 rfl (by rw [Tryz.ntmps74]; simp) ?_
  rw [Tryz.ntmps74]
  unfold f_wire_NewReader at h
  refine AW.seq ?_
  refine AW.reg ?_
  refine Lp (V_asg rfl rfl) rfl rfl ?_
  refine Lnil ?_
  refine thenN ?_
  refine AW.seq ?_
  refine AW.reg ?_
  refine Lp (V_move rfl rfl) rfl rfl ?_
  refine Ls rfl rfl (X_call rfl Tryz.func61 rfl rfl rfl (ACalls.mono h ?_))
  rintro v σ ⟨x4_1, rfl, h⟩
  refine Lp (V_bld (vs := [(0, Sl.v x4_1)]) (cs := #[Sl.v x4_1, .int .i64 0]) rfl Tryz.underlying213 ty213 pl213 rfl rfl) rfl rfl ?_
  refine Ls rfl rfl (X_new (A_box rfl rfl) fun x6_2 g1 g2 => ?_)
  replace h := h x6_2 g1 g2
  refine Lp (V_asg rfl rfl) rfl rfl ?_
  refine Lnil ?_
  refine thenN ?_
  refine AW.ret ?_
  exact bR1 Tryz.results74 rfl ⟨_, rfl, h⟩

def f_wire_Reader_Left (B : World) (ro : AH) (a0 : Option Addr) (σ : AH) (Q : Int → AH → Prop) : Prop :=
 ∃ p4_1 : Addr, a0 = some p4_1 ∧
 ∃ (x6_2 : Sl), acell ro σ p4_1 = some (Sl.v x6_2) ∧
 Q (x6_2.len : Int) σ

set_option maxRecDepth 100000 in
set_option maxHeartbeats 4000000 in
theorem wire_Reader_Left_ok {B : World} {ro : AH} {a0 : Option Addr} {σ : AH} {Q : Int → AH → Prop} (h : Sep ro σ → f_wire_Reader_Left B ro a0 σ Q) : c_wire_Reader_Left B ro a0 σ Q := by
  refine ACalls.of_sep fun hsep => ?_
  replace h := h hsep
  refine ACalls.of_body (args := [.pointer a0]) Tryz.func75 rfl (by rw [Tryz.ntmps75]; simp) ?_
  rw [Tryz.ntmps75]
  unfold f_wire_Reader_Left at h
  refine AW.seq ?_
  refine AW.reg ?_
  refine Lp (V_asg rfl rfl) rfl rfl ?_
  refine Lnil ?_
  refine thenN ?_
  refine AW.seq ?_
  refine AW.reg ?_
  refine Lp (V_move rfl rfl) rfl rfl ?_
  obtain ⟨p4_1, hc, h⟩ := h
  refine Lp (V_nil rfl (by rw [← hc]; rfl)) rfl rfl ?_
  refine Lp (V_fld rfl Tryz.underlying213 rfl ty30 (by decide) rfl) rfl rfl ?_
  obtain ⟨x6_2, hc, h⟩ := h
  refine Ls rfl rfl (X_ld rfl Tryz.underlying30 rfl rfl hc ?_)
  refine Lp (V_lenL rfl rfl Tryz.underlying30 rfl rfl) rfl rfl ?_
  refine Lp (V_asg rfl rfl) rfl rfl ?_
  refine Lnil ?_
  refine thenN ?_
  refine AW.ret ?_
  exact bR1 Tryz.results75 rfl ⟨_, rfl, h⟩

def f_wire_Reader_Text (B : World) (ro : AH) (a0 : Option Addr) (σ : AH) (Q : ByteArray → AH → Prop) : Prop :=
 c_wire_Reader_Blob B ro a0 σ fun x4_1 σ =>
 awp Tryz.prog ro (convert 30 9 (Sl.v x4_1)) (fun v σ =>
  (∃ (x5_2 : ByteArray), v = .string x5_2 ∧
   Q x5_2 σ)) σ

set_option maxRecDepth 100000 in
set_option maxHeartbeats 4000000 in
theorem wire_Reader_Text_ok {B : World} {ro : AH} {a0 : Option Addr} {σ : AH} {Q : ByteArray → AH → Prop} (h : Sep ro σ → f_wire_Reader_Text B ro a0 σ Q) : c_wire_Reader_Text B ro a0 σ Q := by
  refine ACalls.of_sep fun hsep => ?_
  replace h := h hsep
  refine ACalls.of_body (args := [.pointer a0]) Tryz.func76 rfl (by rw [Tryz.ntmps76]; simp) ?_
  rw [Tryz.ntmps76]
  unfold f_wire_Reader_Text at h
  refine AW.seq ?_
  refine AW.reg ?_
  refine Lp (V_asg rfl rfl) rfl rfl ?_
  refine Lnil ?_
  refine thenN ?_
  refine AW.seq ?_
  refine AW.reg ?_
  refine Lp (V_move rfl rfl) rfl rfl ?_
  refine Ls rfl rfl (X_call rfl Tryz.func77 rfl rfl rfl (ACalls.mono h ?_))
  rintro v σ ⟨x4_1, rfl, h⟩
  refine Ls rfl rfl (X_cvt rfl rfl (awp_mono _ h ?_))
  rintro v σ ⟨x5_2, rfl, h⟩
  refine Lp (V_asg rfl rfl) rfl rfl ?_
  refine Lnil ?_
  refine thenN ?_
  refine AW.ret ?_
  exact bR1 Tryz.results76 rfl ⟨_, rfl, h⟩

def f_wire_Reader_Blob (B : World) (ro : AH) (a0 : Option Addr) (σ : AH) (Q : Sl → AH → Prop) : Prop :=
 ∃ p7_1 : Addr, a0 = some p7_1 ∧
 ∃ (x9_2 : Sl), acell ro σ p7_1 = some (Sl.v x9_2) ∧
 c_wire_Reader_Num B ro a0 σ fun x11_3 σ =>
 ∃ p13_4 : Addr, a0 = some p13_4 ∧
 ∃ (x15_5 : Int), acell ro σ (p13_4.add 1) = some (.int .i64 x15_5) ∧
 if ¬ (x15_5 = 0) then
  Q (⟨none, 0, 0⟩ : Sl) σ
 else
 ∃ p19_6 : Addr, a0 = some p19_6 ∧
 ∃ (x21_7 : Sl), acell ro σ p19_6 = some (Sl.v x21_7) ∧
 if (x21_7.len : Int) < x11_3 then
  ∃ p27_8 : Addr, a0 = some p27_8 ∧
  stN (p27_8.add 1) (fun σ =>
   ∃ p29_9 : Addr, a0 = some p29_9 ∧
   stN p29_9 (fun σ =>
    Q (⟨none, 0, 0⟩ : Sl) σ) [Sl.v x9_2] 0 σ) [.int .i64 12] 0 σ
 else
 ∃ p32_10 : Addr, a0 = some p32_10 ∧
 ∃ (x34_11 : Sl), acell ro σ p32_10 = some (Sl.v x34_11) ∧
 cutOk none (some x11_3) x34_11.len x34_11.cap ∧
 c_bytes_Clone B ro (⟨cutA x34_11.a (0) x34_11.cap 1, Int.toNat x11_3 - 0, x34_11.cap - 0⟩ : Sl) σ fun x37_12 σ =>
 ∃ p40_13 : Addr, a0 = some p40_13 ∧
 ∃ (x42_14 : Sl), acell ro σ p40_13 = some (Sl.v x42_14) ∧
 cutOk (some x11_3) none x42_14.len x42_14.cap ∧
 ∃ p45_15 : Addr, a0 = some p45_15 ∧
 stN p45_15 (fun σ =>
  Q x37_12 σ) [Sl.v (⟨cutA x42_14.a (Int.toNat x11_3) x42_14.cap 1, x42_14.len - Int.toNat x11_3, x42_14.cap - Int.toNat x11_3⟩ : Sl)] 0 σ

set_option maxRecDepth 100000 in
set_option maxHeartbeats 4000000 in
theorem wire_Reader_Blob_ok {B : World} {ro : AH} {a0 : Option Addr} {σ : AH} {Q : Sl → AH → Prop} (h : Sep ro σ → f_wire_Reader_Blob B ro a0 σ Q) : c_wire_Reader_Blob B ro a0 σ Q := by
  refine ACalls.of_sep fun hsep => ?_
  replace h := h hsep
  refine ACalls.of_body (args := [.pointer a0]) Tryz.func77 rfl (by rw [Tryz.ntmps77]; simp) ?_
  rw [Tryz.ntmps77]
  unfold f_wire_Reader_Blob at h
  refine AW.seq ?_
  refine AW.reg ?_
  refine Lp (V_asg rfl rfl) rfl rfl ?_
  refine Lnil ?_
  refine thenN ?_
  refine AW.seq ?_
  refine AW.reg ?_
  refine Lp (V_move rfl rfl) rfl rfl ?_
  obtain ⟨p7_1, hc, h⟩ := h
  refine Lp (V_nil rfl (by rw [← hc]; rfl)) rfl rfl ?_
  refine Lp (V_fld rfl Tryz.underlying213 rfl ty30 (by decide) rfl) rfl rfl ?_
  obtain ⟨x9_2, hc, h⟩ := h
  refine Ls rfl rfl (X_ld rfl Tryz.underlying30 rfl rfl hc ?_)
  refine Lp (V_asg rfl rfl) rfl rfl ?_
  refine Lnil ?_
  refine thenN ?_
  refine AW.seq ?_
  refine AW.reg ?_
  refine Lp (V_move rfl rfl) rfl rfl ?_
  refine Ls rfl rfl (X_call rfl Tryz.func78 rfl rfl rfl (ACalls.mono h ?_))
  rintro v σ ⟨x11_3, rfl, h⟩
  refine Lp (V_asg rfl rfl) rfl rfl ?_
  refine Lnil ?_
  refine thenN ?_
  refine AW.seq ?_
  refine AW.seq ?_
  refine AW.reg ?_
  refine Lp (V_move rfl rfl) rfl rfl ?_
  obtain ⟨p13_4, hc, h⟩ := h
  refine Lp (V_nil rfl (by rw [← hc]; rfl)) rfl rfl ?_
  refine Lp (V_fld rfl Tryz.underlying213 rfl ty26 (by decide) rfl) rfl rfl ?_
  obtain ⟨x15_5, hc, h⟩ := h
  refine Ls rfl rfl (X_ld rfl Tryz.underlying26 rfl rfl hc ?_)
  refine Lp (V_neq rfl rfl rfl) rfl rfl ?_
  refine Lnil ?_
  refine thenN ?_
  refine AW.iff rfl (bnot_iff decide_eq_true_iff) h (fun h => ?_) (fun h => ?_)
  · refine AW.seq ?_
    refine AW.reg ?_
    refine Lp (V_asg rfl rfl) rfl rfl ?_
    refine Lnil ?_
    refine thenN ?_
    refine AW.ret ?_
    refine thenR ?_
    exact bR1 Tryz.results77 rfl ⟨_, rfl, h⟩
  refine AW.skip ?_
  refine thenN ?_
  refine AW.seq ?_
  refine AW.seq ?_
  refine AW.reg ?_
  refine Lp (V_move rfl rfl) rfl rfl ?_
  refine Lp (V_move rfl rfl) rfl rfl ?_
  obtain ⟨p19_6, hc, h⟩ := h
  refine Lp (V_nil rfl (by rw [← hc]; rfl)) rfl rfl ?_
  refine Lp (V_fld rfl Tryz.underlying213 rfl ty30 (by decide) rfl) rfl rfl ?_
  obtain ⟨x21_7, hc, h⟩ := h
  refine Ls rfl rfl (X_ld rfl Tryz.underlying30 rfl rfl hc ?_)
  refine Lp (V_lenL rfl rfl Tryz.underlying30 rfl rfl) rfl rfl ?_
  refine Lp (V_gtr rfl rfl rfl) rfl rfl ?_
  refine Lnil ?_
  refine thenN ?_
  refine AW.iff rfl decide_eq_true_iff h (fun h => ?_) (fun h => ?_)
  · refine AW.seq ?_
    refine AW.reg ?_
    refine Lp (V_move rfl rfl) rfl rfl ?_
    refine Lp (V_move rfl rfl) rfl rfl ?_
    refine Lp (V_move rfl rfl) rfl rfl ?_
    obtain ⟨p27_8, hc, h⟩ := h
    refine Lp (V_nil rfl (by rw [← hc]; rfl)) rfl rfl ?_
    refine Lp (V_fld rfl Tryz.underlying213 rfl ty26 (by decide) rfl) rfl rfl ?_
    refine Ls rfl rfl (X_st rfl ty26 rfl rfl rfl rfl (stN_mono h fun σ h => ?_))
    obtain ⟨p29_9, hc, h⟩ := h
    refine Lp (V_nil rfl (by rw [← hc]; rfl)) rfl rfl ?_
    refine Lp (V_fld rfl Tryz.underlying213 rfl ty30 (by decide) rfl) rfl rfl ?_
    refine Ls rfl rfl (X_st rfl ty30 rfl rfl rfl rfl (stN_mono h fun σ h => ?_))
    refine Lnil ?_
    refine thenN ?_
    refine AW.seq ?_
    refine AW.reg ?_
    refine Lp (V_asg rfl rfl) rfl rfl ?_
    refine Lnil ?_
    refine thenN ?_
    refine AW.ret ?_
    refine thenR ?_
    exact bR1 Tryz.results77 rfl ⟨_, rfl, h⟩
  refine AW.skip ?_
  refine thenN ?_
  refine AW.seq ?_
  refine AW.reg ?_
  refine Lp (V_move rfl rfl) rfl rfl ?_
  obtain ⟨p32_10, hc, h⟩ := h
  refine Lp (V_nil rfl (by rw [← hc]; rfl)) rfl rfl ?_
  refine Lp (V_fld rfl Tryz.underlying213 rfl ty30 (by decide) rfl) rfl rfl ?_
  obtain ⟨x34_11, hc, h⟩ := h
  refine Ls rfl rfl (X_ld rfl Tryz.underlying30 rfl rfl hc ?_)
  refine Lp (V_move rfl rfl) rfl rfl ?_
  obtain ⟨hc, h⟩ := h
  refine Lp (V_slL (lo := none) (hi := (some x11_3)) rfl Tryz.underlying30 ty5 rfl optI_none (optI_some rfl) hc) rfl rfl ?_
  refine Ls rfl rfl (X_call rfl Tryz.func61 rfl rfl rfl (ACalls.mono h ?_))
  rintro v σ ⟨x37_12, rfl, h⟩
  refine Lp (V_asg rfl rfl) rfl rfl ?_
  refine Lnil ?_
  refine thenN ?_
  refine AW.seq ?_
  refine AW.reg ?_
  refine Lp (V_move rfl rfl) rfl rfl ?_
  refine Lp (V_move rfl rfl) rfl rfl ?_
  obtain ⟨p40_13, hc, h⟩ := h
  refine Lp (V_nil rfl (by rw [← hc]; rfl)) rfl rfl ?_
  refine Lp (V_fld rfl Tryz.underlying213 rfl ty30 (by decide) rfl) rfl rfl ?_
  obtain ⟨x42_14, hc, h⟩ := h
  refine Ls rfl rfl (X_ld rfl Tryz.underlying30 rfl rfl hc ?_)
  refine Lp (V_move rfl rfl) rfl rfl ?_
  obtain ⟨hc, h⟩ := h
  refine Lp (V_slL (lo := (some x11_3)) (hi := none) rfl Tryz.underlying30 ty5 rfl (optI_some rfl) optI_none hc) rfl rfl ?_
  obtain ⟨p45_15, hc, h⟩ := h
  refine Lp (V_nil rfl (by rw [← hc]; rfl)) rfl rfl ?_
  refine Lp (V_fld rfl Tryz.underlying213 rfl ty30 (by decide) rfl) rfl rfl ?_
  refine Ls rfl rfl (X_st rfl ty30 rfl rfl rfl rfl (stN_mono h fun σ h => ?_))
  refine Lnil ?_
  refine thenN ?_
  refine AW.seq ?_
  refine AW.reg ?_
  refine Lp (V_move rfl rfl) rfl rfl ?_
  refine Lp (V_asg rfl rfl) rfl rfl ?_
  refine Lnil ?_
  refine thenN ?_
  refine AW.ret ?_
  exact bR1 Tryz.results77 rfl ⟨_, rfl, h⟩

def f_wire_Reader_Num (B : World) (ro : AH) (a0 : Option Addr) (σ : AH) (Q : Int → AH → Prop) : Prop :=
 ∃ p7_1 : Addr, a0 = some p7_1 ∧
 ∃ (x9_2 : Int), acell ro σ (p7_1.add 1) = some (.int .i64 x9_2) ∧
 if ¬ (x9_2 = 0) then
  Q 0 σ
 else
 ∃ p13_3 : Addr, a0 = some p13_3 ∧
 ∃ (x15_4 : Sl), acell ro σ p13_3 = some (Sl.v x15_4) ∧
 c_wire_Number B ro x15_4 0 σ fun x16_5 x16_6 x16_7 σ =>
 ∃ p22_8 : Addr, a0 = some p22_8 ∧
 stN (p22_8.add 1) (fun σ =>
  ∃ p26_9 : Addr, a0 = some p26_9 ∧
  ∃ (x28_10 : Sl), acell ro σ p26_9 = some (Sl.v x28_10) ∧
  cutOk (some x16_6) none x28_10.len x28_10.cap ∧
  ∃ p31_11 : Addr, a0 = some p31_11 ∧
  stN p31_11 (fun σ =>
   Q x16_5 σ) [Sl.v (⟨cutA x28_10.a (Int.toNat x16_6) x28_10.cap 1, x28_10.len - Int.toNat x16_6, x28_10.cap - Int.toNat x16_6⟩ : Sl)] 0 σ) [.int .i64 x16_7] 0 σ

set_option maxRecDepth 100000 in
set_option maxHeartbeats 4000000 in
theorem wire_Reader_Num_ok {B : World} {ro : AH} {a0 : Option Addr} {σ : AH} {Q : Int → AH → Prop} (h : Sep ro σ → f_wire_Reader_Num B ro a0 σ Q) : c_wire_Reader_Num B ro a0 σ Q := by
  refine ACalls.of_sep fun hsep => ?_
  replace h := h hsep
  refine ACalls.of_body (args := [.pointer a0]) Tryz.func78 rfl (by rw [Tryz.ntmps78]; simp) ?_
  rw [Tryz.ntmps78]
  unfold f_wire_Reader_Num at h
  refine AW.seq ?_
  refine AW.reg ?_
  refine Lp (V_asg rfl rfl) rfl rfl ?_
  refine Lnil ?_
  refine thenN ?_
  refine AW.seq ?_
  refine AW.seq ?_
  refine AW.reg ?_
  refine Lp (V_move rfl rfl) rfl rfl ?_
  obtain ⟨p7_1, hc, h⟩ := h
  refine Lp (V_nil rfl (by rw [← hc]; rfl)) rfl rfl ?_
  refine Lp (V_fld rfl Tryz.underlying213 rfl ty26 (by decide) rfl) rfl rfl ?_
  obtain ⟨x9_2, hc, h⟩ := h
  refine Ls rfl rfl (X_ld rfl Tryz.underlying26 rfl rfl hc ?_)
  refine Lp (V_neq rfl rfl rfl) rfl rfl ?_
  refine Lnil ?_
  refine thenN ?_
  refine AW.iff rfl (bnot_iff decide_eq_true_iff) h (fun h => ?_) (fun h => ?_)
  · refine AW.seq ?_
    refine AW.reg ?_
    refine Lp (V_asg rfl rfl) rfl rfl ?_
    refine Lnil ?_
    refine thenN ?_
    refine AW.ret ?_
    refine thenR ?_
    exact bR1 Tryz.results78 rfl ⟨_, rfl, h⟩
  refine AW.skip ?_
  refine thenN ?_
  refine AW.seq ?_
  refine AW.reg ?_
  refine Lp (V_move rfl rfl) rfl rfl ?_
  obtain ⟨p13_3, hc, h⟩ := h
  refine Lp (V_nil rfl (by rw [← hc]; rfl)) rfl rfl ?_
  refine Lp (V_fld rfl Tryz.underlying213 rfl ty30 (by decide) rfl) rfl rfl ?_
  obtain ⟨x15_4, hc, h⟩ := h
  refine Ls rfl rfl (X_ld rfl Tryz.underlying30 rfl rfl hc ?_)
  refine Ls rfl rfl (X_call rfl Tryz.func119 rfl rfl rfl (ACalls.mono h ?_))
  rintro v σ ⟨x16_5, x16_6, x16_7, rfl, h⟩
  refine Lp (V_move rfl rfl) rfl rfl ?_
  refine Lp (V_ext rfl rfl rfl) rfl rfl ?_
  refine Lp (V_ext rfl rfl rfl) rfl rfl ?_
  refine Lp (V_ext rfl rfl rfl) rfl rfl ?_
  refine Lp (V_asg rfl rfl) rfl rfl ?_
  refine Lp (V_asg rfl rfl) rfl rfl ?_
  refine Lp (V_asg rfl rfl) rfl rfl ?_
  refine Lnil ?_
  refine thenN ?_
  refine AW.seq ?_
  refine AW.reg ?_
  refine Lp (V_move rfl rfl) rfl rfl ?_
  refine Lp (V_move rfl rfl) rfl rfl ?_
  obtain ⟨p22_8, hc, h⟩ := h
  refine Lp (V_nil rfl (by rw [← hc]; rfl)) rfl rfl ?_
  refine Lp (V_fld rfl Tryz.underlying213 rfl ty26 (by decide) rfl) rfl rfl ?_
  refine Ls rfl rfl (X_st rfl ty26 rfl rfl rfl rfl (stN_mono h fun σ h => ?_))
  refine Lnil ?_
  refine thenN ?_
  refine AW.seq ?_
  refine AW.reg ?_
  refine Lp (V_move rfl rfl) rfl rfl ?_
  refine Lp (V_move rfl rfl) rfl rfl ?_
  obtain ⟨p26_9, hc, h⟩ := h
  refine Lp (V_nil rfl (by rw [← hc]; rfl)) rfl rfl ?_
  refine Lp (V_fld rfl Tryz.underlying213 rfl ty30 (by decide) rfl) rfl rfl ?_
  obtain ⟨x28_10, hc, h⟩ := h
  refine Ls rfl rfl (X_ld rfl Tryz.underlying30 rfl rfl hc ?_)
  refine Lp (V_move rfl rfl) rfl rfl ?_
  obtain ⟨hc, h⟩ := h
  refine Lp (V_slL (lo := (some x16_6)) (hi := none) rfl Tryz.underlying30 ty5 rfl (optI_some rfl) optI_none hc) rfl rfl ?_
  obtain ⟨p31_11, hc, h⟩ := h
  refine Lp (V_nil rfl (by rw [← hc]; rfl)) rfl rfl ?_
  refine Lp (V_fld rfl Tryz.underlying213 rfl ty30 (by decide) rfl) rfl rfl ?_
  refine Ls rfl rfl (X_st rfl ty30 rfl rfl rfl rfl (stN_mono h fun σ h => ?_))
  refine Lnil ?_
  refine thenN ?_
  refine AW.seq ?_
  refine AW.reg ?_
  refine Lp (V_move rfl rfl) rfl rfl ?_
  refine Lp (V_asg rfl rfl) rfl rfl ?_
  refine Lnil ?_
  refine thenN ?_
  refine AW.ret ?_
  exact bR1 Tryz.results78 rfl ⟨_, rfl, h⟩

def f_wire_Reader_Err (B : World) (ro : AH) (a0 : Option Addr) (σ : AH) (Q : Int → AH → Prop) : Prop :=
 ∃ p4_1 : Addr, a0 = some p4_1 ∧
 ∃ (x6_2 : Int), acell ro σ (p4_1.add 1) = some (.int .i64 x6_2) ∧
 Q x6_2 σ

set_option maxRecDepth 100000 in
set_option maxHeartbeats 4000000 in
theorem wire_Reader_Err_ok {B : World} {ro : AH} {a0 : Option Addr} {σ : AH} {Q : Int → AH → Prop} (h : Sep ro σ → f_wire_Reader_Err B ro a0 σ Q) : c_wire_Reader_Err B ro a0 σ Q := by
  refine ACalls.of_sep fun hsep => ?_
  replace h := h hsep
  refine ACalls.of_body (args := [.pointer a0]) Tryz.func79 rfl (by rw [Tryz.ntmps79]; simp) ?_
  rw [Tryz.ntmps79]
  unfold f_wire_Reader_Err at h
  refine AW.seq ?_
  refine AW.reg ?_
  refine Lp (V_asg rfl rfl) rfl rfl ?_
  refine Lnil ?_
  refine thenN ?_
  refine AW.seq ?_
  refine AW.reg ?_
  refine Lp (V_move rfl rfl) rfl rfl ?_
  obtain ⟨p4_1, hc, h⟩ := h
  refine Lp (V_nil rfl (by rw [← hc]; rfl)) rfl rfl ?_
  refine Lp (V_fld rfl Tryz.underlying213 rfl ty26 (by decide) rfl) rfl rfl ?_
  obtain ⟨x6_2, hc, h⟩ := h
  refine Ls rfl rfl (X_ld rfl Tryz.underlying26 rfl rfl hc ?_)
  refine Lp (V_asg rfl rfl) rfl rfl ?_
  refine Lnil ?_
  refine thenN ?_
  refine AW.ret ?_
  exact bR1 Tryz.results79 rfl ⟨_, rfl, h⟩

def f_wire_buffer_num (B : World) (ro : AH) (a0 : Option Addr) (a1 : Int) (σ : AH) (Q : AH → Prop) : Prop :=
 c_wire_right B ro a1 σ fun x5_1 σ =>
 if ¬ (x5_1 = true) then
  ∃ p8_2 : Addr, a0 = some p8_2 ∧
  stN (p8_2.add 3) (fun σ =>
   Q σ) [.bool true] 0 σ
 else
 ∃ p11_3 : Addr, a0 = some p11_3 ∧
 c_wire_put B ro (⟨none, 0, 0⟩ : Sl) a1 σ fun x14_4 σ =>
 c_bytes_Buffer_Write B ro (some p11_3) x14_4 σ fun x15_5 x15_6 σ =>
 Q σ

set_option maxRecDepth 100000 in
set_option maxHeartbeats 4000000 in
theorem wire_buffer_num_ok {B : World} {ro : AH} {a0 : Option Addr} {a1 : Int} {σ : AH} {Q : AH → Prop} (h : Sep ro σ → f_wire_buffer_num B ro a0 a1 σ Q) : c_wire_buffer_num B ro a0 a1 σ Q := by
  refine ACalls.of_sep fun hsep => ?_
  replace h := h hsep
  refine ACalls.of_body (args := [.pointer a0, .int .i64 a1]) Tryz.func113 rfl (by rw [Tryz.ntmps113]; simp) ?_
  rw [Tryz.ntmps113]
  unfold f_wire_buffer_num at h
  refine AW.seq ?_
  refine AW.seq ?_
  refine AW.reg ?_
  refine Lp (V_move rfl rfl) rfl rfl ?_
  refine Ls rfl rfl (X_call rfl Tryz.func135 rfl rfl rfl (ACalls.mono h ?_))
  rintro v σ ⟨x5_1, rfl, h⟩
  refine Lp (V_not rfl rfl) rfl rfl ?_
  refine Lnil ?_
  refine thenN ?_
  refine AW.iff rfl (bnot_iff Iff.rfl) h (fun h => ?_) (fun h => ?_)
  · refine AW.seq ?_
    refine AW.reg ?_
    refine Lp (V_move rfl rfl) rfl rfl ?_
    obtain ⟨p8_2, hc, h⟩ := h
    refine Lp (V_nil rfl (by rw [← hc]; rfl)) rfl rfl ?_
    refine Lp (V_fld rfl Tryz.underlying200 rfl ty4 (by decide) rfl) rfl rfl ?_
    refine Ls rfl rfl (X_st rfl ty4 rfl rfl rfl rfl (stN_mono h fun σ h => ?_))
    refine Lnil ?_
    refine thenN ?_
    refine AW.ret ?_
    refine thenR ?_
    exact bR0 Tryz.results113 ⟨rfl, h⟩
  refine AW.skip ?_
  refine thenN ?_
  refine AW.drawn0 (fun i => ([0, 0, 0, 0, 2, 2] : List Nat).getD i 2) [] [0, 1, 2, 3, 4, 5] Tryz.mixed (by decide +kernel) ?_
  refine Dp rfl rfl rfl rfl (V_move rfl rfl) ?_
  obtain ⟨p11_3, hc, h⟩ := h
  refine Dp rfl rfl rfl rfl (V_nil rfl (by rw [← hc]; rfl)) ?_
  refine Dp rfl rfl rfl rfl (V_fld rfl Tryz.underlying200 rfl ty198 (by decide) rfl) ?_
  refine Dp rfl rfl rfl rfl (V_move rfl rfl) ?_
  refine Dg rfl rfl rfl rfl (X_call rfl Tryz.func136 rfl rfl rfl (ACalls.mono h ?_))
  rintro v σ ⟨x14_4, rfl, h⟩
  refine Dg rfl rfl rfl rfl (X_call rfl Tryz.func115 rfl rfl rfl (ACalls.mono h ?_))
  rintro v σ ⟨x15_5, x15_6, rfl, h⟩
  refine Dend ?_
  exact bN0 Tryz.results113 ⟨rfl, h⟩

def j1_wire_Number (B : World) (ro : AH) (a0 : Sl) (a1 : Int) (Q : Int → Int → Int → AH → Prop) (σ : AH) : Prop :=
 if 9 ≤ (IntKind.i64.wrap ((a0.len : Int) - a1)) then
  Q 0 0 13 σ
 else
 Q 0 0 12 σ

def j7_wire_Number (B : World) (ro : AH) (a1 : Int) (x4_3 : Int) (x21_4 : Int) (x25_6 : Int) (Q : Int → Int → Int → AH → Prop) (Y2 : (Int × Int) → AH → Prop) (x48_8 : Bool) (σ : AH) : Prop :=
 if x48_8 = true then
  Q 0 0 13 σ
 else
 Q (bitOr .i64 x4_3 (IntKind.i64.wrap ((IntKind.i64.wrap (bitAnd .u8 x25_6 127)) * 2 ^ (min (Int.toNat (IntKind.i64.wrap (7 * x21_4))) 64)))) (IntKind.i64.wrap ((IntKind.i64.wrap (a1 + x21_4)) + 1)) 0 σ

def l2_wire_Number (B : World) (ro : AH) (a0 : Sl) (a1 : Int) (Q : Int → Int → Int → AH → Prop) : (Int × Int) → AH → ((Int × Int) → AH → Prop) → Prop := fun ⟨x4_3, x21_4⟩ σ Y2 =>
 if x21_4 < ((⟨cutA a0.a (Int.toNat a1) a0.cap 1, a0.len - Int.toNat a1, a0.cap - Int.toNat a1⟩ : Sl).len : Int) then
  ∃ p24_5 : Addr, (⟨cutA a0.a (Int.toNat a1) a0.cap 1, a0.len - Int.toNat a1, a0.cap - Int.toNat a1⟩ : Sl).a = some p24_5 ∧ (0 : Int) ≤ x21_4 ∧ x21_4 < ((⟨cutA a0.a (Int.toNat a1) a0.cap 1, a0.len - Int.toNat a1, a0.cap - Int.toNat a1⟩ : Sl).len : Int) ∧
  ∃ (x25_6 : Int), acell ro σ (p24_5.add (Int.toNat x21_4 * 1)) = some (.int .u8 x25_6) ∧
  if x21_4 = 9 then
   j1_wire_Number B ro a0 a1 Q σ
  else
  (0 : Int) ≤ (IntKind.i64.wrap (7 * x21_4)) ∧
  if x25_6 < 128 then
   if (x25_6 = 0) ∧ (0 < x21_4) then
    j7_wire_Number B ro a1 x4_3 x21_4 x25_6 Q Y2 true σ
   else
   c_wire_right B ro (bitOr .i64 x4_3 (IntKind.i64.wrap ((IntKind.i64.wrap (bitAnd .u8 x25_6 127)) * 2 ^ (min (Int.toNat (IntKind.i64.wrap (7 * x21_4))) 64)))) σ fun x46_9 σ =>
   j7_wire_Number B ro a1 x4_3 x21_4 x25_6 Q Y2 (!x46_9) σ
  else
  Y2 (bitOr .i64 x4_3 (IntKind.i64.wrap ((IntKind.i64.wrap (bitAnd .u8 x25_6 127)) * 2 ^ (min (Int.toNat (IntKind.i64.wrap (7 * x21_4))) 64))), IntKind.i64.wrap (x21_4 + 1)) σ
 else
 j1_wire_Number B ro a0 a1 Q σ

def f_wire_Number (B : World) (ro : AH) (a0 : Sl) (a1 : Int) (σ : AH) (Q : Int → Int → Int → AH → Prop) : Prop :=
 if (a1 < 0) ∨ ((a0.len : Int) < a1) then
  Q 0 0 11 σ
 else
 cutOk (some a1) none a0.len a0.cap ∧
 lfpD (l2_wire_Number B ro a0 a1 Q ) (0, 0) σ

set_option maxRecDepth 100000 in
set_option maxHeartbeats 4000000 in
theorem wire_Number_ok {B : World} {ro : AH} {a0 : Sl} {a1 : Int} {σ : AH} {Q : Int → Int → Int → AH → Prop} (h : Sep ro σ → f_wire_Number B ro a0 a1 σ Q) : c_wire_Number B ro a0 a1 σ Q := by
  refine ACalls.of_sep fun hsep => ?_
  replace h := h hsep
  refine ACalls.of_body (args := [Sl.v a0, .int .i64 a1]) Tryz.func119 rfl (by rw [Tryz.ntmps119]; simp) ?_
  rw [Tryz.ntmps119]
  unfold f_wire_Number at h
  refine AW.seq ?_
  refine AW.reg ?_
  refine Lp (V_asg rfl rfl) rfl rfl ?_
  refine Lp (V_asg rfl rfl) rfl rfl ?_
  refine Lp (V_asg rfl rfl) rfl rfl ?_
  refine Lnil ?_
  refine thenN ?_
  refine AW.seq ?_
  refine AW.seq ?_
  refine AW.reg ?_
  refine Lp (V_move rfl rfl) rfl rfl ?_
  refine Lp (V_lss rfl rfl rfl) rfl rfl ?_
  refine Lp (V_move rfl rfl) rfl rfl ?_
  refine Lsplit 5 (decide (a1 < 0)) [(0, Sl.v a0), (1, .int .i64 a1), (4, .int .i64 0), (16, .bool ((decide (a1 < 0)) || (decide ((a0.len : Int) < a1))))] ?_ ?_ ?_
  · intro e2 hk2
    refine Ln rfl rfl rfl rfl (.inl (by rw [e2]; rfl)) ?_
    refine Ln rfl rfl rfl rfl (.inl (by rw [e2]; rfl)) ?_
    refine Ln rfl rfl rfl rfl (.inl (by rw [e2]; rfl)) ?_
    refine Ln rfl rfl rfl rfl (.inl (by rw [e2]; rfl)) ?_
    refine Lp (V_pickT rfl (evb e2) rfl) rfl rfl ?_
    exact hk2 _ (FrLe.cons rfl (FrLe.cons rfl (FrLe.cons rfl (FrLe.cons (by rw [e2]; rfl) (FrLe.nil _)))))
  · intro e2 hk2
    refine Lypb (V_move rfl rfl) rfl rfl rfl rfl e2 ?_
    refine Lypb (V_move rfl rfl) rfl rfl rfl rfl e2 ?_
    refine Lypb (V_lenL rfl rfl Tryz.underlying30 rfl rfl) rfl rfl rfl rfl e2 ?_
    refine Lypb (V_gtr rfl rfl rfl) rfl rfl rfl rfl e2 ?_
    refine Lp (V_pickF rfl (evb e2) rfl) rfl rfl ?_
    exact hk2 _ (FrLe.cons rfl (FrLe.cons rfl (FrLe.cons rfl (FrLe.cons (by rw [e2]; rfl) (FrLe.nil _)))))
  intro fr hl
  refine Lfr hl ?_
  refine Lnil ?_
  refine thenN ?_
  refine AW.iff rfl (bor_iff decide_eq_true_iff decide_eq_true_iff) h (fun h => ?_) (fun h => ?_)
  · refine AW.seq ?_
    refine AW.reg ?_
    refine Lp (V_asg rfl rfl) rfl rfl ?_
    refine Lp (V_asg rfl rfl) rfl rfl ?_
    refine Lp (V_asg rfl rfl) rfl rfl ?_
    refine Lnil ?_
    refine thenN ?_
    refine AW.ret ?_
    refine thenR ?_
    exact bR3 Tryz.results119 rfl rfl rfl ⟨_, _, _, rfl, h⟩
  refine AW.skip ?_
  refine thenN ?_
  refine AW.seqJ (fun fr σ => FrLe [(0, Sl.v a0), (1, .int .i64 a1)] fr ∧ j1_wire_Number B ro a0 a1 Q σ) ?_ ?_
  · rintro fr σ ⟨hl, h⟩
    refine AW.weaken ?_ hl (HLe.refl _)
    unfold j1_wire_Number at h
    refine AW.seq ?_
    refine AW.seq ?_
    refine AW.reg ?_
    refine Lp (V_move rfl rfl) rfl rfl ?_
    refine Lp (V_lenL rfl rfl Tryz.underlying30 rfl rfl) rfl rfl ?_
    refine Lp (V_move rfl rfl) rfl rfl ?_
    refine Lp (V_sub rfl rfl rfl) rfl rfl ?_
    refine Lp (V_geq rfl rfl rfl) rfl rfl ?_
    refine Lnil ?_
    refine thenN ?_
    refine AW.iff rfl decide_eq_true_iff h (fun h => ?_) (fun h => ?_)
    · refine AW.seq ?_
      refine AW.reg ?_
      refine Lp (V_asg rfl rfl) rfl rfl ?_
      refine Lp (V_asg rfl rfl) rfl rfl ?_
      refine Lp (V_asg rfl rfl) rfl rfl ?_
      refine Lnil ?_
      refine thenN ?_
      refine AW.ret ?_
      refine thenR ?_
      exact bR3 Tryz.results119 rfl rfl rfl ⟨_, _, _, rfl, h⟩
    refine AW.skip ?_
    refine thenN ?_
    refine AW.seq ?_
    refine AW.reg ?_
    refine Lp (V_asg rfl rfl) rfl rfl ?_
    refine Lp (V_asg rfl rfl) rfl rfl ?_
    refine Lp (V_asg rfl rfl) rfl rfl ?_
    refine Lnil ?_
    refine thenN ?_
    refine AW.ret ?_
    exact bR3 Tryz.results119 rfl rfl rfl ⟨_, _, _, rfl, h⟩
  refine AW.seq ?_
  refine AW.reg ?_
  refine Lp (V_move rfl rfl) rfl rfl ?_
  refine Lp (V_move rfl rfl) rfl rfl ?_
  obtain ⟨hc, h⟩ := h
  refine Lp (V_slL (lo := (some a1)) (hi := none) rfl Tryz.underlying30 ty5 rfl (optI_some rfl) optI_none hc) rfl rfl ?_
  refine Lp (V_lenL rfl rfl Tryz.underlying30 rfl rfl) rfl rfl ?_
  refine Lp (V_move rfl rfl) rfl rfl ?_
  refine Lnil ?_
  refine thenN ?_
  refine AW.block ?_
  refine ARound.loop (fr' := [(0, Sl.v a0), (1, .int .i64 a1), (19, Sl.v (⟨cutA a0.a (Int.toNat a1) a0.cap 1, a0.len - Int.toNat a1, a0.cap - Int.toNat a1⟩ : Sl)), (20, .int .i64 ((⟨cutA a0.a (Int.toNat a1) a0.cap 1, a0.len - Int.toNat a1, a0.cap - Int.toNat a1⟩ : Sl).len : Int)), (4, .int .i64 0), (21, .int .i64 0)]) ?_ (FrLe.cons rfl (FrLe.cons rfl (FrLe.cons rfl (FrLe.cons rfl (FrLe.cons rfl (FrLe.cons rfl (FrLe.nil _)))))))
  refine h (fun ⟨x4_3, x21_4⟩ σ => ARound _ _ _ _ _ _ [(0, Sl.v a0), (1, .int .i64 a1), (19, Sl.v (⟨cutA a0.a (Int.toNat a1) a0.cap 1, a0.len - Int.toNat a1, a0.cap - Int.toNat a1⟩ : Sl)), (20, .int .i64 ((⟨cutA a0.a (Int.toNat a1) a0.cap 1, a0.len - Int.toNat a1, a0.cap - Int.toNat a1⟩ : Sl).len : Int)), (4, .int .i64 x4_3), (21, .int .i64 x21_4)] σ) ?_
  rintro ⟨x4_3, x21_4⟩ σ Y2 hY2 h
  show AW _ _ _ _ _ _ _ _
  unfold l2_wire_Number at h
  dsimp only at h
  refine AW.seq ?_
  refine AW.reg ?_
  refine Lp (V_lss rfl rfl rfl) rfl rfl ?_
  refine Lnil ?_
  refine thenN ?_
  refine AW.seq ?_
  refine AW.iff rfl decide_eq_true_iff h (fun h => ?_) (fun h => ?_)
  rotate_left
  · refine AW.exit ?_
    refine thenE ?_
    refine thenE ?_
    refine blockE ?_
    refine thenN ?_
    exact ⟨(FrLe.cons rfl (FrLe.cons rfl (FrLe.nil _))), h⟩
  refine AW.skip ?_
  refine thenN ?_
  refine AW.seq ?_
  refine AW.block ?_
  refine AW.seq ?_
  refine AW.reg ?_
  refine Lp (V_move rfl rfl) rfl rfl ?_
  obtain ⟨p24_5, ha, h0, h1, h⟩ := h
  refine Lp (V_ixA rfl Tryz.underlying30 ty5 (ixL rfl ha) rfl h0 h1) rfl rfl ?_
  obtain ⟨x25_6, hc, h⟩ := h
  refine Ls rfl rfl (X_ld rfl Tryz.underlying5 rfl rfl hc ?_)
  refine Lp (V_asg rfl rfl) rfl rfl ?_
  refine Lp (V_asg rfl rfl) rfl rfl ?_
  refine Lnil ?_
  refine thenN ?_
  refine AW.seq ?_
  refine AW.seq ?_
  refine AW.reg ?_
  refine Lp (V_move rfl rfl) rfl rfl ?_
  refine Lp (V_eql rfl rfl rfl) rfl rfl ?_
  refine Lnil ?_
  refine thenN ?_
  refine AW.iff rfl decide_eq_true_iff h (fun h => ?_) (fun h => ?_)
  · refine AW.exit ?_
    refine thenE ?_
    refine blockO rfl ?_
    refine thenE ?_
    refine thenE ?_
    refine blockE ?_
    refine thenN ?_
    exact ⟨(FrLe.cons rfl (FrLe.cons rfl (FrLe.nil _))), h⟩
  refine AW.skip ?_
  refine thenN ?_
  refine AW.seq ?_
  refine AW.reg ?_
  refine Lp (V_move rfl rfl) rfl rfl ?_
  refine Lp (V_move rfl rfl) rfl rfl ?_
  refine Lp (V_and rfl rfl rfl) rfl rfl ?_
  refine Lp (V_cvt rfl rfl Tryz.underlying5 Tryz.underlying3) rfl rfl ?_
  refine Lp (V_move rfl rfl) rfl rfl ?_
  refine Lp (V_mul rfl rfl rfl) rfl rfl ?_
  obtain ⟨hc, h⟩ := h
  refine Lp (V_shl rfl rfl rfl hc) rfl rfl ?_
  refine Lp (V_or rfl rfl rfl) rfl rfl ?_
  refine Lp (V_asg rfl rfl) rfl rfl ?_
  refine Lnil ?_
  refine thenN ?_
  refine AW.seq ?_
  refine AW.reg ?_
  refine Lp (V_move rfl rfl) rfl rfl ?_
  refine Lp (V_lss rfl rfl rfl) rfl rfl ?_
  refine Lnil ?_
  refine thenN ?_
  refine AW.iff rfl decide_eq_true_iff h (fun h => ?_) (fun h => ?_)
  rotate_left
  · refine AW.skip ?_
    refine blockN ?_
    refine thenN ?_
    refine AW.reg ?_
    refine Lp (V_add rfl rfl rfl) rfl rfl ?_
    refine Lp (V_move rfl rfl) rfl rfl ?_
    refine Lnil ?_
    refine thenN ?_
    refine ARound.head (fr' := [(0, Sl.v a0), (1, .int .i64 a1), (19, Sl.v (⟨cutA a0.a (Int.toNat a1) a0.cap 1, a0.len - Int.toNat a1, a0.cap - Int.toNat a1⟩ : Sl)), (20, .int .i64 ((⟨cutA a0.a (Int.toNat a1) a0.cap 1, a0.len - Int.toNat a1, a0.cap - Int.toNat a1⟩ : Sl).len : Int)), (4, .int .i64 (bitOr .i64 x4_3 (IntKind.i64.wrap ((IntKind.i64.wrap (bitAnd .u8 x25_6 127)) * 2 ^ (min (Int.toNat (IntKind.i64.wrap (7 * x21_4))) 64))))), (21, .int .i64 (IntKind.i64.wrap (x21_4 + 1)))]) ?_ (FrLe.cons rfl (FrLe.cons rfl (FrLe.cons rfl (FrLe.cons rfl (FrLe.cons rfl (FrLe.cons rfl (FrLe.nil _)))))))
    exact hY2 _ _ h
  refine AW.seq ?_
  refine AW.seq ?_
  refine AW.reg ?_
  refine Lp (V_move rfl rfl) rfl rfl ?_
  refine Lp (V_eql rfl rfl rfl) rfl rfl ?_
  refine Lp (V_move rfl rfl) rfl rfl ?_
  refine Lsplit 3 (decide (x25_6 = 0)) [(1, .int .i64 a1), (4, .int .i64 (bitOr .i64 x4_3 (IntKind.i64.wrap ((IntKind.i64.wrap (bitAnd .u8 x25_6 127)) * 2 ^ (min (Int.toNat (IntKind.i64.wrap (7 * x21_4))) 64))))), (7, .int .i64 x21_4), (43, .bool ((decide (x25_6 = 0)) && (decide (0 < x21_4))))] ?_ ?_ ?_
  · intro e2 hk2
    refine Lypb (V_move rfl rfl) rfl rfl rfl rfl e2 ?_
    refine Lypb (V_gtr rfl rfl rfl) rfl rfl rfl rfl e2 ?_
    refine Lp (V_pickT rfl (evb e2) rfl) rfl rfl ?_
    exact hk2 _ (FrLe.cons rfl (FrLe.cons rfl (FrLe.cons rfl (FrLe.cons (by rw [e2]; rfl) (FrLe.nil _)))))
  · intro e2 hk2
    refine Ln rfl rfl rfl rfl (.inl (by rw [e2]; rfl)) ?_
    refine Ln rfl rfl rfl rfl (.inl (by rw [e2]; rfl)) ?_
    refine Lp (V_pickF rfl (evb e2) rfl) rfl rfl ?_
    exact hk2 _ (FrLe.cons rfl (FrLe.cons rfl (FrLe.cons rfl (FrLe.cons (by rw [e2]; rfl) (FrLe.nil _)))))
  intro fr hl
  refine Lfr hl ?_
  refine Lp (V_move rfl rfl) rfl rfl ?_
  refine LsplitJ 4 ((decide (x25_6 = 0)) && (decide (0 < x21_4))) (band_iff decide_eq_true_iff decide_eq_true_iff) h (fun fr σ => ∃ (x48_8 : Bool), FrLe [(1, .int .i64 a1), (4, .int .i64 (bitOr .i64 x4_3 (IntKind.i64.wrap ((IntKind.i64.wrap (bitAnd .u8 x25_6 127)) * 2 ^ (min (Int.toNat (IntKind.i64.wrap (7 * x21_4))) 64))))), (7, .int .i64 x21_4), (48, .bool x48_8)] fr ∧ j7_wire_Number B ro a1 x4_3 x21_4 x25_6 Q Y2 x48_8 σ) ?_ ?_ ?_
  · intro h e6 hk6
    refine Ln rfl rfl rfl rfl (.inl (by rw [e6]; rfl)) ?_
    refine Ln rfl rfl rfl rfl (.inl (by rw [e6]; rfl)) ?_
    refine Ln rfl rfl rfl rfl (.inl (by rw [e6]; rfl)) ?_
    refine Lp (V_pickT rfl (evb e6) rfl) rfl rfl ?_
    exact hk6 _ _ ⟨_, (FrLe.cons rfl (FrLe.cons rfl (FrLe.cons rfl (FrLe.cons rfl (FrLe.nil _))))), h⟩
  · intro h e6 hk6
    refine Lypb (V_move rfl rfl) rfl rfl rfl rfl e6 ?_
    refine Lyb rfl rfl rfl rfl e6 (X_call rfl Tryz.func135 rfl rfl rfl (ACalls.mono h ?_))
    rintro v σ ⟨x46_9, rfl, h⟩
    refine Lypb (V_not rfl rfl) rfl rfl rfl rfl e6 ?_
    refine Lp (V_pickF rfl (evb e6) rfl) rfl rfl ?_
    exact hk6 _ _ ⟨_, (FrLe.cons rfl (FrLe.cons rfl (FrLe.cons rfl (FrLe.cons rfl (FrLe.nil _))))), h⟩
  rintro fr σ ⟨x48_8, hl, h⟩
  unfold j7_wire_Number at h
  refine Lfr hl ?_
  refine Lnil ?_
  refine thenN ?_
  refine AW.iff rfl Iff.rfl h (fun h => ?_) (fun h => ?_)
  · refine AW.seq ?_
    refine AW.reg ?_
    refine Lp (V_asg rfl rfl) rfl rfl ?_
    refine Lp (V_asg rfl rfl) rfl rfl ?_
    refine Lp (V_asg rfl rfl) rfl rfl ?_
    refine Lnil ?_
    refine thenN ?_
    refine AW.ret ?_
    refine thenR ?_
    refine blockR ?_
    refine thenR ?_
    refine thenR ?_
    refine blockR ?_
    refine thenR ?_
    exact bR3 Tryz.results119 rfl rfl rfl ⟨_, _, _, rfl, h⟩
  refine AW.skip ?_
  refine thenN ?_
  refine AW.seq ?_
  refine AW.reg ?_
  refine Lp (V_move rfl rfl) rfl rfl ?_
  refine Lp (V_move rfl rfl) rfl rfl ?_
  refine Lp (V_move rfl rfl) rfl rfl ?_
  refine Lp (V_add rfl rfl rfl) rfl rfl ?_
  refine Lp (V_add rfl rfl rfl) rfl rfl ?_
  refine Lp (V_asg rfl rfl) rfl rfl ?_
  refine Lp (V_asg rfl rfl) rfl rfl ?_
  refine Lp (V_asg rfl rfl) rfl rfl ?_
  refine Lnil ?_
  refine thenN ?_
  refine AW.ret ?_
  refine blockR ?_
  refine thenR ?_
  refine thenR ?_
  refine blockR ?_
  refine thenR ?_
  exact bR3 Tryz.results119 rfl rfl rfl ⟨_, _, _, rfl, h⟩

def f_wire_right (B : World) (ro : AH) (a0 : Int) (σ : AH) (Q : Bool → AH → Prop) : Prop :=
 Q ((decide (0 ≤ a0)) && (decide (a0 ≤ 4611686018427387903))) σ

set_option maxRecDepth 100000 in
set_option maxHeartbeats 4000000 in
theorem wire_right_ok {B : World} {ro : AH} {a0 : Int} {σ : AH} {Q : Bool → AH → Prop} (h : Sep ro σ → f_wire_right B ro a0 σ Q) : c_wire_right B ro a0 σ Q := by
  refine ACalls.of_sep fun hsep => ?_
  replace h := h hsep
  refine ACalls.of_body (args := [.int .i64 a0]) Tryz.func135 rfl (by rw [Tryz.ntmps135]; simp) ?_
  rw [Tryz.ntmps135]
  unfold f_wire_right at h
  refine AW.seq ?_
  refine AW.reg ?_
  refine Lp (V_asg rfl rfl) rfl rfl ?_
  refine Lnil ?_
  refine thenN ?_
  refine AW.seq ?_
  refine AW.reg ?_
  refine Lp (V_move rfl rfl) rfl rfl ?_
  refine Lp (V_geq rfl rfl rfl) rfl rfl ?_
  refine Lp (V_move rfl rfl) rfl rfl ?_
  refine Lsplit 3 (decide (0 ≤ a0)) [(8, .bool ((decide (0 ≤ a0)) && (decide (a0 ≤ 4611686018427387903))))] ?_ ?_ ?_
  · intro e2 hk2
    refine Lypb (V_move rfl rfl) rfl rfl rfl rfl e2 ?_
    refine Lypb (V_leq rfl rfl rfl) rfl rfl rfl rfl e2 ?_
    refine Lp (V_pickT rfl (evb e2) rfl) rfl rfl ?_
    exact hk2 _ (FrLe.cons (by rw [e2]; rfl) (FrLe.nil _))
  · intro e2 hk2
    refine Ln rfl rfl rfl rfl (.inl (by rw [e2]; rfl)) ?_
    refine Ln rfl rfl rfl rfl (.inl (by rw [e2]; rfl)) ?_
    refine Lp (V_pickF rfl (evb e2) rfl) rfl rfl ?_
    exact hk2 _ (FrLe.cons (by rw [e2]; rfl) (FrLe.nil _))
  intro fr hl
  refine Lfr hl ?_
  refine Lp (V_asg rfl rfl) rfl rfl ?_
  refine Lnil ?_
  refine thenN ?_
  refine AW.ret ?_
  exact bR1 Tryz.results135 rfl ⟨_, rfl, h⟩

def j1_wire_put (B : World) (ro : AH) (Q : Sl → AH → Prop) (x0_2 : Sl) (x1_3 : Int) (σ : AH) : Prop :=
 nw ro σ (.cells #[.int .u8 (IntKind.u8.wrap x1_3)] 5) fun x18_4 σ =>
 awp Tryz.prog ro (Builtin.append_ #[30, 30] 30 #[Sl.v x0_2, Sl.v (⟨some ⟨x18_4, 0, none⟩, 1, 1⟩ : Sl)]) (fun v σ => ∃ (x19_5 : Sl), v = Sl.v x19_5 ∧
  Q x19_5 σ) σ

def l6_wire_put (B : World) (ro : AH) (Q : Sl → AH → Prop) : (Sl × Int) → AH → ((Sl × Int) → AH → Prop) → Prop := fun ⟨x0_7, x1_8⟩ σ Y6 =>
 if 128 ≤ x1_8 then
  nw ro σ (.cells #[.int .u8 (bitOr .u8 (IntKind.u8.wrap x1_8) 128)] 5) fun x13_9 σ =>
  awp Tryz.prog ro (Builtin.append_ #[30, 30] 30 #[Sl.v x0_7, Sl.v (⟨some ⟨x13_9, 0, none⟩, 1, 1⟩ : Sl)]) (fun v σ => ∃ (x14_10 : Sl), v = Sl.v x14_10 ∧
   Y6 (x14_10, Int.fdiv x1_8 (2 ^ (min (Int.toNat 7) 64))) σ) σ
 else
 j1_wire_put B ro Q x0_7 x1_8 σ

def f_wire_put (B : World) (ro : AH) (a0 : Sl) (a1 : Int) (σ : AH) (Q : Sl → AH → Prop) : Prop :=
 lfpD (l6_wire_put B ro Q ) (a0, a1) σ

set_option maxRecDepth 100000 in
set_option maxHeartbeats 4000000 in
theorem wire_put_ok {B : World} {ro : AH} {a0 : Sl} {a1 : Int} {σ : AH} {Q : Sl → AH → Prop} (h : Sep ro σ → f_wire_put B ro a0 a1 σ Q) : c_wire_put B ro a0 a1 σ Q := by
  refine ACalls.of_sep fun hsep => ?_
  replace h := h hsep
  refine ACalls.of_body (args := [Sl.v a0, .int .i64 a1]) Tryz.func136 rfl (by rw [Tryz.ntmps136]; simp) ?_
  rw [Tryz.ntmps136]
  unfold f_wire_put at h
  refine AW.seq ?_
  refine AW.reg ?_
  refine Lp (V_asg rfl rfl) rfl rfl ?_
  refine Lnil ?_
  refine thenN ?_
  refine AW.seqJ (fun fr σ => ∃ (x0_2 : Sl) (x1_3 : Int), FrLe [(0, Sl.v x0_2), (1, .int .i64 x1_3)] fr ∧ j1_wire_put B ro Q x0_2 x1_3 σ) ?_ ?_
  · rintro fr σ ⟨x0_2, x1_3, hl, h⟩
    refine AW.weaken ?_ hl (HLe.refl _)
    unfold j1_wire_put at h
    refine AW.seq ?_
    refine AW.reg ?_
    refine Lp (V_move rfl rfl) rfl rfl ?_
    refine Lp (V_move rfl rfl) rfl rfl ?_
    refine Lp (V_cvt rfl rfl Tryz.underlying3 Tryz.underlying5) rfl rfl ?_
    refine Ls rfl rfl (X_new (A_bsl (vs := [(0, .int .u8 (IntKind.u8.wrap x1_3))]) (cs := #[.int .u8 (IntKind.u8.wrap x1_3)]) rfl Tryz.underlying30 ty5 (by decide) rfl rfl) fun x18_4 g1 g2 => ?_)
    replace h := h x18_4 g1 g2
    refine Ls rfl rfl (X_bi (s := Builtin.append_ #[30, 30] 30 #[Sl.v x0_2, Sl.v (⟨some ⟨x18_4, 0, none⟩, 1, 1⟩ : Sl)]) rfl rfl (fun _ => rfl) (awp_mono _ h ?_))
    rintro v σ ⟨x19_5, rfl, h⟩
    refine Lp (V_asg rfl rfl) rfl rfl ?_
    refine Lnil ?_
    refine thenN ?_
    refine AW.ret ?_
    exact bR1 Tryz.results136 rfl ⟨_, rfl, h⟩
  refine AW.block ?_
  refine ARound.loop (fr' := [(0, Sl.v a0), (1, .int .i64 a1)]) ?_ (FrLe.cons rfl (FrLe.cons rfl (FrLe.nil _)))
  refine h (fun ⟨x0_7, x1_8⟩ σ => ARound _ _ _ _ _ _ [(0, Sl.v x0_7), (1, .int .i64 x1_8)] σ) ?_
  rintro ⟨x0_7, x1_8⟩ σ Y6 hY6 h
  show AW _ _ _ _ _ _ _ _
  unfold l6_wire_put at h
  dsimp only at h
  refine AW.seq ?_
  refine AW.seq ?_
  refine AW.reg ?_
  refine Lp (V_move rfl rfl) rfl rfl ?_
  refine Lp (V_geq rfl rfl rfl) rfl rfl ?_
  refine Lnil ?_
  refine thenN ?_
  refine AW.iff rfl decide_eq_true_iff h (fun h => ?_) (fun h => ?_)
  rotate_left
  · refine AW.exit ?_
    refine thenE ?_
    refine thenE ?_
    refine blockE ?_
    refine thenN ?_
    exact ⟨_, _, (FrLe.cons rfl (FrLe.cons rfl (FrLe.nil _))), h⟩
  refine AW.skip ?_
  refine thenN ?_
  refine AW.seq ?_
  refine AW.block ?_
  refine AW.reg ?_
  refine Lp (V_move rfl rfl) rfl rfl ?_
  refine Lp (V_move rfl rfl) rfl rfl ?_
  refine Lp (V_cvt rfl rfl Tryz.underlying3 Tryz.underlying5) rfl rfl ?_
  refine Lp (V_or rfl rfl rfl) rfl rfl ?_
  refine Ls rfl rfl (X_new (A_bsl (vs := [(0, .int .u8 (bitOr .u8 (IntKind.u8.wrap x1_8) 128))]) (cs := #[.int .u8 (bitOr .u8 (IntKind.u8.wrap x1_8) 128)]) rfl Tryz.underlying30 ty5 (by decide) rfl rfl) fun x13_9 g1 g2 => ?_)
  replace h := h x13_9 g1 g2
  refine Ls rfl rfl (X_bi (s := Builtin.append_ #[30, 30] 30 #[Sl.v x0_7, Sl.v (⟨some ⟨x13_9, 0, none⟩, 1, 1⟩ : Sl)]) rfl rfl (fun _ => rfl) (awp_mono _ h ?_))
  rintro v σ ⟨x14_10, rfl, h⟩
  refine Lp (V_asg rfl rfl) rfl rfl ?_
  refine Lnil ?_
  refine blockN ?_
  refine thenN ?_
  refine AW.reg ?_
  refine Lp (V_move rfl rfl) rfl rfl ?_
  refine Lp (V_shr rfl rfl rfl (by decide)) rfl rfl ?_
  refine Lp (V_asg rfl rfl) rfl rfl ?_
  refine Lnil ?_
  refine thenN ?_
  refine ARound.head (fr' := [(0, Sl.v x14_10), (1, .int .i64 (Int.fdiv x1_8 (2 ^ (min (Int.toNat 7) 64))))]) ?_ (FrLe.cons rfl (FrLe.cons rfl (FrLe.nil _)))
  exact hY6 _ _ h

end Go.Proofs.YthfpmipeejjogaaGreatDoor.G

/- The wire, the walk: a writer. -/
namespace Go.Proofs.YthfpmipeejjogaaGreatDoor.Wi
open Go Go.Proofs.YthfpmipeejjogaaGreatDoor.SL Go.Proofs.YthfpmipeejjogaaGreatDoor.G Go.Proofs.YthfpmipeejjogaaGreatDoor.Zt
set_option linter.unusedSimpArgs false
set_option linter.unusedVariables false
variable {B : World} {ro σ σ' : AH} {tag tag' : Nat → Nat}

theorem u8or (n : Nat) : bitOr .u8 (IntKind.u8.wrap (n : Int)) 128 = ((n % 128 + 128 : Nat) : Int) := by
  have h : ∀ c : Fin 256, bitOr .u8 ((c.val : Nat) : Int) 128 = ((c.val % 128 + 128 : Nat) : Int) := by decide +kernel
  have e : IntKind.u8.wrap (n : Int) = ((n % 256 : Nat) : Int) := by
    simp [IntKind.wrap, IntKind.bits, IntKind.signed]
  rw [e, h ⟨n % 256, Nat.mod_lt _ (by decide)⟩]
  simp only
  omega
theorem u8wrap {n : Nat} (h : n < 256) : IntKind.u8.wrap (n : Int) = (n : Int) := by
  simp [IntKind.wrap, IntKind.bits, IntKind.signed]; omega
theorem vU_of {n : Nat} (h : n < 256) : vU (UInt8.ofNat n) = .int .u8 (n : Int) := by
  unfold vU; rw [u8_of n h]
theorem right_ok {n : Int} {Q : Bool → AH → Prop} (hQ : Q (rightN n) σ) : c_wire_right B ro n σ Q := by
  refine wire_right_ok fun _ => ?_
  unfold f_wire_right
  exact hQ
set_option maxRecDepth 100000 in
theorem put_ok {n : Nat} {Q : Sl → AH → Prop} (hs : SL.Sep ro σ) (hn : n < 4611686018427387904) (hQ : ∀ s tag' σ', Step [1] ro tag σ tag' σ' → Row tag' σ' 1 5 s ((vput n).map vU) → Q s σ') : c_wire_put B ro ⟨none, 0, 0⟩ (n : Int) σ Q := by
  refine wire_put_ok fun _ => ?_
  unfold f_wire_put
  suffices ∀ (m k : Nat) (acc : Str) (s : Sl) (tag1 : Nat → Nat) (σ1 : AH), k < 128 ^ (m + 1) → acc.length + m < 20 → acc ++ vput k = vput n → Step [1] ro tag σ tag1 σ1 → Row tag1 σ1 1 5 s (acc.map vU) → lfpD (l6_wire_put B ro Q) (s, (k : Int)) σ1 from
    this 8 n [] ⟨none, 0, 0⟩ tag σ (by omega) (by decide) rfl (Step.refl hs) (Row.nil 1 5)
  intro m
  induction m with
  | zero =>
    intro k acc s tag1 σ1 hk ha he st r1
    have hk : k < 128 := by simpa using hk
    refine lfpD.intro ?_
    unfold l6_wire_put
    simp only
    rw [if_neg (by omega)]
    unfold j1_wire_put
    refine nw_cells (tag := tag1) 0 st.sep fun x tag2 σ2 st2 r2 => ?_
    rw [u8wrap (by omega)] at r2
    refine awp_appendN (l2 := [vU (UInt8.ofNat k)]) (r1.keep (st2 []) (by simp)) (st2 []).sep (by rw [vU_of (by omega)]; exact r2.read (st2 []).sep) u30 ty5 rfl (by simp [storable]) (by simp; omega) (by decide) fun s' tag3 σ3 st3 r3 => ?_
    refine ⟨s', rfl, hQ s' tag3 σ3 (st.trans ((st2 _).trans (st3 _ (.inr (by simp))))) ?_⟩
    rw [← he]
    rw [vput, if_pos hk, List.map_append]
    exact r3
  | succ m ih =>
    intro k acc s tag1 σ1 hk ha he st r1
    refine lfpD.intro ?_
    unfold l6_wire_put
    simp only
    by_cases h128 : 128 ≤ k
    · rw [if_pos (by omega)]
      refine nw_cells (tag := tag1) 0 st.sep fun x tag2 σ2 st2 r2 => ?_
      rw [u8or] at r2
      refine awp_appendN (l2 := [vU (UInt8.ofNat (k % 128 + 128))]) (r1.keep (st2 []) (by simp)) (st2 []).sep (by rw [vU_of (by omega)]; exact r2.read (st2 []).sep) u30 ty5 rfl (by simp [storable]) (by simp; omega) (by decide) fun s' tag3 σ3 st3 r3 => ?_
      refine ⟨s', rfl, ?_⟩
      rw [show Int.fdiv (k : Int) (2 ^ (min (Int.toNat 7) 64)) = ((k / 128 : Nat) : Int) by
        rw [show (2 : Int) ^ (min (Int.toNat 7) 64) = 128 from by decide, Int.fdiv_eq_ediv_of_nonneg _ (by decide)]; omega]
      refine ih (k / 128) (acc ++ [UInt8.ofNat (k % 128 + 128)]) s' tag3 σ3 (by rw [Nat.pow_succ] at hk; exact Nat.div_lt_of_lt_mul (by rw [Nat.mul_comm]; exact hk)) (by simp; omega) ?_ (st.trans ((st2 _).trans (st3 _ (.inr (by simp))))) (by rw [List.map_append]; exact r3)
      rw [← he, List.append_assoc]
      conv => rhs; rw [vput, if_neg (by omega)]
      rfl
    · rw [if_neg (by omega)]
      unfold j1_wire_put
      refine nw_cells (tag := tag1) 0 st.sep fun x tag2 σ2 st2 r2 => ?_
      rw [u8wrap (by omega)] at r2
      refine awp_appendN (l2 := [vU (UInt8.ofNat k)]) (r1.keep (st2 []) (by simp)) (st2 []).sep (by rw [vU_of (by omega)]; exact r2.read (st2 []).sep) u30 ty5 rfl (by simp [storable]) (by simp; omega) (by decide) fun s' tag3 σ3 st3 r3 => ?_
      refine ⟨s', rfl, hQ s' tag3 σ3 (st.trans ((st2 _).trans (st3 _ (.inr (by simp))))) ?_⟩
      rw [← he]
      rw [vput, if_pos (by omega), List.map_append]
      exact r3

/-- what a number does to what was written -/
def wnum (a : Str × Bool) (n : Int) : Str × Bool := if rightN n then (a.1 ++ vput n.toNat, a.2) else (a.1, true)
theorem wnum_len (a : Str × Bool) (n : Int) : (wnum a n).1.length ≤ a.1.length + 9 := by
  unfold wnum
  split
  · rename_i h
    unfold rightN at h
    simp only [Bool.and_eq_true, decide_eq_true_eq] at h
    have := (vput_len 8 n.toNat (by omega)).2
    simp; omega
  · simp
set_option maxRecDepth 100000 in
theorem num_ok {r W : Nat} {a : Str × Bool} {n : Int} {Q : AH → Prop} (h : BufAt tag σ r W a.1 a.2) (hr : r ≠ 1) (hs : SL.Sep ro σ) (hl : a.1.length + 9 ≤ 140737488355328)
    (hQ : ∀ tag' σ', Step [r, r + 64, 1] ro tag σ tag' σ' → BufAt tag' σ' r W (wnum a n).1 (wnum a n).2 → Q σ') : c_wire_buffer_num B ro (some ⟨W, 0, none⟩) n σ Q := by
  refine wire_buffer_num_ok fun _ => ?_
  unfold f_wire_buffer_num
  refine right_ok ?_
  unfold wnum at hQ
  by_cases hn : rightN n = true
  · rw [if_neg (by simp [hn])]
    simp only [hn, if_true] at hQ
    have hn' := hn
    unfold rightN at hn'
    simp only [Bool.and_eq_true, decide_eq_true_eq] at hn'
    refine ⟨_, rfl, ?_⟩
    obtain ⟨k, rfl⟩ := Int.eq_ofNat_of_zero_le hn'.1
    rw [Int.toNat_natCast] at hQ
    refine put_ok (tag := tag) hs (by omega) fun s tag1 σ1 st1 r1 => ?_
    have hk := (vput_len 8 k (by omega)).2
    refine bufWrite_ok (d := vput k) (h.keep st1 (by simpa using hr) (by simp)) st1.sep (by omega) (by rw [r1.len]; simp) (fun tag2 σ2 st2 => (r1.keep st2 (by simp; omega)).read st2.sep) fun _ _ tag2 σ2 st2 h2 => ?_
    exact hQ tag2 σ2 ((st1.mono (by simp)).trans (st2.mono (by simp))) h2
  · rw [if_pos (by simpa using hn)]
    simp only [hn] at hQ
    obtain ⟨s0, hcap, lr, h1, h2⟩ := h
    refine ⟨_, rfl, ?_⟩
    refine h1.st (i := 3) hs rfl (by simp) rfl fun σ1 st1 r1 => ?_
    exact hQ tag σ1 (st1.mono (by simp)) ⟨s0, hcap, lr, r1, h2.keep st1 (by simp)⟩
set_option maxRecDepth 100000 in
theorem newWriter_ok {r : Nat} {Q : Option Addr → AH → Prop} (hQ : ∀ W tag' σ', (∀ R, Step R ro tag σ tag' σ') → BufAt tag' σ' r W [] false → Q (some ⟨W, 0, none⟩) σ') : c_wire_NewWriter B ro σ Q := by
  refine wire_NewWriter_ok fun hs => ?_
  unfold f_wire_NewWriter
  refine nw_cells (tag := tag) r hs fun W tag1 σ1 st1 r1 => ?_
  exact hQ W tag1 σ1 st1 ⟨⟨none, 0, 0⟩, by decide, 0, r1, Row.nil _ _⟩

theorem not1 : ¬ (IntKind.i64.wrap (0 + 1) < ((1 : Nat) : Int)) := by decide
def wtext (a : Str × Bool) (p : Str) : Str × Bool := ((wnum a p.length).1 ++ p, (wnum a p.length).2)
theorem wtext_len (a : Str × Bool) (p : Str) : (wtext a p).1.length ≤ a.1.length + 9 + p.length := by
  have := wnum_len a p.length
  unfold wtext; simp; omega
set_option maxRecDepth 100000 in
/-- one text -/
theorem texts1_ok {r W x q : Nat} {a : Str × Bool} {p : Str} {Q : AH → Prop} (h : BufAt tag σ r W a.1 a.2) (hr : r ≠ 1) (hq : q ≠ r ∧ q ≠ r + 64 ∧ q ≠ 1) (hs : SL.Sep ro σ) (hl : a.1.length + 9 + p.length ≤ 140737488355328) (hx : Row tag σ q 9 ⟨some ⟨x, 0, none⟩, 1, 1⟩ [Pa.vS p])
    (hQ : ∀ tag' σ', Step [r, r + 64, 1] ro tag σ tag' σ' → BufAt tag' σ' r W (wtext a p).1 (wtext a p).2 → Q σ') : c_wire_Writer_Texts B ro (some ⟨W, 0, none⟩) ⟨some ⟨x, 0, none⟩, 1, 1⟩ σ Q := by
  refine wire_Writer_Texts_ok fun _ => ?_
  unfold f_wire_Writer_Texts
  refine lfpD.intro ?_
  unfold l1_wire_Writer_Texts
  rw [if_pos (by simp)]
  refine ⟨_, rfl, by decide, by simp, S p, hx.cell1 hs, _, rfl, ?_⟩
  have hlen := wnum_len a p.length
  rw [show ((S p).size : Int) = (p.length : Nat) from by rw [← L_len, L_S]]
  refine num_ok h hr hs (by omega) fun tag1 σ1 st1 h1 => ?_
  refine ⟨_, rfl, ?_⟩
  refine bufWriteStr_ok h1 st1.sep (by rw [L_S]; omega) fun _ _ tag2 σ2 st2 h2 => ?_
  rw [L_S] at h2
  refine lfpD.intro ?_
  rw [if_neg (show ¬ (IntKind.i64.wrap (0 + 1) < ((⟨some ⟨x, 0, none⟩, 1, 1⟩ : Sl).len : Int)) from not1)]
  exact hQ tag2 σ2 (st1.trans (st2.mono (by simp))) h2
set_option maxRecDepth 100000 in
/-- one blob -/
theorem blobs1_ok {r W x q : Nat} {a : Str × Bool} {s : Sl} {p : Str} {Q : AH → Prop} (h : BufAt tag σ r W a.1 a.2) (hr : r ≠ 1) (hq : q ≠ r ∧ q ≠ r + 64 ∧ q ≠ 1) (hs : SL.Sep ro σ) (hl : a.1.length + 9 + p.length ≤ 140737488355328) (hx : Row tag σ q 30 ⟨some ⟨x, 0, none⟩, 1, 1⟩ [Sl.v s]) (hsl : s.len = p.length)
    (hsrc : ∀ tag' σ', Step [r, r + 64, 1] ro tag σ tag' σ' → SL.Read ro σ' s (p.map vU)) (hQ : ∀ tag' σ', Step [r, r + 64, 1] ro tag σ tag' σ' → BufAt tag' σ' r W (wtext a p).1 (wtext a p).2 → Q σ') :
    c_wire_Writer_Blobs B ro (some ⟨W, 0, none⟩) ⟨some ⟨x, 0, none⟩, 1, 1⟩ σ Q := by
  refine wire_Writer_Blobs_ok fun _ => ?_
  unfold f_wire_Writer_Blobs
  refine lfpD.intro ?_
  unfold l1_wire_Writer_Blobs
  rw [if_pos (by simp)]
  refine ⟨_, rfl, by decide, by simp, s, hx.cell1 hs, _, rfl, ?_⟩
  have hlen := wnum_len a p.length
  rw [hsl]
  refine num_ok h hr hs (by omega) fun tag1 σ1 st1 h1 => ?_
  refine ⟨_, rfl, ?_⟩
  have wid : ∀ x ∈ [r, r + 64], x ∈ [r, r + 64, 1] := fun x hx => by
    simp only [List.mem_cons, List.not_mem_nil, or_false] at hx ⊢
    rcases hx with h | h <;> simp [h]
  refine bufWrite_ok (d := p) h1 st1.sep (by omega) hsl (fun tag2 σ2 st2 => hsrc tag2 σ2 (st1.trans (st2.mono wid))) fun _ _ tag2 σ2 st2 h2 => ?_
  refine lfpD.intro ?_
  rw [if_neg (show ¬ (IntKind.i64.wrap (0 + 1) < ((⟨some ⟨x, 0, none⟩, 1, 1⟩ : Sl).len : Int)) from not1)]
  exact hQ tag2 σ2 (st1.trans (st2.mono wid)) h2
set_option maxRecDepth 100000 in
theorem nums_ok {r W q : Nat} {s : Sl} {Q : AH → Prop} (hr : r ≠ 1) (hq : q ≠ r ∧ q ≠ r + 64 ∧ q ≠ 1) {ns : List Int} {a : Str × Bool} (h : BufAt tag σ r W a.1 a.2) (hs : SL.Sep ro σ) (hl : a.1.length + 9 * ns.length ≤ 140737488355328) (hx : Row tag σ q 3 s (ns.map Zt.vI))
    (hQ : ∀ tag' σ', Step [r, r + 64, 1] ro tag σ tag' σ' → BufAt tag' σ' r W (ns.foldl wnum a).1 (ns.foldl wnum a).2 → Q σ') : c_wire_Writer_Nums B ro (some ⟨W, 0, none⟩) s σ Q := by
  refine wire_Writer_Nums_ok fun _ => ?_
  unfold f_wire_Writer_Nums
  have hsl : s.len = ns.length := by rw [hx.len, List.length_map]
  suffices ∀ (m j : Nat) (tag1 : Nat → Nat) (σ1 : AH), j + m = ns.length → Step [r, r + 64, 1] ro tag σ tag1 σ1 → ((ns.take j).foldl wnum a).1.length ≤ a.1.length + 9 * j → BufAt tag1 σ1 r W ((ns.take j).foldl wnum a).1 ((ns.take j).foldl wnum a).2 → lfpD (l1_wire_Writer_Nums B ro (some ⟨W, 0, none⟩) s Q) (j : Int) σ1 from
    this _ 0 tag σ (Nat.zero_add _) (Step.refl hs) (by simp) (by simpa using h)
  intro m
  induction m with
  | zero =>
    intro j tag1 σ1 hj st _ h1
    refine lfpD.intro ?_
    unfold l1_wire_Writer_Nums
    rw [if_neg (by omega)]
    rw [List.take_of_length_le (by omega)] at h1
    exact hQ tag1 σ1 st h1
  | succ m ih =>
    intro j tag1 σ1 hj st hln h1
    have hjl : j < ns.length := by omega
    have hx1 := hx.keep st (by simp; omega)
    obtain ⟨p, hp, hg⟩ := hx1.ptr st.sep (by simp; omega)
    refine lfpD.intro ?_
    unfold l1_wire_Writer_Nums
    rw [if_pos (by omega)]
    refine ⟨p, hp, by omega, by omega, ns[j], ?_, _, rfl, ?_⟩
    · have := hg j (Zt.vI ns[j]) (by rw [List.getElem?_map, List.getElem?_eq_getElem hjl]; rfl)
      rw [Int.toNat_natCast]; exact this
    · refine num_ok h1 hr st.sep (by omega) fun tag2 σ2 st2 h2 => ?_
      rw [Pa.inc j (by omega)]
      have e : (ns.take (j + 1)).foldl wnum a = wnum ((ns.take j).foldl wnum a) ns[j] := by
        rw [List.take_add_one, List.getElem?_eq_getElem hjl, List.foldl_append]; rfl
      have := wnum_len ((ns.take j).foldl wnum a) ns[j]
      exact ih (j + 1) tag2 σ2 (by omega) (st.trans st2) (by rw [e]; omega) (by rw [e]; exact h2)
set_option maxRecDepth 100000 in
theorem out_ok {r W : Nat} {a : Str × Bool} {Q : Sl → Int → AH → Prop} (h : BufAt tag σ r W a.1 a.2) (hs : SL.Sep ro σ) (hl : a.1.length ≤ 140737488355328)
    (hbad : a.2 = true → Q ⟨none, 0, 0⟩ 10 σ) (hgood : a.2 = false → ∀ s tag' σ', (∀ R, Step R ro tag σ tag' σ') → Row tag' σ' 6 5 s (a.1.map vU) → Q s 0 σ') : c_wire_Writer_Out B ro (some ⟨W, 0, none⟩) σ Q := by
  refine wire_Writer_Out_ok fun _ => ?_
  unfold f_wire_Writer_Out
  obtain ⟨s0, hcap, lr, h1, h2⟩ := h
  obtain ⟨p, hp, hg⟩ := h1.ptr hs (by simp)
  cases hp
  refine ⟨_, rfl, a.2, hg 3 _ rfl, ?_⟩
  by_cases hb : a.2 = true
  · rw [if_pos hb]; exact hbad hb
  · rw [if_neg hb]
    refine ⟨_, rfl, ?_⟩
    refine bytes_Buffer_Bytes_ok fun _ => ?_
    unfold f_bytes_Buffer_Bytes
    refine ⟨_, rfl, _, rfl, s0, hg 0 _ rfl, 0, hg 1 _ rfl, ⟨trivial, by decide, by simp only [cutHi]; omega⟩, ?_⟩
    rw [show (⟨cutA s0.a (Int.toNat 0) s0.cap 1, s0.len - Int.toNat 0, s0.cap - Int.toNat 0⟩ : Sl) = s0 from by rw [show Int.toNat 0 = 0 from rfl, cutA_zero]; rfl]
    refine clone_ok (tag := tag) (h2.read hs) hs (by simp; omega) (vU_st _) fun s' tag1 σ1 st1 r1 => ?_
    exact hgood (by simpa using hb) s' tag1 σ1 st1 r1
end Go.Proofs.YthfpmipeejjogaaGreatDoor.Wi

/- The wire, the walk: a reader. -/
namespace Go.Proofs.YthfpmipeejjogaaGreatDoor.Wi
open Go Go.Proofs.YthfpmipeejjogaaGreatDoor.SL Go.Proofs.YthfpmipeejjogaaGreatDoor.G Go.Proofs.YthfpmipeejjogaaGreatDoor.Zt
set_option linter.unusedSimpArgs false
set_option linter.unusedVariables false
variable {B : World} {ro σ σ' : AH} {tag tag' : Nat → Nat}

theorem u8and (c : UInt8) : bitAnd .u8 (c.toNat : Int) 127 = ((c.toNat % 128 : Nat) : Int) := by
  have h : ∀ c : Fin 256, bitAnd .u8 ((c.val : Nat) : Int) 127 = ((c.val % 128 : Nat) : Int) := by decide +kernel
  exact h ⟨c.toNat, u8_lt c⟩
theorem orshift {n i : Nat} (c : UInt8) (hi : i ≤ 8) (hn : n < 128 ^ i) :
    bitOr .i64 (n : Int) (IntKind.i64.wrap ((IntKind.i64.wrap (bitAnd .u8 (c.toNat : Int) 127)) * 2 ^ (min (Int.toNat (IntKind.i64.wrap (7 * (i : Int)))) 64))) = ((n + 128 ^ i * (c.toNat % 128) : Nat) : Int) := by
  have hm : c.toNat % 128 < 128 := Nat.mod_lt _ (by decide)
  rw [u8and]
  generalize c.toNat % 128 = m at hm
  rw [w64_eq (n := (m : Int)) (by omega) (by omega), w64_eq (n := 7 * (i : Int)) (by omega) (by omega)]
  have hp : (2 : Int) ^ (min (Int.toNat (7 * (i : Int))) 64) = ((128 ^ i : Nat) : Int) := by
    have : i = 0 ∨ i = 1 ∨ i = 2 ∨ i = 3 ∨ i = 4 ∨ i = 5 ∨ i = 6 ∨ i = 7 ∨ i = 8 := by omega
    rcases this with rfl | rfl | rfl | rfl | rfl | rfl | rfl | rfl | rfl <;> decide
  rw [hp]
  have h8 : 128 ^ i ≤ 128 ^ 8 := Nat.pow_le_pow_right (by decide) hi
  have h9 : m * 128 ^ i ≤ 127 * 128 ^ 8 := Nat.mul_le_mul (by omega) h8
  have h9' : m * 128 ^ i ≤ 9151314442816847872 := by simpa using h9
  have hn' : n < 72057594037927936 := Nat.lt_of_lt_of_le hn (by simpa using h8)
  rw [← Int.natCast_mul, w64_eq (by omega) (by omega)]
  unfold bitOr
  have e : (BitVec.ofInt IntKind.i64.bits (n : Int) ||| BitVec.ofInt IntKind.i64.bits ((m * 128 ^ i : Nat) : Int)).toNat = n + 128 ^ i * m := by
    rw [BitVec.toNat_or, BitVec.ofInt_natCast, BitVec.ofInt_natCast, BitVec.toNat_ofNat, BitVec.toNat_ofNat]
    rw [show IntKind.i64.bits = 64 from rfl, Nat.mod_eq_of_lt (by omega), Nat.mod_eq_of_lt (by omega)]
    have e2 : 128 ^ i = 2 ^ (7 * i) := by rw [Nat.pow_mul]
    rw [Nat.or_comm, Nat.mul_comm m, e2, ← Nat.two_pow_add_eq_or_of_lt (by rw [← e2]; exact hn)]
    omega
  rw [e]
  have : 128 ^ i * m = m * 128 ^ i := Nat.mul_comm _ _
  rw [w64_eq (by omega) (by omega)]

set_option maxRecDepth 100000 in
theorem number_ok {s : Sl} {l : Str} {Q : Int → Int → Int → AH → Prop} (h : SL.Read ro σ s (l.map vU)) (hl : l.length ≤ 140737488355328) (hQ : Q (num l).1 (num l).2.1 (num l).2.2 σ) : c_wire_Number B ro s 0 σ Q := by
  refine wire_Number_ok fun _ => ?_
  unfold f_wire_Number
  have hln : s.len = l.length := by rw [h.1, List.length_map]
  rw [if_neg (by omega)]
  refine ⟨⟨trivial, by decide, by simp only [cutHi]; omega⟩, ?_⟩
  have e0 : (⟨cutA s.a (Int.toNat 0) s.cap 1, s.len - Int.toNat 0, s.cap - Int.toNat 0⟩ : Sl) = s := by rw [show Int.toNat 0 = 0 from rfl, cutA_zero]; rfl
  suffices ∀ (m i : Nat), i + m = 9 → i ≤ l.length → (∀ j c, j < i → l[j]? = some c → 128 ≤ c.toNat) → lfpD (l2_wire_Number B ro s 0 Q) (((val (l.take i) : Nat) : Int), (i : Int)) σ from
    this 9 0 rfl (Nat.zero_le _) (fun j c h => by omega)
  intro m
  induction m with
  | zero =>
    intro i hi hil hall
    have hi9 : i = 9 := by omega
    subst hi9
    refine lfpD.intro ?_
    unfold l2_wire_Number
    simp only [e0]
    have hnum : num l = (0, 0, if l.length < 9 then 12 else 13) := by unfold num; rw [scan_none_of 9 l hall]
    have hj : j1_wire_Number B ro s 0 Q σ := by
      unfold j1_wire_Number
      rw [Int.sub_zero, w64_eq (by omega) (by omega), if_pos (by omega)]
      rw [hnum, if_neg (by omega)] at hQ
      exact hQ
    by_cases hlt : 9 < l.length
    · rw [if_pos (by omega)]
      have ha : s.a ≠ none := fun hn => by have := h.2.1 hn; simp at this; subst this; simp at hlt
      obtain ⟨p, hs⟩ : ∃ p, s.a = some p := by
        cases hs : s.a with
        | none => exact absurd hs ha
        | some p => exact ⟨p, rfl⟩
      · skip
        refine ⟨p, by rw [show Int.toNat 0 = 0 from rfl, cutA_zero, hs], by decide, by omega, (l[9].toNat : Int), ?_, ?_⟩
        · have := h.2.2 p hs 9 (vU l[9]) (by rw [List.getElem?_map, List.getElem?_eq_getElem hlt]; rfl)
          exact this
        · rw [if_pos (by decide)]; exact hj
    · rw [if_neg (by omega)]; exact hj
  | succ m ih =>
    intro i hi hil hall
    refine lfpD.intro ?_
    unfold l2_wire_Number
    simp only [e0]
    by_cases hlt : i < l.length
    · rw [if_pos (by omega)]
      have ha : s.a ≠ none := fun hn => by have := h.2.1 hn; simp at this; subst this; simp at hlt
      obtain ⟨p, hs⟩ : ∃ p, s.a = some p := by
        cases hs : s.a with
        | none => exact absurd hs ha
        | some p => exact ⟨p, rfl⟩
      · skip
        refine ⟨p, by rw [show Int.toNat 0 = 0 from rfl, cutA_zero, hs], by omega, by omega, (l[i].toNat : Int), ?_, ?_⟩
        · have := h.2.2 p hs i (vU l[i]) (by rw [List.getElem?_map, List.getElem?_eq_getElem hlt]; rfl)
          rw [Int.toNat_natCast, Nat.mul_one]; exact this
        · rw [if_neg (by omega)]
          refine ⟨by rw [w64_eq (by omega) (by omega)]; omega, ?_⟩
          rw [orshift l[i] (by omega) (val_take l i)]
          have hlen : (l.take i).length = i := by simp; omega
          have hval : val (l.take i) + 128 ^ i * (l[i].toNat % 128) = val (l.take (i + 1)) := by
            have e : l.take (i + 1) = l.take i ++ [l[i]] := by rw [List.take_add_one, List.getElem?_eq_getElem hlt]; rfl
            rw [e, val_snoc, hlen]
          rw [hval]
          by_cases hc : l[i].toNat < 128
          · rw [if_pos (by omega)]
            have hscan : scan 9 l = some i := scan_of 9 l i l[i] (by omega) hall (List.getElem?_eq_getElem hlt) hc
            have hz : (l[i]? = some 0) ↔ l[i].toNat = 0 := by
              rw [List.getElem?_eq_getElem hlt]
              refine ⟨fun h => by rw [Option.some.inj h]; rfl, fun h => congrArg some (u8_eq h)⟩
            unfold num at hQ
            rw [hscan] at hQ
            simp only at hQ
            by_cases hz0 : ((l[i].toNat : Int) = 0) ∧ ((0 : Int) < (i : Int))
            · rw [if_pos hz0]
              unfold j7_wire_Number
              rw [if_pos rfl]
              rw [if_pos (.inl ⟨by omega, hz.2 (by omega)⟩)] at hQ
              exact hQ
            · rw [if_neg hz0]
              refine right_ok ?_
              unfold j7_wire_Number
              by_cases hr : 4611686018427387904 ≤ val (l.take (i + 1))
              · rw [if_pos (by simp [rightN]; omega)]
                rw [if_pos (.inr hr)] at hQ
                exact hQ
              · rw [if_neg (by simp [rightN]; omega)]
                rw [if_neg (fun h => by
                  rcases h with ⟨h1, h2⟩ | h
                  · exact hz0 ⟨by rw [hz.1 h2]; rfl, by omega⟩
                  · exact hr h)] at hQ
                rw [Int.zero_add, orshift l[i] (by omega) (val_take l i), hval, w64_eq (n := (i : Int)) (by omega) (by omega), w64_eq (by omega) (by omega)]
                exact hQ
          · rw [if_neg (by omega)]
            rw [Pa.inc i (by omega)]
            refine ih (i + 1) (by omega) (by omega) fun j c hj hjc => ?_
            rcases Nat.lt_or_ge j i with h1 | h1
            · exact hall j c h1 hjc
            · have : j = i := by omega
              subst this
              rw [List.getElem?_eq_getElem hlt] at hjc
              cases hjc; omega
    · rw [if_neg (by omega)]
      have hnone : scan 9 l = none := scan_none_of 9 l fun j c _ hjc => hall j c (by
        rcases Nat.lt_or_ge j l.length with h | h
        · omega
        · rw [List.getElem?_eq_none h] at hjc; cases hjc) hjc
      unfold num at hQ
      rw [hnone] at hQ
      simp only at hQ
      unfold j1_wire_Number
      rw [Int.sub_zero, w64_eq (by omega) (by omega), if_neg (by omega)]
      rw [if_pos (by omega)] at hQ
      exact hQ
end Go.Proofs.YthfpmipeejjogaaGreatDoor.Wi

/- The tree's bytes, the walk; bytes as a string. -/
namespace Go.Proofs.YthfpmipeejjogaaGreatDoor.Zt
open Go Go.Proofs.YthfpmipeejjogaaGreatDoor.SL Go.Proofs.YthfpmipeejjogaaGreatDoor.G Go.Proofs.YthfpmipeejjogaaGreatDoor.Pa Go.Proofs.YthfpmipeejjogaaGreatDoor.Wi
set_option linter.unusedSimpArgs false
set_option linter.unusedVariables false
variable {B : World} {ro σ σ' : AH} {tag tag' : Nat → Nat}

theorem u5'' : Tryz.prog.underlying 5 = some (.int .u8) := by kernel_rfl
theorem forIn_bytes {P : Program} {f : Value → ByteArray → Sem (ForInStep ByteArray)} (hf : ∀ (c : UInt8) (r : ByteArray), f (vU c) r = Sem.pure (.yield (r.push c))) :
    ∀ (l : Str) (s : Str), (forIn (l.map vU) (S s) f : Sem ByteArray) = Sem.pure (S (s ++ l)) := by
  intro l
  induction l with
  | nil => intro s; simp; rfl
  | cons c l ih =>
    intro s
    simp only [List.map_cons, List.forIn_cons]
    rw [hf]
    show (match ForInStep.yield ((S s).push c) with | _ => _ : Sem ByteArray) = _
    have e : (S s).push c = S (s ++ [c]) := by unfold S; simp [ByteArray.push]
    show forIn (l.map vU) ((S s).push c) f = _
    rw [e, ih]
    simp
theorem awp_b2s {s : Sl} {l : Str} {K : Value → AH → Prop} (h : SL.Read ro σ s (l.map vU)) (hK : K (.string (S l)) σ) : awp Tryz.prog ro (convert 30 9 (Sl.v s)) K σ := by
  unfold convert
  simp only [bind_def]
  rw [awp_underlying u30, awp_underlying u9]
  simp only [Sl.v]
  rw [awp_underlying u5'']
  simp only
  unfold Conv.bytesToString
  cases hs : s.a with
  | none =>
    have : l = [] := by have := h.2.1 hs; simpa using this
    subst this
    exact hK
  | some p =>
    simp only
    rw [h.1]
    refine (awp_bind _ _).2 ?_
    refine awp_loadCells (l.map vU) 0 #[] (cellsAt_of 0 fun j v hj => by rw [Nat.zero_add]; exact h.2.2 p hs j v hj) ?_
    simp only [List.nil_append, List.forIn_toArray, Array.empty_append]
    refine (awp_bind _ _).2 ?_
    refine cast (congrArg (fun z => awp Tryz.prog ro z _ σ) (forIn_bytes (P := Tryz.prog) ?_ l [])).symm ?_
    · intro c r
      simp only [vU]
      show Sem.pure (ForInStep.yield (r.push (UInt8.ofNat (Int.toNat (c.toNat : Int))))) = _
      rw [Int.toNat_natCast]; simp
    · exact hK
set_option maxRecDepth 100000 in
theorem same_ok {a b : Sl} {x y : Str} {Q : Bool → AH → Prop} (ha : SL.Read ro σ a (x.map vU)) (hb : SL.Read ro σ b (y.map vU)) (hQ : Q (decide (x = y)) σ) : c_ref01_Same B ro a b σ Q := by
  refine ref01_Same_ok fun _ => ?_
  unfold f_ref01_Same
  refine awp_b2s ha ⟨S x, rfl, awp_b2s hb ⟨S y, rfl, ?_⟩⟩
  rw [show decide (S x = S y) = decide (x = y) from by simp only [S_inj]]
  exact hQ

/-! what a writer holds behind nodes -/
def wnode (a : Str × Bool) (p : Str × Nd) : Str × Bool := [p.2.ver, p.2.ctr, p.2.own].foldl wnum (wtext (wtext a p.1) p.2.data)
theorem wnum_bad (a : Str × Bool) (n : Int) (h : a.2 = true) : (wnum a n).2 = true := by unfold wnum; split <;> simp [h]
theorem wtext_bad (a : Str × Bool) (p : Str) (h : a.2 = true) : (wtext a p).2 = true := by unfold wtext; exact wnum_bad _ _ h
theorem wnode_bad (a : Str × Bool) (p : Str × Nd) (h : a.2 = true) : (wnode a p).2 = true := by
  unfold wnode
  simp only [List.foldl_cons, List.foldl_nil]
  exact wnum_bad _ _ (wnum_bad _ _ (wnum_bad _ _ (wtext_bad _ _ (wtext_bad _ _ h))))
theorem wtext_eq (a : Str × Bool) (p : Str) (h : p.length ≤ 4611686018427387903) : wtext a p = (a.1 ++ blob p, a.2) := by
  have hr : rightN (p.length : Int) = true := by simp [rightN]; omega
  unfold wtext wnum
  rw [if_pos hr]
  simp [blob]
theorem wnode_eq (a : Str × Bool) (p : Str × Nd) (h1 : p.1.length ≤ 4611686018427387903) (h2 : p.2.data.length ≤ 4611686018427387903) (h : numsOk p.2 = true) : wnode a p = (a.1 ++ encN p, a.2) := by
  unfold numsOk at h
  simp only [Bool.and_eq_true] at h
  unfold wnode
  rw [wtext_eq _ _ h1, wtext_eq _ _ h2]
  simp only [List.foldl_cons, List.foldl_nil]
  unfold wnum
  rw [if_pos h.1.1, if_pos h.1.2, if_pos h.2]
  simp [encN]
theorem wnode_no (a : Str × Bool) (p : Str × Nd) (h : numsOk p.2 = false) : (wnode a p).2 = true := by
  unfold wnode
  simp only [List.foldl_cons, List.foldl_nil]
  unfold numsOk at h
  by_cases h1 : rightN p.2.ver = true
  · by_cases h2 : rightN p.2.ctr = true
    · have h3 : ¬ rightN p.2.own = true := by simpa [h1, h2] using h
      unfold wnum; rw [if_neg h3]
    · refine wnum_bad _ _ ?_
      unfold wnum; rw [if_neg h2]
  · refine wnum_bad _ _ (wnum_bad _ _ ?_)
    unfold wnum; rw [if_neg h1]
theorem wnode_len (a : Str × Bool) (p : Str × Nd) : (wnode a p).1.length ≤ a.1.length + 45 + p.1.length + p.2.data.length := by
  unfold wnode
  simp only [List.foldl_cons, List.foldl_nil]
  have h1 := wtext_len a p.1
  have h2 := wtext_len (wtext a p.1) p.2.data
  have h3 := wnum_len (wtext (wtext a p.1) p.2.data) p.2.ver
  have h4 := wnum_len (wnum (wtext (wtext a p.1) p.2.data) p.2.ver) p.2.ctr
  have h5 := wnum_len (wnum (wnum (wtext (wtext a p.1) p.2.data) p.2.ver) p.2.ctr) p.2.own
  omega
theorem wfold_bad (x : St) (a : Str × Bool) (h : a.2 = true) : (x.foldl wnode a).2 = true := by
  induction x generalizing a with
  | nil => exact h
  | cons p x ih => exact ih _ (wnode_bad a p h)
theorem wfold (x : St) (hx : ∀ p ∈ x, p.1.length ≤ 4611686018427387903 ∧ p.2.data.length ≤ 4611686018427387903) (a : Str × Bool) :
    (x.all (fun p => numsOk p.2) = true → x.foldl wnode a = (a.1 ++ encL x, a.2)) ∧ (x.all (fun p => numsOk p.2) = false → (x.foldl wnode a).2 = true) := by
  induction x generalizing a with
  | nil => exact ⟨fun _ => by simp [encL], fun h => by simp at h⟩
  | cons p x ih =>
    have hp := hx p (by simp)
    have := ih (fun q hq => hx q (by simp [hq])) (wnode a p)
    refine ⟨fun h => ?_, fun h => ?_⟩
    · simp only [List.all_cons, Bool.and_eq_true] at h
      rw [List.foldl_cons, this.1 h.2, wnode_eq a p hp.1 hp.2 h.1]
      simp [encL]
    · rw [List.foldl_cons]
      cases hn : numsOk p.2 with
      | false => exact wfold_bad _ _ (wnode_no a p hn)
      | true => exact this.2 (by simpa [hn] using h)
set_option maxRecDepth 100000 in
theorem encode_ok {r T M : Nat} {bs : List Nat} {st : St} {Q : Sl → AH → Prop} (hr : r < 64) (hr0 : r ≠ 0) (hr1 : r ≠ 1) (hr6 : r ≠ 6) (hr3 : r ≠ 30) (h : TreeAt tag σ r T M bs st) (hl : ∀ p ∈ st, p.1.length ≤ 128 ∧ p.2.data.length ≤ 256) (hn : st.length ≤ 4294967296)
    (hQ : ∀ (s : Sl) (tag' : Nat → Nat) (σ' : AH), Step [30, 94, 1] ro tag σ tag' σ' → Row tag' σ' 6 5 s ((encS st).map vU) → Q s σ') : c_ztree_Tree_Encode B ro (some ⟨T, 0, none⟩) σ Q := by
  refine ztree_Tree_Encode_ok fun hs => ?_
  unfold f_ztree_Tree_Encode
  have hR : ∀ x ∈ [30, 94, 1], x % 64 ≠ r % 64 ∧ x ≠ 6 := fun x hx => by
    simp only [List.mem_cons, List.not_mem_nil, or_false] at hx
    omega
  refine newWriter_ok (tag := tag) (r := 30) fun W tag1 σ1 st1 b1 => ?_
  refine paths_ok (q := 22) (h.keep (st1 []) (by simp)) (fun p hp => (hl p hp).1) (by omega) fun s tag2 σ2 ks st2 hpm hsrt hr2 => ?_
  have hks := srt_keys h.keys hpm hsrt
  have hsl : s.len = ks.length := by rw [hr2.len, List.length_map]
  have hkl : ks.length = (srt st).length := by rw [hks, List.length_map]
  have hkn : ks.length = st.length := by rw [hpm.length_eq, List.length_map]
  have hmem : ∀ p ∈ srt st, p.1.length ≤ 128 ∧ p.2.data.length ≤ 256 := fun p hp => hl p ((srt_perm st).mem_iff.1 hp)
  suffices ∀ (m j : Nat) (tag3 : Nat → Nat) (σ3 : AH), j + m = ks.length → Step [30, 94, 1] ro tag σ tag3 σ3 → TreeAt tag3 σ3 r T M bs st → Row tag3 σ3 22 9 s (ks.map Pa.vS) → (((srt st).take j).foldl wnode ([], false)).1.length ≤ 429 * j →
      BufAt tag3 σ3 30 W (((srt st).take j).foldl wnode ([], false)).1 (((srt st).take j).foldl wnode ([], false)).2 → lfpD (l6_ztree_Tree_Encode B ro (some ⟨T, 0, none⟩) (some ⟨W, 0, none⟩) s Q) (j : Int) σ3 from
    this _ 0 tag2 σ2 (Nat.zero_add _) ((st1 _).trans (st2 _)) ((h.keep (st1 []) (by simp)).keep (st2 []) (by simp)) hr2 (by simp) (b1.keep (st2 []) (by simp) (by simp))
  intro m
  induction m with
  | zero =>
    intro j tag3 σ3 hj hst hA hrow hlen hb
    refine lfpD.intro ?_
    unfold l6_ztree_Tree_Encode
    rw [if_neg (by omega)]
    unfold j2_ztree_Tree_Encode
    rw [List.take_of_length_le (by omega)] at hb hlen
    have hw := wfold (srt st) (fun p hp => by have := hmem p hp; omega) ([], false)
    have hes : encS st = if (srt st).all (fun p => numsOk p.2) = true then encL (srt st) else [] := rfl
    refine out_ok hb hst.sep (by omega) (fun hbad => ?_) fun hgood s' tag4 σ4 st4 r4 => ?_
    · refine hQ _ tag3 σ3 hst ?_
      rw [hes, if_neg (fun hall => by rw [hw.1 hall] at hbad; cases hbad)]
      exact Row.nil 6 5
    · refine hQ s' tag4 σ4 (hst.trans (st4 _)) ?_
      have hall : (srt st).all (fun p => numsOk p.2) = true := by
        cases e : (srt st).all (fun p => numsOk p.2) with
        | true => rfl
        | false => rw [hw.2 e] at hgood; cases hgood
      rw [hes, if_pos hall]
      rw [hw.1 hall] at r4
      simpa using r4
  | succ m ih =>
    intro j tag3 σ3 hj hst hA hrow hlen hb
    have hjl : j < ks.length := by omega
    have hjs : j < (srt st).length := by omega
    obtain ⟨pp, hpp, _, hget⟩ := Row.sget hrow hst.sep hjl
    have hs3 := hst.sep
    refine lfpD.intro ?_
    unfold l6_ztree_Tree_Encode
    rw [if_pos (by omega)]
    refine ⟨pp, hpp, by omega, by omega, S ks[j], by rw [Int.toNat_natCast]; exact hget j hjl, _, rfl, _, Row.cell1 hA.cell hs3, ?_⟩
    refine awp_lookup_str hA.map hs3 u126 u9 ty129 ?_
    have hkj : ks[j] = (srt st)[j].1 := by simp only [hks, List.getElem_map]
    have hnj : st.lookup ks[j] = some (srt st)[j].2 := by
      rw [lookup_iff h.keys, ← (srt_perm st).mem_iff, hkj]
      exact List.getElem_mem hjs
    have hdl := hmem _ (List.getElem_mem hjs)
    rcases kv_lookup st bs ks[j] h.len with ⟨a, _⟩ | ⟨i, b, n, a1, a2, a3, e⟩
    · rw [hnj] at a; cases a
    · rw [e]
      rw [hnj] at a3
      have hn : n = (srt st)[j].2 := (Option.some.inj a3).symm
      refine ⟨some ⟨b, 0, none⟩, rfl, ?_⟩
      refine nw_cells (tag := tag3) 0 hs3 fun x tag4 σ4 st4 r4 => ?_
      refine texts1_ok (r := 30) (q := 0) (p := ks[j]) (hb.keep (st4 []) (by simp) (by simp)) (by decide) (by decide) (st4 []).sep (by rw [hkj]; omega) r4 fun tag5 σ5 st5 b5 => ?_
      have hA5 := (hA.keep (st4 []) (by simp)).keep st5 hR
      obtain ⟨ds, hn1, hn2⟩ := hA5.nodes i b _ a1 a2
      obtain ⟨q5, hq5, hg5⟩ := hn1.ptr st5.sep (by simp)
      cases hq5
      refine ⟨_, rfl, ds, hg5 4 _ rfl, ?_⟩
      refine nw_cells (tag := tag5) 0 st5.sep fun y tag6 σ6 st6 r6 => ?_
      have hn26 := hn2.keep (st6 []) (by simp)
      have hdn : n.data.length ≤ 256 := by rw [hn]; exact hdl.2
      have l5 := wtext_len (((srt st).take j).foldl wnode ([], false)) ks[j]
      refine blobs1_ok (r := 30) (q := 0) (p := n.data) (b5.keep (st6 []) (by simp) (by simp)) (by decide) (by decide) (st6 []).sep (by rw [hkj] at l5 ⊢; omega) r6 (by rw [hn2.len, List.length_map]) (fun tag7 σ7 st7 => (hn26.keep st7 (by decide)).read st7.sep) fun tag7 σ7 st7 b7 => ?_
      have hA7 := (hA5.keep (st6 []) (by simp)).keep st7 hR
      obtain ⟨ds7, hn17, hn27⟩ := hA7.nodes i b _ a1 a2
      obtain ⟨q7, hq7, hg7⟩ := hn17.ptr st7.sep (by simp)
      cases hq7
      refine ⟨_, rfl, _, rfl, _, rfl, n.ver, hg7 0 _ rfl, n.ctr, hg7 1 _ rfl, n.own, hg7 2 _ rfl, ?_⟩
      refine nw_cells (tag := tag7) 0 st7.sep fun z tag8 σ8 st8 r8 => ?_
      have l7 := wtext_len (wtext (((srt st).take j).foldl wnode ([], false)) ks[j]) n.data
      refine nums_ok (r := 30) (q := 0) (ns := [n.ver, n.ctr, n.own]) (by decide) (by decide) (b7.keep (st8 []) (by simp) (by simp)) (st8 []).sep (by rw [hkj] at l5 l7 ⊢; simp; omega) r8 fun tag9 σ9 st9 b9 => ?_
      rw [Pa.inc j (by omega)]
      have e1 : ((srt st).take (j + 1)).foldl wnode ([], false) = [n.ver, n.ctr, n.own].foldl wnum (wtext (wtext (((srt st).take j).foldl wnode ([], false)) ks[j]) n.data) := by
        rw [List.take_add_one, List.getElem?_eq_getElem hjs, List.foldl_append, hn, hkj]; rfl
      have l9 := wnode_len (((srt st).take j).foldl wnode ([], false)) (srt st)[j]
      have e2 : wnode (((srt st).take j).foldl wnode ([], false)) (srt st)[j] = ((srt st).take (j + 1)).foldl wnode ([], false) := by
        rw [List.take_add_one, List.getElem?_eq_getElem hjs, List.foldl_append]; rfl
      refine ih (j + 1) tag9 σ9 (by omega) (((((((hst.trans (st4 _)).trans st5).trans (st6 _)).trans st7).trans (st8 _)).trans st9)) ((hA7.keep (st8 []) (by simp)).keep st9 hR) ((((((hrow.keep (st4 []) (by simp)).keep st5 (by decide)).keep (st6 []) (by simp)).keep st7 (by decide)).keep (st8 []) (by simp)).keep st9 (by decide)) ?_ ?_
      · rw [← e2]; omega
      · rw [e1]; exact b9
end Go.Proofs.YthfpmipeejjogaaGreatDoor.Zt

/- The wire, the walk: a reader's calls. -/
namespace Go.Proofs.YthfpmipeejjogaaGreatDoor.Wi
open Go Go.Proofs.YthfpmipeejjogaaGreatDoor.SL Go.Proofs.YthfpmipeejjogaaGreatDoor.G Go.Proofs.YthfpmipeejjogaaGreatDoor.Zt
set_option linter.unusedSimpArgs false
set_option linter.unusedVariables false
variable {B : World} {ro σ σ' : AH} {tag tag' : Nat → Nat}

/-- the end of a row of bytes -/
def Tail (tag : Nat → Nat) (σ : AH) (q : Nat) (s : Sl) (l : Str) : Prop :=
  (s = ⟨none, 0, 0⟩ ∧ l = []) ∨ ∃ (g : Nat) (cs : Array Value) (k : Nat), s.a = some ⟨g, k, none⟩ ∧ tag g = q ∧ σ g = some (.cells cs 5) ∧ s.len = l.length ∧ s.len ≤ s.cap ∧ ∀ (i : Nat) (c : UInt8), l[i]? = some c → cs[k + i]? = some (vU c)
theorem Tail.len {q : Nat} {s : Sl} {l : Str} (h : Tail tag σ q s l) : s.len = l.length := by
  rcases h with ⟨rfl, rfl⟩ | ⟨_, _, _, _, _, _, h, _⟩
  · rfl
  · exact h
theorem Tail.cap {q : Nat} {s : Sl} {l : Str} (h : Tail tag σ q s l) : s.len ≤ s.cap := by
  rcases h with ⟨rfl, rfl⟩ | ⟨_, _, _, _, _, _, _, h, _⟩
  · exact Nat.le_refl _
  · exact h
theorem Tail.keep {R : List Nat} {q : Nat} {s : Sl} {l : Str} (h : Tail tag σ q s l) (k : Step R ro tag σ tag' σ') (hr : q ∉ R) : Tail tag' σ' q s l := by
  rcases h with h | ⟨g, cs, o, ha, ht, hb, hx⟩
  · exact .inl h
  · obtain ⟨t, e⟩ := k.keep g _ hb (by rw [ht]; exact hr)
    exact .inr ⟨g, cs, o, ha, t.trans ht, e, hx⟩
theorem Tail.of_row {q : Nat} {s : Sl} {l : Str} (h : Row tag σ q 5 s (l.map vU)) : Tail tag σ q s l := by
  rcases h with ⟨rfl, h⟩ | ⟨b, cs, ha, ht, hb, hln, hc, hle, hg⟩
  · exact .inl ⟨rfl, by simpa using h⟩
  · refine .inr ⟨b, cs, 0, ha, ht, hb, by rw [hln, List.length_map], hle, fun i c hi => ?_⟩
    have hil : i < l.length := by
      rcases Nat.lt_or_ge i l.length with h | h
      · exact h
      · rw [List.getElem?_eq_none h] at hi; cases hi
    rw [Nat.zero_add, hg i (by simpa using hil), List.getElem?_map, hi]; rfl
theorem Tail.read {q : Nat} {s : Sl} {l : Str} (h : Tail tag σ q s l) (hs : SL.Sep ro σ) : SL.Read ro σ s (l.map vU) := by
  refine ⟨by rw [h.len, List.length_map], fun hn => ?_, fun p hp i v hv => ?_⟩
  · rcases h with ⟨_, rfl⟩ | ⟨_, _, _, ha, _⟩
    · rfl
    · rw [hn] at ha; cases ha
  · rcases h with ⟨rfl, _⟩ | ⟨g, cs, k, ha, ht, hb, hln, hle, hg⟩
    · cases hp
    · rw [hp] at ha; cases ha
      rw [List.getElem?_map] at hv
      obtain ⟨c, hc, rfl⟩ := Option.map_eq_some_iff.1 hv
      unfold acell rd
      simp only [add_add, hs g _ hb, hb, cellOf]
      exact hg i c hc
theorem Tail.drop {q e : Nat} {s : Sl} {l : Str} (h : Tail tag σ q s l) (he : e ≤ l.length) : Tail tag σ q ⟨cutA s.a e s.cap 1, s.len - e, s.cap - e⟩ (l.drop e) := by
  rcases h with ⟨rfl, rfl⟩ | ⟨g, cs, k, ha, ht, hb, hln, hle, hg⟩
  · have : e = 0 := by simpa using he
    subst this
    exact .inl ⟨by simp [cutA], rfl⟩
  · unfold cutA
    by_cases hc : s.cap = e
    · rw [if_pos hc]
      refine .inr ⟨g, cs, k, ha, ht, hb, by simp; omega, by simp; omega, fun i c hi => ?_⟩
      rw [List.drop_of_length_le (by omega)] at hi; cases hi
    · rw [if_neg hc]
      refine .inr ⟨g, cs, k + e, by simp [ha, add_add], ht, hb, by simp; omega, by simp; omega, fun i c hi => ?_⟩
      rw [List.getElem?_drop] at hi
      rw [Nat.add_assoc]; exact hg (e + i) c hi
theorem Tail.takeR {q n : Nat} {s : Sl} {l : Str} (h : Tail tag σ q s l) (hs : SL.Sep ro σ) (hn : n ≤ l.length) : SL.Read ro σ ⟨cutA s.a 0 s.cap 1, n - 0, s.cap - 0⟩ ((l.take n).map vU) := by
  have hr := h.read hs
  rw [cutA_zero]
  refine ⟨by simp; omega, fun ha => ?_, fun p hp i v hv => ?_⟩
  · have := hr.2.1 ha
    have : l = [] := by simpa using this
    rw [this]; simp
  · refine hr.2.2 p hp i v ?_
    rw [List.map_take, List.getElem?_take] at hv
    split at hv
    · exact hv
    · cases hv
/-- a reader at A, of the role r -/
def RdAt (tag : Nat → Nat) (σ : AH) (r A : Nat) (x : Rd) : Prop :=
  ∃ s : Sl, Row tag σ r 213 ⟨some ⟨A, 0, none⟩, 2, 2⟩ [Sl.v s, Zt.vI x.err] ∧ Tail tag σ 6 s x.rest ∧ x.rest.length ≤ 140737488355328
theorem RdAt.keep {R : List Nat} {r A : Nat} {x : Rd} (h : RdAt tag σ r A x) (k : Step R ro tag σ tag' σ') (h1 : r ∉ R) (h2 : 6 ∉ R) : RdAt tag' σ' r A x := by
  obtain ⟨s, a, b, c⟩ := h
  exact ⟨s, a.keep k h1, b.keep k h2, c⟩
theorem RdAt.keepC {c r A : Nat} {x : Rd} (h : RdAt tag σ r A x) (k : StepC c ro tag σ tag' σ') (hr : r % 64 ≠ c) (h6 : c ≠ 6) : RdAt tag' σ' r A x := by
  obtain ⟨R, h1, h2⟩ := k
  exact h.keep h2 (fun m => hr (h1 _ m)) (fun m => h6 (h1 _ m).symm)
set_option maxRecDepth 100000 in
theorem newReader_ok {r : Nat} {a : Sl} {b : Str} {Q : Option Addr → AH → Prop} (h : SL.Read ro σ a (b.map vU)) (hs : SL.Sep ro σ) (hl : b.length ≤ 140737488355328) (hQ : ∀ A tag' σ', (∀ R, Step R ro tag σ tag' σ') → RdAt tag' σ' r A ⟨b, 0⟩ → Q (some ⟨A, 0, none⟩) σ') :
    c_wire_NewReader B ro a σ Q := by
  refine wire_NewReader_ok fun _ => ?_
  unfold f_wire_NewReader
  refine clone_ok (tag := tag) h hs (by simp; omega) (vU_st _) fun s tag1 σ1 st1 r1 => ?_
  refine nw_cells (tag := tag1) r (st1 []).sep fun A tag2 σ2 st2 r2 => ?_
  exact hQ A tag2 σ2 (fun R => (st1 R).trans (st2 R)) ⟨s, r2, Tail.of_row (r1.keep (st2 []) (by simp)), hl⟩
theorem left_ok {r A : Nat} {x : Rd} {Q : Int → AH → Prop} (h : RdAt tag σ r A x) (hs : SL.Sep ro σ) (hQ : Q (x.rest.length : Nat) σ) : c_wire_Reader_Left B ro (some ⟨A, 0, none⟩) σ Q := by
  refine wire_Reader_Left_ok fun _ => ?_
  unfold f_wire_Reader_Left
  obtain ⟨s, a, b, c⟩ := h
  obtain ⟨p, hp, hg⟩ := a.ptr hs (by simp)
  cases hp
  refine ⟨_, rfl, s, hg 0 _ rfl, ?_⟩
  rw [b.len]; exact hQ
theorem rerr_ok {r A : Nat} {x : Rd} {Q : Int → AH → Prop} (h : RdAt tag σ r A x) (hs : SL.Sep ro σ) (hQ : Q x.err σ) : c_wire_Reader_Err B ro (some ⟨A, 0, none⟩) σ Q := by
  refine wire_Reader_Err_ok fun _ => ?_
  unfold f_wire_Reader_Err
  obtain ⟨s, a, b, c⟩ := h
  obtain ⟨p, hp, hg⟩ := a.ptr hs (by simp)
  cases hp
  exact ⟨_, rfl, x.err, hg 1 _ rfl, hQ⟩
set_option maxRecDepth 100000 in
theorem rdNum_ok {r A : Nat} {x : Rd} {Q : Int → AH → Prop} (h : RdAt tag σ r A x) (h6 : r ≠ 6) (hs : SL.Sep ro σ) (hQ : ∀ σ', Step [r] ro tag σ tag σ' → RdAt tag σ' r A (rnum x).2 → Q ((rnum x).1 : Nat) σ') : c_wire_Reader_Num B ro (some ⟨A, 0, none⟩) σ Q := by
  refine wire_Reader_Num_ok fun _ => ?_
  unfold f_wire_Reader_Num
  obtain ⟨s, a, b, c⟩ := id h
  obtain ⟨p, hp, hg⟩ := a.ptr hs (by simp)
  cases hp
  refine ⟨_, rfl, x.err, hg 1 _ rfl, ?_⟩
  by_cases he : x.err = 0
  · rw [if_neg (by simpa using he)]
    refine ⟨_, rfl, s, hg 0 _ rfl, ?_⟩
    refine number_ok (b.read hs) c ?_
    have hrn : rnum x = ((num x.rest).1, ⟨x.rest.drop (num x.rest).2.1, (num x.rest).2.2⟩) := by unfold rnum; rw [if_neg (by simpa using he)]
    rw [hrn] at hQ
    have hle := num_le x.rest
    have hln := b.len
    have hcp := b.cap
    refine ⟨_, rfl, ?_⟩
    refine a.st (i := 1) hs rfl (by simp) rfl fun σ1 st1 r1 => ?_
    obtain ⟨p1, hp1, hg1⟩ := r1.ptr st1.sep (by simp)
    cases hp1
    refine ⟨_, rfl, s, hg1 0 _ rfl, ⟨trivial, by omega, by simp only [cutHi]; omega⟩, _, rfl, ?_⟩
    rw [Int.toNat_natCast]
    refine r1.st (i := 0) st1.sep rfl (by simp) rfl fun σ2 st2 r2 => ?_
    refine hQ σ2 (st1.trans st2) ⟨_, r2, ((b.drop hle.1).keep st1 (by simpa using fun h => h6 h.symm)).keep st2 (by simpa using fun h => h6 h.symm), by simp; omega⟩
  · rw [if_pos (by simpa using he)]
    rw [rnum_bad he] at hQ
    exact hQ σ (Step.refl hs) h
set_option maxRecDepth 100000 in
theorem rdBlob_ok {r A : Nat} {x : Rd} {Q : Sl → AH → Prop} (h : RdAt tag σ r A x) (h6 : r ≠ 6) (hs : SL.Sep ro σ)
    (hQ : ∀ s tag' σ', Step [r] ro tag σ tag' σ' → Row tag' σ' 6 5 s ((rblob x).1.map vU) → RdAt tag' σ' r A (rblob x).2 → Q s σ') : c_wire_Reader_Blob B ro (some ⟨A, 0, none⟩) σ Q := by
  refine wire_Reader_Blob_ok fun _ => ?_
  unfold f_wire_Reader_Blob
  obtain ⟨s, a, b, c⟩ := id h
  obtain ⟨p, hp, hg⟩ := a.ptr hs (by simp)
  cases hp
  refine ⟨_, rfl, s, hg 0 _ rfl, ?_⟩
  refine rdNum_ok h h6 hs fun σ1 st1 h1 => ?_
  have h61 : 6 ∉ [r] := by simpa using fun h => h6 h.symm
  obtain ⟨s1, a1, b1, c1⟩ := id h1
  obtain ⟨p1, hp1, hg1⟩ := a1.ptr st1.sep (by simp)
  cases hp1
  refine ⟨_, rfl, _, hg1 1 _ rfl, ?_⟩
  by_cases he : (rnum x).2.err = 0
  · rw [if_neg (by simpa using he)]
    refine ⟨_, rfl, s1, hg1 0 _ rfl, ?_⟩
    have hln1 := b1.len
    have hcp1 := b1.cap
    by_cases hlt : (rnum x).2.rest.length < (rnum x).1
    · rw [if_pos (by omega)]
      have hrb : rblob x = ([], ⟨x.rest, 12⟩) := by unfold rblob; rw [if_neg (by simpa using he), if_pos hlt]
      rw [hrb] at hQ
      refine ⟨_, rfl, ?_⟩
      refine a1.st (i := 1) st1.sep rfl (by simp) rfl fun σ2 st2 r2 => ?_
      refine ⟨_, rfl, ?_⟩
      refine r2.st (i := 0) st2.sep rfl (by simp) rfl fun σ3 st3 r3 => ?_
      exact hQ ⟨none, 0, 0⟩ tag σ3 (st1.trans (st2.trans st3)) (Row.nil 6 5) ⟨s, r3, ((b.keep st1 h61).keep st2 h61).keep st3 h61, c⟩
    · rw [if_neg (by omega)]
      have hrb : rblob x = ((rnum x).2.rest.take (rnum x).1, ⟨(rnum x).2.rest.drop (rnum x).1, 0⟩) := by unfold rblob; rw [if_neg (by simpa using he), if_neg hlt]
      rw [hrb] at hQ
      refine ⟨_, rfl, s1, hg1 0 _ rfl, ⟨⟨by omega, by omega⟩, trivial⟩, ?_⟩
      rw [Int.toNat_natCast]
      refine clone_ok (tag := tag) (b1.takeR st1.sep (by omega)) st1.sep (by simp; omega) (vU_st _) fun s2 tag2 σ2 st2 r2 => ?_
      have a2 := a1.keep (st2 []) (by simp)
      obtain ⟨p2, hp2, hg2⟩ := a2.ptr (st2 []).sep (by simp)
      cases hp2
      refine ⟨_, rfl, s1, hg2 0 _ rfl, ⟨trivial, by omega, by simp only [cutHi]; omega⟩, _, rfl, ?_⟩
      refine a2.st (i := 0) (st2 []).sep rfl (by simp) rfl fun σ3 st3 r3 => ?_
      rw [he] at r3
      refine hQ s2 tag2 σ3 (st1.trans ((st2 _).trans st3)) (r2.keep st3 h61) ⟨_, r3, ((b1.drop (by omega)).keep (st2 []) (by simp)).keep st3 h61, by simp; omega⟩
  · rw [if_pos (by simpa using he)]
    have hrb : rblob x = ([], (rnum x).2) := by unfold rblob; rw [if_pos (by simpa using he)]
    rw [hrb] at hQ
    exact hQ ⟨none, 0, 0⟩ tag σ1 st1 (Row.nil 6 5) h1
set_option maxRecDepth 100000 in
theorem rdText_ok {r A : Nat} {x : Rd} {Q : ByteArray → AH → Prop} (h : RdAt tag σ r A x) (h6 : r ≠ 6) (hs : SL.Sep ro σ)
    (hQ : ∀ tag' σ', Step [r] ro tag σ tag' σ' → RdAt tag' σ' r A (rblob x).2 → Q (S (rblob x).1) σ') : c_wire_Reader_Text B ro (some ⟨A, 0, none⟩) σ Q := by
  refine wire_Reader_Text_ok fun _ => ?_
  unfold f_wire_Reader_Text
  refine rdBlob_ok h h6 hs fun s tag1 σ1 st1 r1 h1 => ?_
  exact awp_b2s (r1.read st1.sep) ⟨_, rfl, hQ tag1 σ1 st1 h1⟩
end Go.Proofs.YthfpmipeejjogaaGreatDoor.Wi

/- A map that is ranged over while nothing is put into it. Generic over any program. -/
namespace Go.Proofs.YthfpmipeejjogaaGreatDoor.SL
open Go
set_option linter.unusedVariables false
set_option linter.unusedSimpArgs false
variable {P : Program} {B : World} {ro σ σ' : AH} {tag tag' : Nat → Nat}

theorem awp_choose2 {β : Type} {q : Question} {f : Nat → Sem β} {Q : β → AH → Prop} (h0 : q.forced = true → awp P ro (f 0) Q σ) (h1 : q.forced = false → ∀ n, awp P ro (f (q.cut n)) Q σ) : awp P ro (Sem.bind (choose q) f) Q σ := by
  show (if q.forced then awp P ro (f 0) Q σ else ∀ n, awp P ro (f (q.cut n)) Q σ)
  split
  · rename_i h; exact h0 h
  · rename_i h; exact h1 (by simpa using h)
theorem awp_range_map {t kt et : TypeId} {r M : Nat} {m : KV} {K : Value → AH → Prop} (ht : P.underlying t = some (.map kt et)) (hm : MapIs tag σ r M m) (hs : Sep ro σ)
    (hK : ∀ (es : Array MapEntry) (clock x : Nat), σ M = some (.map es clock) → es.toList.map entV = m.map pairV → Born es clock → ro x = none → σ x = none → K (.pointer (some ⟨x, 0, none⟩)) (upd σ x (.mapIter (some M) clock #[] clock))) :
    awp P ro (Instr.range t (.map (some M))) K σ := by
  obtain ⟨es, clock, hb, he, hbn⟩ := hm.obj
  unfold Instr.range
  simp only [bind_def]
  rw [awp_underlying ht]
  refine ⟨.map es clock, by unfold rd; rw [hs M _ hb]; exact hb, rfl, ?_⟩
  intro x hro hx
  exact hK es clock x hb he hbn hro hx
theorem awp_next_map {ty : TypeId} {x M clock : Nat} {seen : Array Nat} {es : Array MapEntry} {K : Value → AH → Prop} (hx : σ x = some (.mapIter (some M) clock seen clock)) (hm : σ M = some (.map es clock)) (hs : Sep ro σ) (hb : Born es clock)
    (hover : (∀ e ∈ es.toList, seen.contains e.born = true) → K (.tuple #[.bool false]) σ)
    (hstep : ∀ e ∈ es.toList, seen.contains e.born = false → K (.tuple #[.bool true, e.key, e.val]) (upd σ x (.mapIter (some M) clock (seen.push e.born) clock))) :
    awp P ro (Instr.next (.pointer (some ⟨x, 0, none⟩)) false ty) K σ := by
  unfold Instr.next
  refine ⟨.mapIter (some M) clock seen clock, by unfold rd; rw [hs x _ hx]; exact hx, rfl, ?_⟩
  refine ⟨.map es clock, by unfold rd; rw [hs M _ hm]; exact hm, rfl, ?_⟩
  have hall : (!seen.isEmpty && !es.isEmpty && es.all fun e => decide (e.born ≥ clock)) = false := by
    cases he : es.isEmpty with
    | true => simp
    | false =>
      have hne : 0 < es.size := by
        rcases Nat.eq_zero_or_pos es.size with h | h
        · have : es = #[] := Array.eq_empty_of_size_eq_zero h
          rw [this] at he; cases he
        · exact h
      have h0 := hb.lt es[0] (by simp)
      have : (es.all fun e => decide (e.born ≥ clock)) = false := by
        rw [← Bool.not_eq_true, Array.all_eq_true]
        intro h
        have := h 0 hne
        simp only [decide_eq_true_eq] at this
        omega
      rw [this]; simp
  show awp P ro (if _ then _ else _) K σ
  rw [if_neg (by rw [hall]; simp)]
  have hold : ((es.filter fun e => !seen.contains e.born).filter fun e => decide (e.born < clock)) = es.filter fun e => !seen.contains e.born := by
    rw [Array.filter_eq_self]
    intro e he
    have := hb.lt e (by have := (Array.mem_filter.1 he).1; simpa using this)
    simpa using this
  have hnew : ((es.filter fun e => !seen.contains e.born).filter fun e => decide (e.born ≥ clock)) = #[] := by
    rw [Array.filter_eq_empty_iff]
    intro e he
    have := hb.lt e (by have := (Array.mem_filter.1 he).1; simpa using this)
    simp; omega
  simp only [hold, hnew, Array.append_empty]
  generalize hleft : (es.filter fun e => !seen.contains e.born) = left
  have hmem : ∀ e, e ∈ left ↔ e ∈ es.toList ∧ seen.contains e.born = false := fun e => by
    rw [← hleft, Array.mem_filter]; simp
  by_cases hemp : left = #[]
  · subst hemp
    have e1 : ((if (#[] : Array MapEntry).isEmpty = true then (#[none] : Array (Option MapEntry)) else #[]) ++ (#[] : Array MapEntry).map some) = #[none] := by simp
    rw [e1]
    refine awp_choose2 (fun _ => ?_) (fun h => absurd h (by decide))
    show K (Value.tuple #[.bool false]) σ
    refine hover fun e he => ?_
    cases h : seen.contains e.born with
    | true => rfl
    | false => exact absurd ((hmem e).2 ⟨he, h⟩) (by simp)
  · have hsz : 0 < left.size := by
      rcases Nat.eq_zero_or_pos left.size with h | h
      · exact absurd (Array.eq_empty_of_size_eq_zero h) hemp
      · exact h
    have hie : left.isEmpty = false := by simp [Array.isEmpty]; omega
    rw [if_neg (by rw [hie]; simp)]
    have hcand : (#[] : Array (Option MapEntry)) ++ left.map some = left.map some := by simp
    rw [hcand]
    have step : ∀ i, i < left.size → awp P ro (match (left.map some)[i]? with
        | some (some e) => Sem.bind (setObj x (.mapIter (some M) clock (seen.push e.born) clock)) fun _ => Sem.pure (Value.tuple #[.bool true, e.key, e.val])
        | some none => Sem.pure (Value.tuple #[.bool false])
        | none => stuck "Next: no such candidate") K σ := fun i hi => by
      rw [Array.getElem?_map, Array.getElem?_eq_getElem hi]
      simp only [Option.map_some]
      have hin := (hmem left[i]).1 (Array.getElem_mem hi)
      exact ⟨.mapIter (some M) clock seen clock, hx, rfl, hstep left[i] hin.1 hin.2⟩
    refine awp_choose2 (fun _ => step 0 hsz) (fun _ n => step _ ?_)
    simp only [Question.cut, Array.size_map]
    exact Nat.mod_lt _ hsz
theorem awp_entry_map {x M clock : Nat} {seen : Array Nat} {es : Array MapEntry} {e : MapEntry} {K : Value → AH → Prop} (hx : σ x = some (.mapIter (some M) clock (seen.push e.born) clock)) (hm : σ M = some (.map es clock)) (hs : Sep ro σ) (hb : Born es clock) (he : e ∈ es.toList)
    (hK : K (.tuple #[e.key, e.val]) σ) : awp P ro (Instr.entry (.pointer (some ⟨x, 0, none⟩))) K σ := by
  have hfind : es.find? (·.born == e.born) = some e := by
    rw [← Array.find?_toList]
    have hnd := hb.nd
    have hin := he
    generalize es.toList = l at hnd hin
    induction l with
    | nil => cases hin
    | cons y l ih =>
      simp only [List.map_cons, List.nodup_cons] at hnd
      rw [List.find?_cons]
      rcases List.mem_cons.1 hin with h | h
      · rw [h]; simp
      · have hne : y.born ≠ e.born := fun hh => hnd.1 (List.mem_map.2 ⟨e, h, hh.symm⟩)
        rw [show (y.born == e.born) = false by simpa using hne]
        exact ih hnd.2 h
  unfold Instr.entry
  refine ⟨.mapIter (some M) clock (seen.push e.born) clock, by unfold rd; rw [hs x _ hx]; exact hx, rfl, ?_⟩
  simp only [bind_pure', Array.back?_push]
  refine ⟨.map es clock, by unfold rd; rw [hs M _ hm]; exact hm, rfl, ?_⟩
  show awp P ro (if _ then _ else _) K σ
  rw [if_neg (by simp)]
  show awp P ro (match es.find? (·.born == e.born) with | some e => _ | none => _) K σ
  rw [hfind]
  exact hK
theorem filter_le' {α : Type} {p q : α → Bool} (hpq : ∀ a, q a = true → p a = true) : ∀ (l : List α), (l.filter q).length ≤ (l.filter p).length := by
  intro l
  induction l with
  | nil => exact Nat.le_refl _
  | cons y l ih =>
    rw [List.filter_cons, List.filter_cons]
    split
    · rename_i h; rw [if_pos (hpq y h)]; simp only [List.length_cons]; omega
    · split
      · simp only [List.length_cons]; omega
      · exact ih
theorem filter_lt' {α : Type} {p q : α → Bool} (hpq : ∀ a, q a = true → p a = true) {e : α} (hp : p e = true) (hq : q e = false) : ∀ {l : List α}, e ∈ l → (l.filter q).length < (l.filter p).length := by
  intro l
  induction l with
  | nil => intro h; cases h
  | cons y l ih =>
    intro h
    rw [List.filter_cons, List.filter_cons]
    rcases List.mem_cons.1 h with h | h
    · rw [← h, hp, hq]
      have := filter_le' hpq l
      simp only [if_true, List.length_cons]
      simp; omega
    · have := ih h
      split
      · rename_i h1; rw [if_pos (hpq y h1)]; simp only [List.length_cons]; omega
      · split
        · simp only [List.length_cons]; omega
        · exact this
/-- how many entries are not met yet -/
def unmet (es : Array MapEntry) (seen : Array Nat) : Nat := (es.toList.filter fun e => !seen.contains e.born).length
theorem unmet_push {es : Array MapEntry} {seen : Array Nat} {e : MapEntry} (he : e ∈ es.toList) (hn : seen.contains e.born = false) : unmet es (seen.push e.born) < unmet es seen := by
  unfold unmet
  refine filter_lt' (fun a ha => ?_) (e := e) (by rw [hn]; rfl) (by rw [Array.contains_push]; simp) he
  rw [Array.contains_push] at ha
  cases h : seen.contains a.born with
  | true => rw [h] at ha; simp at ha
  | false => rfl
end Go.Proofs.YthfpmipeejjogaaGreatDoor.SL
