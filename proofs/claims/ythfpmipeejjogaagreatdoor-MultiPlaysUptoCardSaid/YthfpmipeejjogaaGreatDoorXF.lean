/- GZt, ZtA, ZtB, ZtC -/
import Derived.Test.YthfpmipeejjogaaGreatDoorXE
set_option maxRecDepth 100000
set_option maxHeartbeats 4000000
set_option linter.unusedVariables false
set_option linter.unusedSimpArgs false
open Go.IntKind (i64)
open Go.Proofs.Tryz
namespace Go.Proofs.YthfpmipeejjogaaGreatDoor
namespace G
open Go SL
variable {B : World} {ro σ : AH}
def f_ztree_Tree_Paths (B : World) (ro : AH) (a0 : Option Addr) (a1 : ByteArray) (σ : AH) (Q : Sl → Int → AH → Prop) : Prop :=
 nw ro σ (.cells #[.string a1] 9) fun u0 σ =>
 ∃ u1, acell ro σ ⟨u0, 0, none⟩ = some (.string u1) ∧
 c_path_Check B ro u1 σ fun u2 σ =>
 if ¬ (u2 = 0) then
 Q (⟨none, 0, 0⟩ : Sl) u2 σ
 else
 c_ztree_Tree_paths B ro a0 σ fun u3 σ =>
 c_slices_DeleteFunc_string_string B ro u3 (.func (.func 58) #[] #[.pointer (some ⟨u0, 0, none⟩)]) σ fun u4 σ =>
 Q u4 0 σ
theorem ztree_Tree_Paths_ok {a0 : Option Addr} {a1 : ByteArray} {Q : Sl → Int → AH → Prop} (h : Sep ro σ → f_ztree_Tree_Paths B ro a0 a1 σ Q) : c_ztree_Tree_Paths B ro a0 a1 σ Q := by
 refine zb h func15 ntmps15 fun h => ?_; unfold f_ztree_Tree_Paths at h; refine z3 ?_; refine zA (A_box rfl rfl) h fun u0 h => ?_; iterate 2 refine zp ?_
 refine z2 (AW.seq (z3 ?_))
 refine zL underlying9 h fun u1 h => ?_; refine zc func55 h ?_; rintro v σ ⟨u2, rfl, h⟩; refine zp ?_; refine z4 ?_; iterate 2 refine zp ?_
 refine z2 ?_; refine AW.iff rfl (bnot_iff decide_eq_true_iff) h (fun h => ?_) (fun h => ?_)
 ·refine z3 ?_; iterate 3 refine zp ?_
  refine z2 ?_; refine AW.ret ?_; refine thenR ?_; exact bR2 results15 rfl rfl ⟨_, _, rfl, h⟩
 refine AW.skip ?_; refine thenN (z3 ?_); refine zp ?_; refine zc func57 h ?_; rintro v σ ⟨u3, rfl, h⟩; refine zm (V_mkf rfl rfl rfl) ?_; refine zc func56 h ?_; rintro v σ ⟨u4, rfl, h⟩; iterate 2 refine zp ?_
 refine z2 ?_; refine AW.ret ?_; exact bR2 results15 rfl rfl ⟨_, _, rfl, h⟩
def f_ztree_Tree_Size (B : World) (ro : AH) (a0 : Option Addr) (σ : AH) (Q : Int → AH → Prop) : Prop :=
 ∃ p0, a0 = some p0 ∧
 ∃ u1, acell ro σ p0 = some (.map u1) ∧
 awp prog ro (Builtin.len_ #[126] 3 #[.map u1]) (fun v σ => ∃ (u2 : Int), v = .int .i64 u2 ∧
 Q u2 σ) σ
theorem ztree_Tree_Size_ok {a0 : Option Addr} {Q : Int → AH → Prop} (h : Sep ro σ → f_ztree_Tree_Size B ro a0 σ Q) : c_ztree_Tree_Size B ro a0 σ Q := by
 refine zb h func16 ntmps16 fun h => ?_; unfold f_ztree_Tree_Size at h; refine z3 ?_; refine zp ?_; refine z4 ?_; refine zp ?_; refine zN h fun p0 h => ?_; refine zf underlying128 ty126 ?_; refine zL underlying126 h fun u1 h => ?_; refine zl (X_bi (s := Builtin.len_ #[126] 3 #[.map u1]) rfl rfl (fun _ => rfl) (awp_mono _ h ?_))
 rintro v σ ⟨u2, rfl, h⟩; refine zp ?_; refine z2 ?_; refine AW.ret ?_; exact bR1 results16 rfl ⟨_, rfl, h⟩
def f_ztree_Tree_Get (B : World) (ro : AH) (a0 : Option Addr) (a1 : ByteArray) (σ : AH) (Q : Sl → Int → Int → Int → Int → Int → AH → Prop) : Prop :=
 nw ro σ (.cells #[.int .i64 0, .int .i64 0, .int .i64 0, .int .i64 0] 32) fun u0 σ =>
 c_ztree_Tree_find B ro a0 a1 σ fun u1 u2 σ =>
 if ¬ (u2 = 0) then
 stN ⟨u0, 0, none⟩ (fun σ =>
  ∃ u3 u4 u5 u6, cellsAt ro σ ⟨u0, 0, none⟩ 0 [.int .i64 u3, .int .i64 u4, .int .i64 u5, .int .i64 u6] ∧
  Q (⟨none, 0, 0⟩ : Sl) u3 u4 u5 u6 u2 σ) [.int .i64 0, .int .i64 0, .int .i64 0, .int .i64 0] 0 σ
 else
 lent σ fun ψ σ =>
 ∃ p7, u1 = some p7 ∧
 ∃ p8, u1 = some p8 ∧
 ∃ u9 u10 u11 u12, cellsAt (join ro ψ) (fun _ => none) p8 0 [.int .i64 u9, .int .i64 u10, .int .i64 u11, .int .i64 u12] ∧
 ∃ u13, acell (join ro ψ) σ (p7.add 4) = some (Sl.v u13) ∧
 c_bytes_Clone B (join ro ψ) u13 σ fun u14 σ =>
 stN ⟨u0, 0, none⟩ (fun σ =>
  (Disj ψ σ → (fun σ => 
  ∃ u15 u16 u17 u18, cellsAt ro σ ⟨u0, 0, none⟩ 0 [.int .i64 u15, .int .i64 u16, .int .i64 u17, .int .i64 u18] ∧
  Q u14 u15 u16 u17 u18 0 σ) (join ψ σ))) [.int .i64 u9, .int .i64 u10, .int .i64 u11, .int .i64 u12] 0 σ
theorem ztree_Tree_Get_ok {a0 : Option Addr} {a1 : ByteArray} {Q : Sl → Int → Int → Int → Int → Int → AH → Prop} (h : Sep ro σ → f_ztree_Tree_Get B ro a0 a1 σ Q) : c_ztree_Tree_Get B ro a0 a1 σ Q := by
 refine zb h func17 ntmps17 fun h => ?_; unfold f_ztree_Tree_Get at h; refine z3 ?_; refine zp ?_; refine zA (A_alloc rfl ty32) h fun u0 h => ?_; refine zp ?_; refine z4 ?_; iterate 2 refine zp ?_
 refine zc func60 h ?_; rintro v σ ⟨u1, u2, rfl, h⟩; iterate 5 refine zp ?_
 refine z2 (AW.seq (z3 ?_))
 iterate 2 refine zp ?_
 refine z2 ?_; refine AW.iff rfl (bnot_iff decide_eq_true_iff) h (fun h => ?_) (fun h => ?_)
 ·refine z3 ?_; refine zm (V_bld (vs := []) (cs := #[.int .i64 0, .int .i64 0, .int .i64 0, .int .i64 0]) rfl underlying32 ty32 pl32 rfl rfl) ?_; iterate 2 refine zp ?_
  refine zs ty32 h fun σ h => ?_; refine zp ?_; refine z2 ?_; refine AW.ret ?_; refine thenR ?_; obtain ⟨u3, u4, u5, u6, hc1, h⟩ := h
  exact bRM results17 (rCons (rTmp rfl) (rCons (rAgg rfl underlying32 rfl ty32 hc1) (rCons (rTmp rfl) rNil))) ⟨_, _, _, _, _, _, rfl, h⟩
 refine AW.skip ?_; refine thenN (AW.seq ?_); refine AW.drawnL (fun i => ([0, 0, 0, 3, 2, 0, 0, 0, 0, 0, 2, 0] : List Nat).getD i 2) [] [0, 1, 2, 5, 6, 7, 8, 3, 4, 9, 10, 11] mixed h (by decide +kernel) ?_
 clear h
 intro ψ σ h
 refine zq ?_; obtain ⟨p7, hc, h⟩ := h
 refine Dp rfl rfl rfl rfl (V_nil rfl (by rw [← hc]; rfl)) ?_
 refine zg underlying133 ty30 ?_; refine zq ?_; obtain ⟨p8, hc, h⟩ := h
 refine Dp rfl rfl rfl rfl (V_nil rfl (by rw [← hc]; rfl)) ?_
 refine zg underlying133 ty32 ?_; obtain ⟨u9, u10, u11, u12, hc, h⟩ := h
 refine Dp rfl rfl rfl rfl (V_lda rfl underlying32 rfl ty32 rfl hc) ?_
 obtain ⟨u13, hc, h⟩ := h
 refine Dr rfl rfl rfl rfl (R_ld rfl underlying30 rfl rfl hc) ?_
 refine Dg rfl rfl rfl rfl (X_call rfl func61 rfl rfl rfl (ACalls.mono h ?_))
 rintro v σ ⟨u14, rfl, h⟩; refine zq ?_; refine Dg rfl rfl rfl rfl (X_st rfl ty32 rfl rfl rfl rfl (stN_mono h fun σ h => ?_))
 refine zq ?_; refine ⟨_, FrEq.refl _, fun hdj => ?_⟩
 replace h := h hdj
 refine thenN ?_; refine AW.ret ?_; obtain ⟨u15, u16, u17, u18, hc1, h⟩ := h
 exact bRM results17 (rCons (rTmp rfl) (rCons (rAgg rfl underlying32 rfl ty32 hc1) (rCons (rTmp rfl) rNil))) ⟨_, _, _, _, _, _, rfl, h⟩
def j2_ztree_Tree_Encode (B : World) (ro : AH) (u0 : Option Addr) (Q : Sl → AH → Prop) (σ : AH) : Prop :=
 c_wire_Writer_Out B ro u0 σ fun u1 u2 σ =>
 Q u1 σ
def l6_ztree_Tree_Encode (B : World) (ro : AH) (a0 : Option Addr) (u0 : Option Addr) (u1 : Sl) (Q : Sl → AH → Prop) : (Int) → AH → ((Int) → AH → Prop) → Prop := fun u2 σ Y6 =>
 if u2 < (u1.len : Int) then
 ∃ p3, u1.a = some p3 ∧ (0 : Int) ≤ u2 ∧ u2 < (u1.len : Int) ∧
 ∃ u4, acell ro σ (p3.add (Int.toNat u2 * 1)) = some (.string u4) ∧
 ∃ p5, a0 = some p5 ∧
 ∃ u6, acell ro σ p5 = some (.map u6) ∧
 awp prog ro (Instr.lookup 126 (.map u6) (.string u4) false) (fun v σ =>
  (∃ (u7 : Option Addr), v = .pointer u7 ∧
  nw ro σ (.cells #[.string u4] 9) fun u8 σ =>
  c_wire_Writer_Texts B ro u0 (⟨some ⟨u8, 0, none⟩, 1, 1⟩ : Sl) σ fun σ =>
  ∃ p9, u7 = some p9 ∧
  ∃ u10, acell ro σ (p9.add 4) = some (Sl.v u10) ∧
  nw ro σ (.cells #[Sl.v u10] 30) fun u11 σ =>
  c_wire_Writer_Blobs B ro u0 (⟨some ⟨u11, 0, none⟩, 1, 1⟩ : Sl) σ fun σ =>
  ∃ p12, u7 = some p12 ∧
  ∃ p13, u7 = some p13 ∧
  ∃ p14, u7 = some p14 ∧
  ∃ u15, acell ro σ p12 = some (.int .i64 u15) ∧
  ∃ u16, acell ro σ (p13.add 1) = some (.int .i64 u16) ∧
  ∃ u17, acell ro σ (p14.add 2) = some (.int .i64 u17) ∧
  nw ro σ (.cells #[.int .i64 u15, .int .i64 u16, .int .i64 u17] 3) fun u18 σ =>
  c_wire_Writer_Nums B ro u0 (⟨some ⟨u18, 0, none⟩, 3, 3⟩ : Sl) σ fun σ =>
  Y6 (i64.wrap (u2 + 1)) σ)) σ
 else
 j2_ztree_Tree_Encode B ro u0 Q σ
def f_ztree_Tree_Encode (B : World) (ro : AH) (a0 : Option Addr) (σ : AH) (Q : Sl → AH → Prop) : Prop :=
 c_wire_NewWriter B ro σ fun u0 σ =>
 c_ztree_Tree_paths B ro a0 σ fun u1 σ =>
 lfpD (l6_ztree_Tree_Encode B ro a0 u0 u1 Q ) (0) σ
theorem ztree_Tree_Encode_ok {a0 : Option Addr} {Q : Sl → AH → Prop} (h : Sep ro σ → f_ztree_Tree_Encode B ro a0 σ Q) : c_ztree_Tree_Encode B ro a0 σ Q := by
 refine zb h func21 ntmps21 fun h => ?_; unfold f_ztree_Tree_Encode at h; refine z3 ?_; refine zp ?_; refine z4 ?_; refine zc func66 h ?_; rintro v σ ⟨u0, rfl, h⟩; refine zp ?_; refine z2 ?_; refine AW.seqJ (fun fr σ => FrLe [(3, .pointer u0)] fr ∧ j2_ztree_Tree_Encode B ro u0 Q σ) ?_ ?_
 ·rintro fr σ ⟨hl, h⟩; refine AW.weaken ?_ hl (HLe.refl _)
  unfold j2_ztree_Tree_Encode at h; refine z3 ?_; refine zp ?_; refine zc func70 h ?_; rintro v σ ⟨u1, u2, rfl, h⟩; iterate 5 refine zp ?_
  refine z4 ?_; iterate 2 refine zp ?_
  refine z2 ?_; refine AW.ret ?_; exact bR1 results21 rfl ⟨_, rfl, h⟩
 refine z3 ?_; refine zp ?_; refine zc func57 h ?_; rintro v σ ⟨u3, rfl, h⟩; refine zm (V_lenL rfl rfl underlying25 rfl rfl) ?_; refine zp ?_; refine z2 (AW.block ?_)
 refine ARound.loop (fr' := [(0, .pointer a0), (3, .pointer u0), (11, Sl.v u3), (12, .int .i64 (u3.len : Int)), (13, .int .i64 0)]) ?_ FL
 refine h (fun u4 σ => ARound _ _ _ _ _ _ [(0, .pointer a0), (3, .pointer u0), (11, Sl.v u3), (12, .int .i64 (u3.len : Int)), (13, .int .i64 u4)] σ) ?_
 rintro u4 σ Y6 hY6 h
 show AW _ _ _ _ _ _ _ _
 unfold l6_ztree_Tree_Encode at h; refine z3 ?_; refine zp ?_; refine z2 (AW.seq ?_)
 refine zi h (fun h => ?_) fun h => ?_
 rotate_left
 ·refine AW.exit ?_; refine thenE (thenE ?_); refine blockE ?_
  refine thenN ?_; exact ⟨FL, h⟩
 refine AW.skip ?_; refine thenN (AW.seq (AW.block (z3 ?_))); obtain ⟨p5, ha, h0, h1, h⟩ := h
 refine zm (V_ixA rfl underlying25 ty9 (ixL rfl ha) rfl h0 h1) ?_; refine zL underlying9 h fun u6 h => ?_; refine zp ?_; refine z4 ?_; refine zp ?_; refine zN h fun p7 h => ?_; refine zf underlying128 ty126 ?_; refine zL underlying126 h fun u8 h => ?_; refine zp ?_; refine zl (X_lkp rfl rfl rfl (awp_mono _ h ?_))
 rintro v σ ⟨u9, rfl, h⟩; refine zp ?_; refine z4 ?_; iterate 2 refine zp ?_
 refine zA (A_bsl (vs := [(0, .string u6)]) (cs := #[.string u6]) rfl underlying25 ty9 (by decide) rfl rfl) h fun u10 h => ?_; refine zc func67 h ?_; rintro v σ ⟨rfl, h⟩; refine z4 ?_; iterate 2 refine zp ?_
 refine zN h fun p11 h => ?_; refine zf underlying133 ty30 ?_; refine zL underlying30 h fun u12 h => ?_; refine zA (A_bsl (vs := [(0, Sl.v u12)]) (cs := #[Sl.v u12]) rfl underlying208 ty30 (by decide) rfl rfl) h fun u13 h => ?_; refine zc func68 h ?_; rintro v σ ⟨rfl, h⟩; refine z2 ?_; refine AW.drawn0 (fun i => ([0, 0, 0, 0, 0, 3, 0, 0, 0, 0, 3, 0, 0, 0, 0, 3, 1, 2] : List Nat).getD i 2) [(5, 16), (5, 17), (10, 16), (10, 17), (15, 16), (15, 17)] [0, 1, 2, 3, 4, 6, 7, 8, 9, 11, 12, 13, 14, 5, 10, 15, 16, 17] mixed (by decide +kernel) ?_
 iterate 2 refine zq ?_
 obtain ⟨p14, hc, h⟩ := h
 refine Dp rfl rfl rfl rfl (V_nil rfl (by rw [← hc]; rfl)) ?_
 refine zg underlying133 ty32 ?_; refine zg underlying32 ty3 ?_; refine zq ?_; obtain ⟨p15, hc, h⟩ := h
 refine Dp rfl rfl rfl rfl (V_nil rfl (by rw [← hc]; rfl)) ?_
 refine zg underlying133 ty32 ?_; refine zg underlying32 ty3 ?_; refine zq ?_; obtain ⟨p16, hc, h⟩ := h
 refine Dp rfl rfl rfl rfl (V_nil rfl (by rw [← hc]; rfl)) ?_
 refine zg underlying133 ty32 ?_; refine zg underlying32 ty3 ?_; obtain ⟨u17, hc, h⟩ := h
 refine Dr rfl rfl rfl rfl (R_ld rfl underlying3 rfl rfl hc) ?_
 obtain ⟨u18, hc, h⟩ := h
 refine Dr rfl rfl rfl rfl (R_ld rfl underlying3 rfl rfl hc) ?_
 obtain ⟨u19, hc, h⟩ := h
 refine Dr rfl rfl rfl rfl (R_ld rfl underlying3 rfl rfl hc) ?_
 refine Da rfl rfl rfl rfl (A_bsl (vs := [(0, .int .i64 u17), (1, .int .i64 u18), (2, .int .i64 u19)]) (cs := #[.int .i64 u17, .int .i64 u18, .int .i64 u19]) rfl underlying58 ty3 (by decide) rfl rfl) fun u20 g1 g2 => ?_
 replace h := h u20 g1 g2
 refine Dg rfl rfl rfl rfl (X_call rfl func69 rfl rfl rfl (ACalls.mono h ?_))
 rintro v σ ⟨rfl, h⟩; refine Dend ?_
 refine blockN (thenN (AW.reg ?_)); iterate 2 refine zp ?_
 refine z2 ?_; refine ARound.head (fr' := [(0, .pointer a0), (3, .pointer u0), (11, Sl.v u3), (12, .int .i64 (u3.len : Int)), (13, .int .i64 (i64.wrap (u4 + 1)))]) ?_ FL
 exact hY6 _ _ h
def j10_ztree_Tree_Create (B : World) (ro : AH) (a0 : Option Addr) (a2 : Sl) (a3 : Int) (u0 : Option Addr) (Q : ByteArray → Int → AH → Prop) (u1 : ByteArray) (σ : AH) : Prop :=
 ∃ p2, a0 = some p2 ∧
 ∃ u3, acell ro σ p2 = some (.map u3) ∧
 awp prog ro (Instr.lookup 126 (.map u3) (.string u1) false) (fun v σ =>
 (∃ (u4 : Option Addr), v = .pointer u4 ∧
  if ¬ (u4 = none) then
  Q (⟨#[]⟩ : ByteArray) 71 σ
  else
  lent σ fun ψ σ =>
  ∃ p5, a0 = some p5 ∧
  ∃ u6, acell (join ro ψ) (fun _ => none) p5 = some (.map u6) ∧
  c_bytes_Clone B (join ro ψ) a2 σ fun u7 σ =>
  nw (join ro ψ) σ (.cells #[.int .i64 0, .int .i64 0, .int .i64 a3, .int .i64 0, Sl.v u7] 133) fun u8 σ =>
  awp prog (join ro ψ) (Instr.mapUpdate 126 (.map u6) (.string u1) (.pointer (some ⟨u8, 0, none⟩))) (fun _ σ =>
   (Disj ψ σ → (fun σ => 
   ∃ p9, u0 = some p9 ∧
   ∃ u10, acell ro σ (p9.add 1) = some (.int .i64 u10) ∧
   ∃ p11, u0 = some p11 ∧
   stN (p11.add 1) (fun σ =>
    ∃ p12, u0 = some p12 ∧
    ∃ u13, acell ro σ (p12.add 3) = some (.int .i64 u13) ∧
    ∃ p14, u0 = some p14 ∧
    stN (p14.add 3) (fun σ =>
    Q u1 0 σ) [.int .i64 (i64.wrap (u13 + 1))] 0 σ) [.int .i64 (i64.wrap (u10 + 1))] 0 σ) (join ψ σ))) σ)) σ
def f_ztree_Tree_Create (B : World) (ro : AH) (a0 : Option Addr) (a1 : ByteArray) (a2 : Sl) (a3 : Int) (a4 : Bool) (σ : AH) (Q : ByteArray → Int → AH → Prop) : Prop :=
 c_path_Parent B ro a1 σ fun u0 u1 σ =>
 if ¬ (u1 = 0) then
 Q (⟨#[]⟩ : ByteArray) u1 σ
 else
 if 256 < (a2.len : Int) then
 Q (⟨#[]⟩ : ByteArray) 75 σ
 else
 if (a3 < 0) ∨ (4611686018427387903 < a3) then
 Q (⟨#[]⟩ : ByteArray) 10 σ
 else
 ∃ p2, a0 = some p2 ∧
 ∃ u3, acell ro σ p2 = some (.map u3) ∧
 awp prog ro (Instr.lookup 126 (.map u3) (.string u0) false) (fun v σ =>
 (∃ (u4 : Option Addr), v = .pointer u4 ∧
  if u4 = none then
  Q (⟨#[]⟩ : ByteArray) 70 σ
  else
  ∃ p5, u4 = some p5 ∧
  ∃ u6, acell ro σ (p5.add 2) = some (.int .i64 u6) ∧
  if ¬ (u6 = 0) then
  Q (⟨#[]⟩ : ByteArray) 74 σ
  else
  ∃ p7, u4 = some p7 ∧
  ∃ u8, acell ro σ (p7.add 1) = some (.int .i64 u8) ∧
  if 9999999999 < u8 then
  Q (⟨#[]⟩ : ByteArray) 76 σ
  else
  if a4 = true then
  ∃ p9, u4 = some p9 ∧
  ∃ u10, acell ro σ (p9.add 1) = some (.int .i64 u10) ∧
  c_path_Suffix B ro a1 u10 σ fun u11 u12 σ =>
  if ¬ (u12 = 0) then
   Q (⟨#[]⟩ : ByteArray) u12 σ
  else
  j10_ztree_Tree_Create B ro a0 a2 a3 u4 Q u11 σ
  else
  j10_ztree_Tree_Create B ro a0 a2 a3 u4 Q a1 σ)) σ
theorem ztree_Tree_Create_ok {a0 : Option Addr} {a1 : ByteArray} {a2 : Sl} {a3 : Int} {a4 : Bool} {Q : ByteArray → Int → AH → Prop} (h : Sep ro σ → f_ztree_Tree_Create B ro a0 a1 a2 a3 a4 σ Q) : c_ztree_Tree_Create B ro a0 a1 a2 a3 a4 σ Q := by
 refine zb h func22 ntmps22 fun h => ?_; unfold f_ztree_Tree_Create at h; refine z3 ?_; iterate 2 refine zp ?_
 refine z4 ?_; refine zp ?_; refine zc func62 h ?_; rintro v σ ⟨u0, u1, rfl, h⟩; iterate 5 refine zp ?_
 refine z2 (AW.seq (AW.block (z3 ?_)))
 iterate 3 refine zp ?_
 refine z2 ?_; refine AW.iff rfl (bnot_iff decide_eq_true_iff) h (fun h => ?_) (fun h => ?_)
 ·refine z3 ?_; iterate 3 refine zp ?_
  refine z2 ?_; refine AW.ret ?_; refine blockR (thenR ?_); exact bR2 results22 rfl rfl ⟨_, _, rfl, h⟩
 refine z3 ?_; refine zp ?_; refine zm (V_lenL rfl rfl underlying30 rfl rfl) ?_; iterate 2 refine zp ?_
 refine z2 ?_; refine zi h (fun h => ?_) fun h => ?_
 ·refine z3 ?_; iterate 2 refine zp ?_
  refine z2 ?_; refine AW.ret ?_; refine blockR (thenR ?_); exact bR2 results22 rfl rfl ⟨_, _, rfl, h⟩
 refine z3 ?_; iterate 3 refine zp ?_
 refine Lsplit 3 (decide (a3 < 0)) [(0, .pointer a0), (1, .string a1), (2, Sl.v a2), (3, .int .i64 a3), (4, .bool a4), (12, .string u0), (34, .bool ((decide (a3 < 0)) || (decide (4611686018427387903 < a3))))] ?_ ?_ ?_
 ·intro e2 hk2
  iterate 2 refine zn e2 ?_
  refine zk e2 ?_; exact hk2 _ (Fe e2)
 ·intro e2 hk2
  refine zy e2 ?_; refine zy e2 ?_; refine zk e2 ?_; exact hk2 _ (Fe e2)
 intro fr hl
 refine Lfr hl ?_
 refine zp ?_; refine z2 ?_; refine AW.iff rfl (bor_iff decide_eq_true_iff decide_eq_true_iff) h (fun h => ?_) (fun h => ?_)
 ·refine z3 ?_; iterate 2 refine zp ?_
  refine z2 ?_; refine AW.ret ?_; refine blockR (thenR ?_); exact bR2 results22 rfl rfl ⟨_, _, rfl, h⟩
 refine AW.skip ?_; refine blockN (thenN (z3 ?_)); refine zp ?_; refine zN h fun p2 h => ?_; refine zf underlying128 ty126 ?_; refine zL underlying126 h fun u3 h => ?_; refine zp ?_; refine zl (X_lkp rfl rfl rfl (awp_mono _ h ?_))
 rintro v σ ⟨u4, rfl, h⟩; refine zp ?_; refine z2 (AW.seq (AW.block (z3 ?_)))
 refine zp ?_; refine zm (V_eqP rfl underlying129 rfl rfl) ?_; refine zp ?_; refine z2 ?_; refine AW.iff rfl isNone_iff h (fun h => ?_) (fun h => ?_)
 ·refine z3 ?_; iterate 2 refine zp ?_
  refine z2 ?_; refine AW.ret ?_; refine blockR (thenR ?_); exact bR2 results22 rfl rfl ⟨_, _, rfl, h⟩
 refine z3 ?_; refine zp ?_; refine zN h fun p5 h => ?_; refine zf underlying133 ty32 ?_; refine zf underlying32 ty3 ?_; refine zL underlying3 h fun u6 h => ?_; iterate 2 refine zp ?_
 refine z2 ?_; refine AW.iff rfl (bnot_iff decide_eq_true_iff) h (fun h => ?_) (fun h => ?_)
 ·refine z3 ?_; iterate 2 refine zp ?_
  refine z2 ?_; refine AW.ret ?_; refine blockR (thenR ?_); exact bR2 results22 rfl rfl ⟨_, _, rfl, h⟩
 refine z3 ?_; refine zp ?_; refine zN h fun p7 h => ?_; refine zf underlying133 ty32 ?_; refine zf underlying32 ty3 ?_; refine zL underlying3 h fun u8 h => ?_; iterate 2 refine zp ?_
 refine z2 ?_; refine zi h (fun h => ?_) fun h => ?_
 ·refine z3 ?_; iterate 2 refine zp ?_
  refine z2 ?_; refine AW.ret ?_; refine blockR (thenR ?_); exact bR2 results22 rfl rfl ⟨_, _, rfl, h⟩
 refine AW.skip ?_; refine blockN (thenN ?_); refine AW.seqJ (fun fr σ => ∃ (u9 : ByteArray), FrLe [(0, .pointer a0), (2, Sl.v a2), (3, .int .i64 a3), (14, .pointer u4), (1, .string u9)] fr ∧ j10_ztree_Tree_Create B ro a0 a2 a3 u4 Q u9 σ) ?_ ?_
 rotate_left
 ·refine z3 ?_; refine zp ?_; refine z2 ?_; refine zj h (fun h => ?_) fun h => ?_
  rotate_left
  ·refine AW.skip ?_; refine thenN ?_; exact ⟨_, FL, h⟩
  refine z3 ?_; iterate 2 refine zp ?_
  refine zN h fun p10 h => ?_; refine zf underlying133 ty32 ?_; refine zf underlying32 ty3 ?_; refine zL underlying3 h fun u11 h => ?_; refine zc func71 h ?_; rintro v σ ⟨u12, u13, rfl, h⟩; iterate 5 refine zp ?_
  refine z4 ?_; iterate 2 refine zp ?_
  refine z2 ?_; refine AW.iff rfl (bnot_iff decide_eq_true_iff) h (fun h => ?_) (fun h => ?_)
  rotate_left
  ·refine AW.skip ?_; refine thenN ?_; exact ⟨_, FL, h⟩
  refine z3 ?_; iterate 3 refine zp ?_
  refine z2 ?_; refine AW.ret ?_; refine thenR ?_; exact bR2 results22 rfl rfl ⟨_, _, rfl, h⟩
 rintro fr σ ⟨u9, hl, h⟩; refine AW.weaken ?_ hl (HLe.refl _)
 unfold j10_ztree_Tree_Create at h; refine AW.seq (z3 ?_); refine zp ?_; refine zN h fun p14 h => ?_; refine zf underlying128 ty126 ?_; refine zL underlying126 h fun u15 h => ?_; refine zp ?_; refine zl (X_lkp rfl rfl rfl (awp_mono _ h ?_))
 rintro v σ ⟨u16, rfl, h⟩; refine zm (V_neP rfl underlying129 rfl rfl) ?_; refine z2 ?_; refine AW.iff rfl (bnot_iff isNone_iff) h (fun h => ?_) (fun h => ?_)
 ·refine z3 ?_; iterate 2 refine zp ?_
  refine z2 ?_; refine AW.ret ?_; refine thenR ?_; exact bR2 results22 rfl rfl ⟨_, _, rfl, h⟩
 refine AW.skip ?_; refine thenN (AW.seq ?_); refine AW.drawnL (fun i => ([0, 0, 0, 0, 0, 0, 0, 0, 2, 0, 1, 2] : List Nat).getD i 2) [] [0, 1, 2, 3, 4, 5, 6, 7, 8, 9, 10, 11] mixed h (by decide +kernel) ?_
 clear h
 intro ψ σ h
 refine zq ?_; obtain ⟨p17, hc, h⟩ := h
 refine Dp rfl rfl rfl rfl (V_nil rfl (by rw [← hc]; rfl)) ?_
 refine zg underlying128 ty126 ?_; obtain ⟨u18, hc, h⟩ := h
 refine Dp rfl rfl rfl rfl (V_ld rfl underlying126 rfl rfl hc) ?_
 iterate 2 refine zq ?_
 refine Dp rfl rfl rfl rfl (V_bld (vs := [(2, .int .i64 a3)]) (cs := #[.int .i64 0, .int .i64 0, .int .i64 a3, .int .i64 0]) rfl underlying32 ty32 pl32 rfl rfl) ?_
 refine zq ?_; refine Dg rfl rfl rfl rfl (X_call rfl func61 rfl rfl rfl (ACalls.mono h ?_))
 rintro v σ ⟨u19, rfl, h⟩; refine Dp rfl rfl rfl rfl (V_bld (vs := [(0, .agg #[.int .i64 0, .int .i64 0, .int .i64 a3, .int .i64 0]), (1, Sl.v u19)]) (cs := #[.int .i64 0, .int .i64 0, .int .i64 a3, .int .i64 0, Sl.v u19]) rfl underlying133 ty133 pl133 rfl rfl) ?_
 refine Da rfl rfl rfl rfl (A_box rfl rfl) fun u20 g1 g2 => ?_
 replace h := h u20 g1 g2
 refine Dg rfl rfl rfl rfl (X_mup (.inl rfl) rfl rfl rfl (awp_mono _ h ?_))
 rintro _ σ h
 refine ⟨_, FrEq.refl _, fun hdj => ?_⟩
 replace h := h hdj
 refine thenN (z3 ?_); refine zp ?_; refine zN h fun p21 h => ?_; refine zf underlying133 ty32 ?_; refine zf underlying32 ty3 ?_; refine zL underlying3 h fun u22 h => ?_; refine zp ?_; refine zN h fun p23 h => ?_; refine zf underlying133 ty32 ?_; refine zf underlying32 ty3 ?_; refine zs ty3 h fun σ h => ?_; refine z4 ?_; refine zp ?_; refine zN h fun p24 h => ?_; refine zf underlying133 ty32 ?_; refine zf underlying32 ty3 ?_
 refine zL underlying3 h fun u25 h => ?_; refine zp ?_; refine zN h fun p26 h => ?_; refine zf underlying133 ty32 ?_; refine zf underlying32 ty3 ?_; refine zs ty3 h fun σ h => ?_; refine z4 ?_; iterate 3 refine zp ?_
 refine z2 ?_; refine AW.ret ?_; exact bR2 results22 rfl rfl ⟨_, _, rfl, h⟩
def f_ztree_Tree_Delete (B : World) (ro : AH) (a0 : Option Addr) (a1 : ByteArray) (a2 : Int) (σ : AH) (Q : Int → AH → Prop) : Prop :=
 c_ztree_Tree_check B ro a0 a1 a2 σ fun u0 u1 σ =>
 if ¬ (u1 = 0) then
 Q u1 σ
 else
 ∃ p2, u0 = some p2 ∧
 ∃ u3, acell ro σ (p2.add 3) = some (.int .i64 u3) ∧
 if 0 < u3 then
 Q 73 σ
 else
 c_path_Parent B ro a1 σ fun u4 u5 σ =>
 ∃ p6, a0 = some p6 ∧
 ∃ u7, acell ro σ p6 = some (.map u7) ∧
 awp prog ro (Instr.lookup 126 (.map u7) (.string u4) false) (fun v σ =>
 (∃ (u8 : Option Addr), v = .pointer u8 ∧
  ∃ p9, u8 = some p9 ∧
  ∃ u10, acell ro σ (p9.add 3) = some (.int .i64 u10) ∧
  ∃ p11, u8 = some p11 ∧
  stN (p11.add 3) (fun σ =>
  ∃ p12, a0 = some p12 ∧
  ∃ u13, acell ro σ p12 = some (.map u13) ∧
  awp prog ro (Builtin.delete_ #[126, 9] 0 #[.map u13, .string a1]) (fun v σ => v = .tuple #[] ∧
   Q 0 σ) σ) [.int .i64 (i64.wrap (u10 - 1))] 0 σ)) σ
theorem ztree_Tree_Delete_ok {a0 : Option Addr} {a1 : ByteArray} {a2 : Int} {Q : Int → AH → Prop} (h : Sep ro σ → f_ztree_Tree_Delete B ro a0 a1 a2 σ Q) : c_ztree_Tree_Delete B ro a0 a1 a2 σ Q := by
 refine zb h func24 ntmps24 fun h => ?_; unfold f_ztree_Tree_Delete at h; refine z3 ?_; refine zp ?_; refine z4 ?_; iterate 3 refine zp ?_
 refine zc func73 h ?_; rintro v σ ⟨u0, u1, rfl, h⟩; iterate 5 refine zp ?_
 refine z2 (AW.seq (AW.block (z3 ?_)))
 iterate 3 refine zp ?_
 refine z2 ?_; refine AW.iff rfl (bnot_iff decide_eq_true_iff) h (fun h => ?_) (fun h => ?_)
 ·refine z3 ?_; iterate 2 refine zp ?_
  refine z2 ?_; refine AW.ret ?_; refine blockR (thenR ?_); exact bR1 results24 rfl ⟨_, rfl, h⟩
 refine z3 ?_; refine zp ?_; refine zN h fun p2 h => ?_; refine zf underlying133 ty32 ?_; refine zf underlying32 ty3 ?_; refine zL underlying3 h fun u3 h => ?_; iterate 2 refine zp ?_
 refine z2 ?_; refine zi h (fun h => ?_) fun h => ?_
 ·refine z3 ?_; refine zp ?_; refine z2 ?_; refine AW.ret ?_; refine blockR (thenR ?_); exact bR1 results24 rfl ⟨_, rfl, h⟩
 refine AW.skip ?_; refine blockN (thenN (z3 ?_)); refine zp ?_; refine zc func62 h ?_; rintro v σ ⟨u4, u5, rfl, h⟩; iterate 5 refine zp ?_
 refine z4 ?_; refine zp ?_; refine zN h fun p6 h => ?_; refine zf underlying128 ty126 ?_; refine zL underlying126 h fun u7 h => ?_; refine zp ?_; refine zl (X_lkp rfl rfl rfl (awp_mono _ h ?_))
 rintro v σ ⟨u8, rfl, h⟩; refine zN h fun p9 h => ?_; refine zf underlying133 ty32 ?_; refine zf underlying32 ty3 ?_; refine zL underlying3 h fun u10 h => ?_; refine zp ?_; refine zN h fun p11 h => ?_; refine zf underlying133 ty32 ?_; refine zf underlying32 ty3 ?_; refine zs ty3 h fun σ h => ?_; refine z4 ?_; refine zp ?_; refine zN h fun p12 h => ?_; refine zf underlying128 ty126 ?_; refine zL underlying126 h fun u13 h => ?_
 refine zp ?_; refine zl (X_bi (s := Builtin.delete_ #[126, 9] 0 #[.map u13, .string a1]) rfl rfl (fun _ => rfl) (awp_mono _ h ?_))
 rintro v σ ⟨rfl, h⟩; refine z4 ?_; refine zp ?_; refine z2 ?_; refine AW.ret ?_; exact bR1 results24 rfl ⟨_, rfl, h⟩
def j1_ztree_Tree_Set (B : World) (ro : AH) (a0 : Option Addr) (a1 : ByteArray) (a2 : Sl) (a3 : Int) (Q : Int → Int → AH → Prop) (u0 : Bool) (σ : AH) : Prop :=
 if u0 = true then
 Q 0 20 σ
 else
 if 256 < (a2.len : Int) then
 Q 0 75 σ
 else
 c_ztree_Tree_check B ro a0 a1 a3 σ fun u1 u2 σ =>
 if ¬ (u2 = 0) then
 Q 0 u2 σ
 else
 c_bytes_Clone B ro a2 σ fun u3 σ =>
 ∃ p4, u1 = some p4 ∧
 stN (p4.add 4) (fun σ =>
 ∃ p5, u1 = some p5 ∧
 ∃ u6, acell ro σ p5 = some (.int .i64 u6) ∧
 ∃ p7, u1 = some p7 ∧
 stN p7 (fun σ =>
  ∃ p8, u1 = some p8 ∧
  ∃ u9, acell ro σ p8 = some (.int .i64 u9) ∧
  Q u9 0 σ) [.int .i64 (i64.wrap (u6 + 1))] 0 σ) [Sl.v u3] 0 σ
def f_ztree_Tree_Set (B : World) (ro : AH) (a0 : Option Addr) (a1 : ByteArray) (a2 : Sl) (a3 : Int) (σ : AH) (Q : Int → Int → AH → Prop) : Prop :=
 if a1 = (⟨#[47]⟩ : ByteArray) then
 j1_ztree_Tree_Set B ro a0 a1 a2 a3 Q true σ
 else
 c_path_Check B ro a1 σ fun u0 σ =>
 j1_ztree_Tree_Set B ro a0 a1 a2 a3 Q (!(decide (u0 = 0))) σ
theorem ztree_Tree_Set_ok {a0 : Option Addr} {a1 : ByteArray} {a2 : Sl} {a3 : Int} {Q : Int → Int → AH → Prop} (h : Sep ro σ → f_ztree_Tree_Set B ro a0 a1 a2 a3 σ Q) : c_ztree_Tree_Set B ro a0 a1 a2 a3 σ Q := by
 refine zb h func25 ntmps25 fun h => ?_; unfold f_ztree_Tree_Set at h; refine z3 ?_; iterate 2 refine zp ?_
 refine z2 (AW.seq (z3 ?_))
 iterate 3 refine zp ?_
 refine LsplitJ 4 (decide (a1 = (⟨#[47]⟩ : ByteArray))) decide_eq_true_iff h (fun fr σ => ∃ (u0 : Bool), FrLe [(0, .pointer a0), (1, .string a1), (2, Sl.v a2), (3, .int .i64 a3), (18, .bool u0)] fr ∧ j1_ztree_Tree_Set B ro a0 a1 a2 a3 Q u0 σ) ?_ ?_ ?_
 ·intro h e2 hk2; iterate 3 refine zn e2 ?_
  refine zk e2 ?_; exact hk2 _ _ ⟨_, FL, h⟩
 ·intro h e2 hk2; refine zy e2 ?_; refine Lyb rfl rfl rfl rfl e2 (X_call rfl func55 rfl rfl rfl (ACalls.mono h ?_))
  rintro v σ ⟨u1, rfl, h⟩; refine zy e2 ?_; refine zk e2 ?_; exact hk2 _ _ ⟨_, FL, h⟩
 rintro fr σ ⟨u0, hl, h⟩; unfold j1_ztree_Tree_Set at h; refine Lfr hl ?_
 refine z2 ?_; refine zj h (fun h => ?_) fun h => ?_
 ·refine z3 ?_; iterate 2 refine zp ?_
  refine z2 ?_; refine AW.ret ?_; refine thenR ?_; exact bR2 results25 rfl rfl ⟨_, _, rfl, h⟩
 refine AW.skip ?_; refine thenN (AW.seq (z3 ?_)); refine zp ?_; refine zm (V_lenL rfl rfl underlying30 rfl rfl) ?_; refine zp ?_; refine z2 ?_; refine zi h (fun h => ?_) fun h => ?_
 ·refine z3 ?_; iterate 2 refine zp ?_
  refine z2 ?_; refine AW.ret ?_; refine thenR ?_; exact bR2 results25 rfl rfl ⟨_, _, rfl, h⟩
 refine AW.skip ?_; refine thenN (z3 ?_); iterate 3 refine zp ?_
 refine zc func73 h ?_; rintro v σ ⟨u2, u3, rfl, h⟩; iterate 5 refine zp ?_
 refine z2 (AW.seq (z3 ?_))
 iterate 2 refine zp ?_
 refine z2 ?_; refine AW.iff rfl (bnot_iff decide_eq_true_iff) h (fun h => ?_) (fun h => ?_)
 ·refine z3 ?_; iterate 3 refine zp ?_
  refine z2 ?_; refine AW.ret ?_; refine thenR ?_; exact bR2 results25 rfl rfl ⟨_, _, rfl, h⟩
 refine AW.skip ?_; refine thenN (z3 ?_); iterate 2 refine zp ?_
 refine zc func61 h ?_; rintro v σ ⟨u4, rfl, h⟩; refine zN h fun p5 h => ?_; refine zf underlying133 ty30 ?_; refine zs ty30 h fun σ h => ?_; refine z4 ?_; refine zp ?_; refine zN h fun p6 h => ?_; refine zf underlying133 ty32 ?_; refine zf underlying32 ty3 ?_; refine zL underlying3 h fun u7 h => ?_; refine zp ?_; refine zN h fun p8 h => ?_; refine zf underlying133 ty32 ?_; refine zf underlying32 ty3 ?_
 refine zs ty3 h fun σ h => ?_; refine z4 ?_; refine zp ?_; refine zN h fun p9 h => ?_; refine zf underlying133 ty32 ?_; refine zf underlying32 ty3 ?_; refine zL underlying3 h fun u10 h => ?_; iterate 2 refine zp ?_
 refine z2 ?_; refine AW.ret ?_; exact bR2 results25 rfl rfl ⟨_, _, rfl, h⟩
def j4_ztree_Decode (B : World) (ro : AH) (u0 : Nat) (Q : Option Addr → Int → AH → Prop) (σ : AH) : Prop :=
 Q (some ⟨u0, 0, none⟩) 0 σ
def l7_ztree_Decode (B : World) (ro : AH) (p0 : Addr) (u1 : Nat) (Q : Option Addr → Int → AH → Prop) : (Unit) → AH → ((Unit) → AH → Prop) → Prop := fun _ σ Y7 =>
 awp prog ro (Instr.next (.pointer (some p0)) false 0) (fun v σ =>
 (v = .tuple #[.bool false] ∧
  j4_ztree_Decode B ro u1 Q σ) ∨
 (∃ (u2 : Value) (u3 : Value), v = .tuple #[.bool true, u2, u3] ∧
  awp prog ro (Instr.entry (.pointer (some p0))) (fun v σ =>
  (∃ (u4 : Value) (u5 : Option Addr), v = .tuple #[u4, .pointer u5] ∧
   ∃ p6, u5 = some p6 ∧
   ∃ p7, u5 = some p7 ∧
   ∃ u8, acell ro σ (p6.add 1) = some (.int .i64 u8) ∧
   ∃ u9, acell ro σ (p7.add 3) = some (.int .i64 u9) ∧
   if u8 < u9 then
   Q none 13 σ
   else
   Y7 () σ)) σ)) σ
def j3_ztree_Decode (B : World) (ro : AH) (u0 : Nat) (Q : Option Addr → Int → AH → Prop) (σ : AH) : Prop :=
 ∃ u1, acell ro σ ⟨u0, 0, none⟩ = some (.map u1) ∧
 awp prog ro (Instr.range 126 (.map u1)) (fun v σ =>
 (∃ (p2 : Addr), v = .pointer (some p2) ∧
  lfpD (l7_ztree_Decode B ro p2 u0 Q ) () σ)) σ
def j27_ztree_Decode (B : World) (ro : AH) (u0 : Nat) (u1 : Option Addr) (u2 : ByteArray) (Q : Option Addr → Int → AH → Prop) (Y17 : (ByteArray) → AH → Prop) (u3 : Bool) (σ : AH) : Prop :=
 if u3 = true then
 Q none 13 σ
 else
 Y17 (u2) σ
def l17_ztree_Decode (B : World) (ro : AH) (u0 : Nat) (u1 : Option Addr) (Q : Option Addr → Int → AH → Prop) : (ByteArray) → AH → ((ByteArray) → AH → Prop) → Prop := fun u2 σ Y17 =>
 c_wire_Reader_Left B ro u1 σ fun u3 σ =>
 if (0 < u3) ∨ (u2 = (⟨#[]⟩ : ByteArray)) then
 c_wire_Reader_Text B ro u1 σ fun u4 σ =>
 c_wire_Reader_Blob B ro u1 σ fun u5 σ =>
 nw ro σ (.cells #[.int .i64 0, .int .i64 0, .int .i64 0, .int .i64 0, Sl.v u5] 133) fun u6 σ =>
 c_wire_Reader_Num B ro u1 σ fun u7 σ =>
 c_wire_Reader_Num B ro u1 σ fun u8 σ =>
 c_wire_Reader_Num B ro u1 σ fun u9 σ =>
 stN ⟨u6, 0, none⟩ (fun σ =>
  stN ((⟨u6, 0, none⟩ : Addr).add 1) (fun σ =>
  stN ((⟨u6, 0, none⟩ : Addr).add 2) (fun σ =>
   c_wire_Reader_Err B ro u1 σ fun u10 σ =>
   if ¬ (u10 = 0) then
   j27_ztree_Decode B ro u0 u1 u4 Q Y17 true σ
   else
   c_ztree_Tree_lay B ro (some ⟨u0, 0, none⟩) u4 u2 (some ⟨u6, 0, none⟩) σ fun u11 σ =>
   j27_ztree_Decode B ro u0 u1 u4 Q Y17 (!u11) σ) [.int .i64 u9] 0 σ) [.int .i64 u8] 0 σ) [.int .i64 u7] 0 σ
 else
 j3_ztree_Decode B ro u0 Q σ
def f_ztree_Decode (B : World) (ro : AH) (a0 : Sl) (σ : AH) (Q : Option Addr → Int → AH → Prop) : Prop :=
 nw ro σ (.map #[] 0) fun u0 σ =>
 nw ro σ (.cells #[.map (some u0)] 128) fun u1 σ =>
 c_wire_NewReader B ro a0 σ fun u2 σ =>
 lfpD (l17_ztree_Decode B ro u1 u2 Q ) ((⟨#[]⟩ : ByteArray)) σ
theorem ztree_Decode_ok {a0 : Sl} {Q : Option Addr → Int → AH → Prop} (h : Sep ro σ → f_ztree_Decode B ro a0 σ Q) : c_ztree_Decode B ro a0 σ Q := by
 refine zb h func27 ntmps27 fun h => ?_; unfold f_ztree_Decode at h; refine z3 ?_; iterate 2 refine zp ?_
 refine z4 ?_; refine zA (A_map0 rfl) h fun u0 h => ?_; refine zm (V_bld (vs := [(0, .map (some u0))]) (cs := #[.map (some u0)]) rfl underlying128 ty128 pl128 rfl rfl) ?_; refine zA (A_box rfl rfl) h fun u1 h => ?_; refine zp ?_; refine z4 ?_; refine zp ?_; refine z2 ?_; refine AW.seqJ (fun fr σ => FrLe [(4, .pointer (some ⟨u1, 0, none⟩))] fr ∧ j3_ztree_Decode B ro u1 Q σ) ?_ ?_
 ·rintro fr σ ⟨hl, h⟩; refine AW.weaken ?_ hl (HLe.refl _)
  unfold j3_ztree_Decode at h; refine AW.seqJ (fun fr σ => FrLe [(4, .pointer (some ⟨u1, 0, none⟩))] fr ∧ j4_ztree_Decode B ro u1 Q σ) ?_ ?_
  ·rintro fr σ ⟨hl, h⟩; refine AW.weaken ?_ hl (HLe.refl _)
   unfold j4_ztree_Decode at h; refine z3 ?_; iterate 3 refine zp ?_
   refine z2 ?_; refine AW.ret ?_; exact bR2 results27 rfl rfl ⟨_, _, rfl, h⟩
  refine z3 ?_; refine zp ?_; refine zm (V_nil rfl rfl) ?_; refine zf underlying128 ty126 ?_; refine zL underlying126 h fun u2 h => ?_; refine zl (X_rng rfl rfl (awp_mono _ h ?_))
  rintro v σ ⟨p3, rfl, h⟩; refine z2 (AW.block ?_)
  refine ARound.loop (fr' := [(4, .pointer (some ⟨u1, 0, none⟩)), (63, .pointer (some p3))]) ?_ FL
  refine h (fun _ σ => ARound _ _ _ _ _ _ [(4, .pointer (some ⟨u1, 0, none⟩)), (63, .pointer (some p3))] σ) ?_
  rintro _ σ Y7 hY7 h
  show AW _ _ _ _ _ _ _ _
  unfold l7_ztree_Decode at h; refine z3 ?_; refine zl (X_nxt rfl rfl rfl (awp_mono _ h ?_))
  rintro v σ (⟨rfl, h⟩ | ⟨u4, u5, rfl, h⟩)
  ·refine zp ?_; refine z2 (AW.seq ?_)
   refine AW.no rfl ?_; refine AW.exit ?_; refine thenE (thenE ?_); refine blockE ?_
   refine thenN ?_; exact ⟨FL, h⟩
  ·refine zp ?_; refine z2 (AW.seq ?_)
   refine AW.yes rfl ?_; refine AW.skip ?_; refine thenN (AW.block (z3 ?_)); refine zl (X_ent rfl rfl (awp_mono _ h ?_))
   rintro v σ ⟨u6, u7, rfl, h⟩; iterate 2 refine zp ?_
   refine z2 (AW.seq ?_)
   refine AW.drawn0 (fun i => ([0, 0, 0, 0, 3, 0, 0, 0, 0, 3, 0] : List Nat).getD i 2) [] [0, 1, 2, 3, 5, 6, 7, 8, 4, 9, 10] mixed (by decide +kernel) ?_
   refine zq ?_; obtain ⟨p8, hc, h⟩ := h
   refine Dp rfl rfl rfl rfl (V_nil rfl (by rw [← hc]; rfl)) ?_
   refine zg underlying133 ty32 ?_; refine zg underlying32 ty3 ?_; refine zq ?_; obtain ⟨p9, hc, h⟩ := h
   refine Dp rfl rfl rfl rfl (V_nil rfl (by rw [← hc]; rfl)) ?_
   refine zg underlying133 ty32 ?_; refine zg underlying32 ty3 ?_; obtain ⟨u10, hc, h⟩ := h
   refine Dr rfl rfl rfl rfl (R_ld rfl underlying3 rfl rfl hc) ?_
   obtain ⟨u11, hc, h⟩ := h
   refine Dr rfl rfl rfl rfl (R_ld rfl underlying3 rfl rfl hc) ?_
   refine zq ?_; refine Dend ?_
   refine thenN ?_; refine zi h (fun h => ?_) fun h => ?_
   rotate_left
   ·refine AW.skip ?_; refine blockN (thenN ?_); refine ARound.head (fr' := [(4, .pointer (some ⟨u1, 0, none⟩)), (63, .pointer (some p3))]) ?_ FL
    exact hY7 _ _ h
   refine z3 ?_; iterate 2 refine zp ?_
   refine z2 ?_; refine AW.ret ?_; refine blockR (thenR (blockR (thenR ?_))); exact bR2 results27 rfl rfl ⟨_, _, rfl, h⟩
 refine z3 ?_; refine zp ?_; refine zc func74 h ?_; rintro v σ ⟨u12, rfl, h⟩; refine zp ?_; refine z2 (AW.block ?_)
 refine ARound.loop (fr' := [(4, .pointer (some ⟨u1, 0, none⟩)), (6, .pointer u12), (5, .string (⟨#[]⟩ : ByteArray))]) ?_ FL
 refine h (fun u13 σ => ARound _ _ _ _ _ _ [(4, .pointer (some ⟨u1, 0, none⟩)), (6, .pointer u12), (5, .string u13)] σ) ?_
 rintro u13 σ Y17 hY17 h
 show AW _ _ _ _ _ _ _ _
 unfold l17_ztree_Decode at h; refine AW.seq (z3 ?_); refine zp ?_; refine zc func75 h ?_; rintro v σ ⟨u14, rfl, h⟩; iterate 2 refine zp ?_
 refine Lsplit 3 (decide (0 < u14)) [(4, .pointer (some ⟨u1, 0, none⟩)), (5, .string u13), (6, .pointer u12), (22, .bool ((decide (0 < u14)) || (decide (u13 = (⟨#[]⟩ : ByteArray)))))] ?_ ?_ ?_
 ·intro e3 hk3
  iterate 2 refine zn e3 ?_
  refine zk e3 ?_; exact hk3 _ (Fe e3)
 ·intro e3 hk3
  refine zy e3 ?_; refine zy e3 ?_; refine zk e3 ?_; exact hk3 _ (Fe e3)
 intro fr hl
 refine Lfr hl ?_
 refine z2 ?_; refine AW.iff rfl (bor_iff decide_eq_true_iff decide_eq_true_iff) h (fun h => ?_) (fun h => ?_)
 rotate_left
 ·refine AW.exit ?_; refine thenE (thenE ?_); refine blockE ?_
  refine thenN ?_; exact ⟨FL, h⟩
 refine AW.skip ?_; refine thenN (AW.block (z3 ?_)); refine zp ?_; refine zc func76 h ?_; rintro v σ ⟨u15, rfl, h⟩; refine zp ?_; refine z4 ?_; refine zp ?_; refine zc func77 h ?_; rintro v σ ⟨u16, rfl, h⟩; refine zm (V_bld (vs := [(1, Sl.v u16)]) (cs := #[.int .i64 0, .int .i64 0, .int .i64 0, .int .i64 0, Sl.v u16]) rfl underlying133 ty133 pl133 rfl rfl) ?_; refine zA (A_box rfl rfl) h fun u17 h => ?_
 refine zp ?_; refine z4 ?_; iterate 4 refine zp ?_
 refine zc func78 h ?_; rintro v σ ⟨u18, rfl, h⟩; refine zp ?_; refine zc func78 h ?_; rintro v σ ⟨u19, rfl, h⟩; refine zp ?_; refine zc func78 h ?_; rintro v σ ⟨u20, rfl, h⟩; refine zm (V_nil rfl rfl) ?_; refine zf underlying133 ty32 ?_; refine zf underlying32 ty3 ?_; refine zs ty3 h fun σ h => ?_; refine zm (V_nil rfl rfl) ?_; refine zf underlying133 ty32 ?_; refine zf underlying32 ty3 ?_; refine zs ty3 h fun σ h => ?_
 refine zm (V_nil rfl rfl) ?_; refine zf underlying133 ty32 ?_; refine zf underlying32 ty3 ?_; refine zs ty3 h fun σ h => ?_; refine z2 (AW.seq (z3 ?_))
 refine zp ?_; refine zc func79 h ?_; rintro v σ ⟨u21, rfl, h⟩; iterate 2 refine zp ?_
 refine LsplitJ 7 (!(decide (u21 = 0))) (bnot_iff decide_eq_true_iff) h (fun fr σ => ∃ (u22 : Bool), FrLe [(4, .pointer (some ⟨u1, 0, none⟩)), (6, .pointer u12), (7, .string u15), (57, .bool u22)] fr ∧ j27_ztree_Decode B ro u1 u12 u15 Q Y17 u22 σ) ?_ ?_ ?_
 ·intro h e3 hk3; iterate 6 refine zn e3 ?_
  refine zk e3 ?_; exact hk3 _ _ ⟨_, FL, h⟩
 ·intro h e3 hk3; refine zy e3 ?_; refine zy e3 ?_; refine zy e3 ?_; refine zy e3 ?_; refine Lyb rfl rfl rfl rfl e3 (X_call rfl func80 rfl rfl rfl (ACalls.mono h ?_))
  rintro v σ ⟨u23, rfl, h⟩; refine zy e3 ?_; refine zk e3 ?_; exact hk3 _ _ ⟨_, FL, h⟩
 rintro fr σ ⟨u22, hl, h⟩; unfold j27_ztree_Decode at h; refine Lfr hl ?_
 refine z2 ?_; refine zj h (fun h => ?_) fun h => ?_
 ·refine z3 ?_; iterate 2 refine zp ?_
  refine z2 ?_; refine AW.ret ?_; refine thenR (blockR (thenR (blockR (thenR ?_)))); exact bR2 results27 rfl rfl ⟨_, _, rfl, h⟩
 refine AW.skip ?_; refine thenN (AW.reg ?_); iterate 2 refine zp ?_
 refine Lnil (blockN (thenN ?_)); refine ARound.head (fr' := [(4, .pointer (some ⟨u1, 0, none⟩)), (6, .pointer u12), (5, .string u15)]) ?_ FL
 exact hY17 _ _ h
def f_ztree_New (B : World) (ro : AH) (σ : AH) (Q : Option Addr → AH → Prop) : Prop :=
 nw ro σ (.map #[] 0) fun u0 σ =>
 nw ro σ (.cells #[.int .i64 0, .int .i64 0, .int .i64 0, .int .i64 0, Sl.v (⟨none, 0, 0⟩ : Sl)] 133) fun u1 σ =>
 awp prog ro (Instr.mapUpdate 126 (.map (some u0)) (.string (⟨#[47]⟩ : ByteArray)) (.pointer (some ⟨u1, 0, none⟩))) (fun _ σ =>
 nw ro σ (.cells #[.map (some u0)] 128) fun u2 σ =>
 Q (some ⟨u2, 0, none⟩) σ) σ
theorem ztree_New_ok {Q : Option Addr → AH → Prop} (h : Sep ro σ → f_ztree_New B ro σ Q) : c_ztree_New B ro σ Q := by
 refine zb h func30 ntmps30 fun h => ?_; unfold f_ztree_New at h; refine z3 ?_; refine zp ?_; refine z4 ?_; refine zA (A_map0 rfl) h fun u0 h => ?_; refine zm (V_bld (vs := []) (cs := #[.int .i64 0, .int .i64 0, .int .i64 0, .int .i64 0, Sl.v (⟨none, 0, 0⟩ : Sl)]) rfl underlying133 ty133 pl133 rfl rfl) ?_; refine zA (A_box rfl rfl) h fun u1 h => ?_; refine zl (X_mup (.inr rfl) rfl rfl rfl (awp_mono _ h ?_))
 rintro _ σ h
 refine zp ?_; refine zm (V_bld (vs := [(0, .map (some u0))]) (cs := #[.map (some u0)]) rfl underlying128 ty128 pl128 rfl rfl) ?_; refine zA (A_box rfl rfl) h fun u2 h => ?_; refine zp ?_; refine z2 ?_; refine AW.ret ?_; exact bR1 results30 rfl ⟨_, rfl, h⟩
def f_ztree_Tree_paths (B : World) (ro : AH) (a0 : Option Addr) (σ : AH) (Q : Sl → AH → Prop) : Prop :=
 ∃ p0, a0 = some p0 ∧
 ∃ u1, acell ro σ p0 = some (.map u1) ∧
 c_maps_Keys_ztree_node B ro u1 σ fun u2 σ =>
 c_slices_Sorted_string B ro u2 σ fun u3 σ =>
 Q u3 σ
theorem ztree_Tree_paths_ok {a0 : Option Addr} {Q : Sl → AH → Prop} (h : Sep ro σ → f_ztree_Tree_paths B ro a0 σ Q) : c_ztree_Tree_paths B ro a0 σ Q := by
 refine zb h func57 ntmps57 fun h => ?_; unfold f_ztree_Tree_paths at h; refine z3 ?_; refine zp ?_; refine z4 ?_; refine zp ?_; refine zN h fun p0 h => ?_; refine zf underlying128 ty126 ?_; refine zL underlying126 h fun u1 h => ?_; refine zc func109 h ?_; rintro u2 σ ⟨_, rfl, h⟩
 refine zc func108 h ?_; rintro v σ ⟨u3, rfl, h⟩; refine zp ?_; refine z2 ?_; refine AW.ret ?_; exact bR1 results57 rfl ⟨_, rfl, h⟩
def f_ztree_Tree_Paths_c1 (B : World) (ro : AH) (a0 : ByteArray) (a1 : Addr) (σ : AH) (Q : Bool → AH → Prop) : Prop :=
 ∃ u0, acell ro σ a1 = some (.string u0) ∧
 c_path_Under B ro u0 a0 σ fun u1 u2 σ =>
 Q (!u1) σ
theorem ztree_Tree_Paths_c1_ok {a0 : ByteArray} {a1 : Addr} {Q : Bool → AH → Prop} (h : Sep ro σ → f_ztree_Tree_Paths_c1 B ro a0 a1 σ Q) : c_ztree_Tree_Paths_c1 B ro a0 a1 σ Q := by
 refine zb h func58 ntmps58 fun h => ?_; unfold f_ztree_Tree_Paths_c1 at h; refine z3 ?_; refine zp ?_; refine z4 ?_; refine zL underlying9 h fun u0 h => ?_; refine zp ?_; refine zc func59 h ?_; rintro v σ ⟨u1, u2, rfl, h⟩; iterate 5 refine zp ?_
 refine z4 ?_; iterate 3 refine zp ?_
 refine z2 ?_; refine AW.ret ?_; exact bR1 results58 rfl ⟨_, rfl, h⟩
def f_ztree_Tree_find (B : World) (ro : AH) (a0 : Option Addr) (a1 : ByteArray) (σ : AH) (Q : Option Addr → Int → AH → Prop) : Prop :=
 c_path_Check B ro a1 σ fun u0 σ =>
 if ¬ (u0 = 0) then
 Q none u0 σ
 else
 ∃ p1, a0 = some p1 ∧
 ∃ u2, acell ro σ p1 = some (.map u2) ∧
 awp prog ro (Instr.lookup 126 (.map u2) (.string a1) false) (fun v σ =>
 (∃ (u3 : Option Addr), v = .pointer u3 ∧
  if u3 = none then
  Q none 70 σ
  else
  Q u3 0 σ)) σ
theorem ztree_Tree_find_ok {a0 : Option Addr} {a1 : ByteArray} {Q : Option Addr → Int → AH → Prop} (h : Sep ro σ → f_ztree_Tree_find B ro a0 a1 σ Q) : c_ztree_Tree_find B ro a0 a1 σ Q := by
 refine zb h func60 ntmps60 fun h => ?_; unfold f_ztree_Tree_find at h; refine z3 ?_; iterate 2 refine zp ?_
 refine z2 (AW.seq (z3 ?_))
 refine zp ?_; refine zc func55 h ?_; rintro v σ ⟨u0, rfl, h⟩; refine zp ?_; refine z4 ?_; iterate 2 refine zp ?_
 refine z2 ?_; refine AW.iff rfl (bnot_iff decide_eq_true_iff) h (fun h => ?_) (fun h => ?_)
 ·refine z3 ?_; iterate 3 refine zp ?_
  refine z2 ?_; refine AW.ret ?_; refine thenR ?_; exact bR2 results60 rfl rfl ⟨_, _, rfl, h⟩
 refine AW.skip ?_; refine thenN (z3 ?_); refine zp ?_; refine zN h fun p1 h => ?_; refine zf underlying128 ty126 ?_; refine zL underlying126 h fun u2 h => ?_; refine zp ?_; refine zl (X_lkp rfl rfl rfl (awp_mono _ h ?_))
 rintro v σ ⟨u3, rfl, h⟩; refine zp ?_; refine z2 (AW.seq (z3 ?_))
 refine zp ?_; refine zm (V_eqP rfl underlying129 rfl rfl) ?_; refine z2 ?_; refine AW.iff rfl isNone_iff h (fun h => ?_) (fun h => ?_)
 ·refine z3 ?_; iterate 2 refine zp ?_
  refine z2 ?_; refine AW.ret ?_; refine thenR ?_; exact bR2 results60 rfl rfl ⟨_, _, rfl, h⟩
 refine AW.skip ?_; refine thenN (z3 ?_); iterate 3 refine zp ?_
 refine z2 ?_; refine AW.ret ?_; exact bR2 results60 rfl rfl ⟨_, _, rfl, h⟩
def j3_ztree_Tree_check (B : World) (ro : AH) (u0 : Option Addr) (u1 : Int) (Q : Option Addr → Int → AH → Prop) (u2 : Bool) (σ : AH) : Prop :=
 if u2 = true then
 Q none 72 σ
 else
 Q u0 u1 σ
def f_ztree_Tree_check (B : World) (ro : AH) (a0 : Option Addr) (a1 : ByteArray) (a2 : Int) (σ : AH) (Q : Option Addr → Int → AH → Prop) : Prop :=
 if a1 = (⟨#[47]⟩ : ByteArray) then
 Q none 20 σ
 else
 c_ztree_Tree_find B ro a0 a1 σ fun u0 u1 σ =>
 if (u1 = 0) ∧ (¬ (a2 = (-1))) then
 ∃ p2, u0 = some p2 ∧
 ∃ u3, acell ro σ p2 = some (.int .i64 u3) ∧
 j3_ztree_Tree_check B ro u0 u1 Q (!(decide (a2 = u3))) σ
 else
 j3_ztree_Tree_check B ro u0 u1 Q false σ
theorem ztree_Tree_check_ok {a0 : Option Addr} {a1 : ByteArray} {a2 : Int} {Q : Option Addr → Int → AH → Prop} (h : Sep ro σ → f_ztree_Tree_check B ro a0 a1 a2 σ Q) : c_ztree_Tree_check B ro a0 a1 a2 σ Q := by
 refine zb h func73 ntmps73 fun h => ?_; unfold f_ztree_Tree_check at h; refine z3 ?_; iterate 2 refine zp ?_
 refine z2 (AW.seq (z3 ?_))
 iterate 2 refine zp ?_
 refine z2 ?_; refine zi h (fun h => ?_) fun h => ?_
 ·refine z3 ?_; iterate 2 refine zp ?_
  refine z2 ?_; refine AW.ret ?_; refine thenR ?_; exact bR2 results73 rfl rfl ⟨_, _, rfl, h⟩
 refine AW.skip ?_; refine thenN (z3 ?_); iterate 2 refine zp ?_
 refine zc func60 h ?_; rintro v σ ⟨u0, u1, rfl, h⟩; iterate 5 refine zp ?_
 refine z2 (AW.seq (z3 ?_))
 iterate 3 refine zp ?_
 refine Lsplit 3 (decide (u1 = 0)) [(2, .int .i64 a2), (8, .pointer u0), (9, .int .i64 u1), (23, .bool ((decide (u1 = 0)) && (!(decide (a2 = (-1))))))] ?_ ?_ ?_
 ·intro e2 hk2
  refine zy e2 ?_; refine zy e2 ?_; refine zk e2 ?_; exact hk2 _ (Fe e2)
 ·intro e2 hk2
  iterate 2 refine zn e2 ?_
  refine zk e2 ?_; exact hk2 _ (Fe e2)
 intro fr hl
 refine Lfr hl ?_
 refine zp ?_; refine LsplitJ 8 ((decide (u1 = 0)) && (!(decide (a2 = (-1))))) (band_iff decide_eq_true_iff (bnot_iff decide_eq_true_iff)) h (fun fr σ => ∃ (u2 : Bool), FrLe [(8, .pointer u0), (9, .int .i64 u1), (32, .bool u2)] fr ∧ j3_ztree_Tree_check B ro u0 u1 Q u2 σ) ?_ ?_ ?_
 ·intro h e6 hk6; refine zy e6 ?_; refine zy e6 ?_; obtain ⟨p3, hc, h⟩ := h
  refine Lypb (V_nil rfl (by rw [← hc]; rfl)) rfl rfl rfl rfl e6 ?_
  refine Lypb (V_fld rfl underlying133 rfl ty32 (by decide) rfl) rfl rfl rfl rfl e6 ?_
  refine Lypb (V_fld rfl underlying32 rfl ty3 (by decide) rfl) rfl rfl rfl rfl e6 ?_
  obtain ⟨u4, hc, h⟩ := h
  refine Lyb rfl rfl rfl rfl e6 (X_ld rfl underlying3 rfl rfl hc ?_)
  refine zy e6 ?_; refine zk e6 ?_; exact hk6 _ _ ⟨_, FL, h⟩
 ·intro h e6 hk6; iterate 7 refine zn e6 ?_
  refine zk e6 ?_; exact hk6 _ _ ⟨_, FL, h⟩
 rintro fr σ ⟨u2, hl, h⟩; unfold j3_ztree_Tree_check at h; refine Lfr hl ?_
 refine z2 ?_; refine zj h (fun h => ?_) fun h => ?_
 ·refine z3 ?_; iterate 2 refine zp ?_
  refine z2 ?_; refine AW.ret ?_; refine thenR ?_; exact bR2 results73 rfl rfl ⟨_, _, rfl, h⟩
 refine AW.skip ?_; refine thenN (z3 ?_); iterate 4 refine zp ?_
 refine z2 ?_; refine AW.ret ?_; exact bR2 results73 rfl rfl ⟨_, _, rfl, h⟩
def j14_ztree_Tree_lay (B : World) (ro : AH) (Q : Bool → AH → Prop) (u0 : Bool) (σ : AH) : Prop :=
 Q u0 σ
def j12_ztree_Tree_lay (B : World) (ro : AH) (a3 : Option Addr) (Q : Bool → AH → Prop) (u0 : Bool) (σ : AH) : Prop :=
 if u0 = true then
 ∃ p1, a3 = some p1 ∧
 ∃ u2, acell ro σ (p1.add 2) = some (.int .i64 u2) ∧
 j14_ztree_Tree_lay B ro Q (decide (u2 = 0)) σ
 else
 j14_ztree_Tree_lay B ro Q false σ
def j10_ztree_Tree_lay (B : World) (ro : AH) (a3 : Option Addr) (Q : Bool → AH → Prop) (u0 : Bool) (σ : AH) : Prop :=
 if u0 = true then
 ∃ p1, a3 = some p1 ∧
 ∃ u2, acell ro σ p1 = some (.int .i64 u2) ∧
 j12_ztree_Tree_lay B ro a3 Q (decide (u2 = 0)) σ
 else
 j12_ztree_Tree_lay B ro a3 Q false σ
def j27_ztree_Tree_lay (B : World) (ro : AH) (a0 : Option Addr) (a1 : ByteArray) (a3 : Option Addr) (u0 : Option Addr) (Q : Bool → AH → Prop) (u1 : Bool) (σ : AH) : Prop :=
 if u1 = true then
 Q false σ
 else
 ∃ p2, u0 = some p2 ∧
 ∃ u3, acell ro σ (p2.add 3) = some (.int .i64 u3) ∧
 ∃ p4, u0 = some p4 ∧
 stN (p4.add 3) (fun σ =>
 ∃ p5, a0 = some p5 ∧
 ∃ u6, acell ro σ p5 = some (.map u6) ∧
 awp prog ro (Instr.mapUpdate 126 (.map u6) (.string a1) (.pointer a3)) (fun _ σ =>
  Q true σ) σ) [.int .i64 (i64.wrap (u3 + 1))] 0 σ
def j6_ztree_Tree_lay (B : World) (ro : AH) (a0 : Option Addr) (a1 : ByteArray) (a2 : ByteArray) (a3 : Option Addr) (Q : Bool → AH → Prop) (u0 : Bool) (σ : AH) : Prop :=
 if u0 = true then
 Q false σ
 else
 if a2 = (⟨#[]⟩ : ByteArray) then
 ∃ p1, a0 = some p1 ∧
 ∃ u2, acell ro σ p1 = some (.map u2) ∧
 awp prog ro (Instr.mapUpdate 126 (.map u2) (.string a1) (.pointer a3)) (fun _ σ =>
  if a1 = (⟨#[47]⟩ : ByteArray) then
  ∃ p3, a3 = some p3 ∧
  ∃ u4, acell ro σ (p3.add 4) = some (Sl.v u4) ∧
  j10_ztree_Tree_lay B ro a3 Q (decide ((u4.len : Int) = 0)) σ
  else
  j10_ztree_Tree_lay B ro a3 Q false σ) σ
 else
 c_path_Parent B ro a1 σ fun u5 u6 σ =>
 ∃ p7, a0 = some p7 ∧
 ∃ u8, acell ro σ p7 = some (.map u8) ∧
 awp prog ro (Instr.lookup 126 (.map u8) (.string u5) false) (fun v σ =>
 (∃ (u9 : Option Addr), v = .pointer u9 ∧
  if u9 = none then
  j27_ztree_Tree_lay B ro a0 a1 a3 u9 Q true σ
  else
  ∃ p10, u9 = some p10 ∧
  ∃ u11, acell ro σ (p10.add 2) = some (.int .i64 u11) ∧
  j27_ztree_Tree_lay B ro a0 a1 a3 u9 Q (!(decide (u11 = 0))) σ)) σ
def j38_ztree_Tree_lay (B : World) (ro : AH) (a0 : Option Addr) (a1 : ByteArray) (a2 : ByteArray) (a3 : Option Addr) (u0 : Bool) (Q : Bool → AH → Prop) (u1 : Bool) (σ : AH) : Prop :=
 j6_ztree_Tree_lay B ro a0 a1 a2 a3 Q u1 σ
def j4_ztree_Tree_lay (B : World) (ro : AH) (a0 : Option Addr) (a1 : ByteArray) (a2 : ByteArray) (a3 : Option Addr) (Q : Bool → AH → Prop) (u0 : Bool) (σ : AH) : Prop :=
 if u0 = true then
 j6_ztree_Tree_lay B ro a0 a1 a2 a3 Q true σ
 else
 ∃ p1, a3 = some p1 ∧
 ∃ u2, acell ro σ (p1.add 2) = some (.int .i64 u2) ∧
 if ¬ (u2 = 0) then
 ∃ p3, a3 = some p3 ∧
 ∃ u4, acell ro σ (p3.add 1) = some (.int .i64 u4) ∧
 j38_ztree_Tree_lay B ro a0 a1 a2 a3 u0 Q (decide (0 < u4)) σ
 else
 j38_ztree_Tree_lay B ro a0 a1 a2 a3 u0 Q false σ
def j2_ztree_Tree_lay (B : World) (ro : AH) (a0 : Option Addr) (a1 : ByteArray) (a2 : ByteArray) (a3 : Option Addr) (Q : Bool → AH → Prop) (u0 : Bool) (σ : AH) : Prop :=
 if u0 = true then
 j4_ztree_Tree_lay B ro a0 a1 a2 a3 Q true σ
 else
 ∃ p1, a3 = some p1 ∧
 ∃ u2, acell ro σ (p1.add 1) = some (.int .i64 u2) ∧
 j4_ztree_Tree_lay B ro a0 a1 a2 a3 Q (decide (10000000000 < u2)) σ
def f_ztree_Tree_lay (B : World) (ro : AH) (a0 : Option Addr) (a1 : ByteArray) (a2 : ByteArray) (a3 : Option Addr) (σ : AH) (Q : Bool → AH → Prop) : Prop :=
 c_path_Check B ro a1 σ fun u0 σ =>
 if (¬ (u0 = 0)) ∨ (((lessS a1 a2) = true) ∨ (a1 = a2)) then
 j2_ztree_Tree_lay B ro a0 a1 a2 a3 Q true σ
 else
 ∃ p1, a3 = some p1 ∧
 ∃ u2, acell ro σ (p1.add 4) = some (Sl.v u2) ∧
 j2_ztree_Tree_lay B ro a0 a1 a2 a3 Q (decide (256 < (u2.len : Int))) σ
theorem ztree_Tree_lay_ok {a0 : Option Addr} {a1 : ByteArray} {a2 : ByteArray} {a3 : Option Addr} {Q : Bool → AH → Prop} (h : Sep ro σ → f_ztree_Tree_lay B ro a0 a1 a2 a3 σ Q) : c_ztree_Tree_lay B ro a0 a1 a2 a3 σ Q := by
 refine zb h func80 ntmps80 fun h => ?_; unfold f_ztree_Tree_lay at h; refine z3 ?_; refine zp ?_; refine z2 (AW.seq (AW.block (z3 ?_)))
 refine zp ?_; refine zc func55 h ?_; rintro v σ ⟨u0, rfl, h⟩; iterate 2 refine zp ?_
 refine Lsplit 4 (!(decide (u0 = 0))) [(0, .pointer a0), (1, .string a1), (2, .string a2), (3, .pointer a3), (20, .bool ((!(decide (u0 = 0))) || ((lessS a1 a2) || (decide (a1 = a2)))))] ?_ ?_ ?_
 ·intro e3 hk3
  iterate 3 refine zn e3 ?_
  refine zk e3 ?_; exact hk3 _ (Fe e3)
 ·intro e3 hk3
  refine zy e3 ?_; refine zy e3 ?_; refine Lypb (V_leqS rfl rfl rfl) rfl rfl rfl rfl e3 ?_
  refine zk e3 ?_; exact hk3 _ (Fe e3)
 intro fr hl
 refine Lfr hl ?_
 refine zp ?_; refine LsplitJ 7 ((!(decide (u0 = 0))) || ((lessS a1 a2) || (decide (a1 = a2)))) (bor_iff (bnot_iff decide_eq_true_iff) (bor_iff Iff.rfl decide_eq_true_iff)) h (fun fr σ => ∃ (u1 : Bool), FrLe [(0, .pointer a0), (1, .string a1), (2, .string a2), (3, .pointer a3), (28, .bool u1)] fr ∧ j2_ztree_Tree_lay B ro a0 a1 a2 a3 Q u1 σ) ?_ ?_ ?_
 ·intro h e8 hk8; iterate 6 refine zn e8 ?_
  refine zk e8 ?_; exact hk8 _ _ ⟨_, FL, h⟩
 ·intro h e8 hk8; refine zy e8 ?_; obtain ⟨p2, hc, h⟩ := h
  refine Lypb (V_nil rfl (by rw [← hc]; rfl)) rfl rfl rfl rfl e8 ?_
  refine Lypb (V_fld rfl underlying133 rfl ty30 (by decide) rfl) rfl rfl rfl rfl e8 ?_
  obtain ⟨u3, hc, h⟩ := h
  refine Lyb rfl rfl rfl rfl e8 (X_ld rfl underlying30 rfl rfl hc ?_)
  refine Lypb (V_lenL rfl rfl underlying30 rfl rfl) rfl rfl rfl rfl e8 ?_
  refine zy e8 ?_; refine zk e8 ?_; exact hk8 _ _ ⟨_, FL, h⟩
 rintro fr σ ⟨u1, hl, h⟩; unfold j2_ztree_Tree_lay at h; refine Lfr hl ?_
 refine zp ?_; refine LsplitJ 7 u1 Iff.rfl h (fun fr σ => ∃ (u4 : Bool), FrLe [(0, .pointer a0), (1, .string a1), (2, .string a2), (3, .pointer a3), (36, .bool u4)] fr ∧ j4_ztree_Tree_lay B ro a0 a1 a2 a3 Q u4 σ) ?_ ?_ ?_
 ·intro h e16 hk16; iterate 6 refine zn e16 ?_
  refine zk e16 ?_; exact hk16 _ _ ⟨_, FL, h⟩
 ·intro h e16 hk16; refine zy e16 ?_; obtain ⟨p5, hc, h⟩ := h
  refine Lypb (V_nil rfl (by rw [← hc]; rfl)) rfl rfl rfl rfl e16 ?_
  refine Lypb (V_fld rfl underlying133 rfl ty32 (by decide) rfl) rfl rfl rfl rfl e16 ?_
  refine Lypb (V_fld rfl underlying32 rfl ty3 (by decide) rfl) rfl rfl rfl rfl e16 ?_
  obtain ⟨u6, hc, h⟩ := h
  refine Lyb rfl rfl rfl rfl e16 (X_ld rfl underlying3 rfl rfl hc ?_)
  refine zy e16 ?_; refine zk e16 ?_; exact hk16 _ _ ⟨_, FL, h⟩
 rintro fr σ ⟨u4, hl, h⟩; unfold j4_ztree_Tree_lay at h; refine Lfr hl ?_
 refine zp ?_; refine LsplitJ 15 u4 Iff.rfl h (fun fr σ => ∃ (u7 : Bool), FrLe [(0, .pointer a0), (1, .string a1), (2, .string a2), (3, .pointer a3), (52, .bool u7)] fr ∧ j6_ztree_Tree_lay B ro a0 a1 a2 a3 Q u7 σ) ?_ ?_ ?_
 ·intro h e24 hk24; iterate 7 refine zn e24 ?_
  refine Ln rfl rfl rfl rfl (.inr rfl) ?_
  refine Ln rfl rfl rfl rfl (.inr rfl) ?_
  refine Ln rfl rfl rfl rfl (.inr rfl) ?_
  refine Ln rfl rfl rfl rfl (.inr rfl) ?_
  refine Ln rfl rfl rfl rfl (.inr rfl) ?_
  refine Ln rfl rfl rfl rfl (.inr rfl) ?_
  refine zn e24 ?_; refine zk e24 ?_; exact hk24 _ _ ⟨_, FL, h⟩
 ·intro h e24 hk24; refine zy e24 ?_; obtain ⟨p8, hc, h⟩ := h
  refine Lypb (V_nil rfl (by rw [← hc]; rfl)) rfl rfl rfl rfl e24 ?_
  refine Lypb (V_fld rfl underlying133 rfl ty32 (by decide) rfl) rfl rfl rfl rfl e24 ?_
  refine Lypb (V_fld rfl underlying32 rfl ty3 (by decide) rfl) rfl rfl rfl rfl e24 ?_
  obtain ⟨u9, hc, h⟩ := h
  refine Lyb rfl rfl rfl rfl e24 (X_ld rfl underlying3 rfl rfl hc ?_)
  refine zy e24 ?_; refine zy e24 ?_; refine LsplitJ 7 (!(decide (u9 = 0))) (bnot_iff decide_eq_true_iff) h (fun fr σ => ∃ (u10 : Bool), FrLe [(0, .pointer a0), (1, .string a1), (2, .string a2), (3, .pointer a3), (37, .bool u4), (51, .bool u10)] fr ∧ j38_ztree_Tree_lay B ro a0 a1 a2 a3 u4 Q u10 σ) ?_ ?_ ?_
  ·intro h e31 hk31; refine zy e31 ?_; obtain ⟨p11, hc, h⟩ := h
   refine Lypb (V_nil rfl (by rw [← hc]; rfl)) rfl rfl rfl rfl e31 ?_
   refine Lypb (V_fld rfl underlying133 rfl ty32 (by decide) rfl) rfl rfl rfl rfl e31 ?_
   refine Lypb (V_fld rfl underlying32 rfl ty3 (by decide) rfl) rfl rfl rfl rfl e31 ?_
   obtain ⟨u12, hc, h⟩ := h
   refine Lyb rfl rfl rfl rfl e31 (X_ld rfl underlying3 rfl rfl hc ?_)
   refine zy e31 ?_; refine Lypb (V_pickT rfl (evb e31) rfl) rfl rfl rfl rfl e24 ?_
   exact hk31 _ _ ⟨_, FL, h⟩
  ·intro h e31 hk31; iterate 6 refine zn e31 ?_
   refine Lypb (V_pickF rfl (evb e31) rfl) rfl rfl rfl rfl e24 ?_
   exact hk31 _ _ ⟨_, FL, h⟩
  rintro fr σ ⟨u10, hl, h⟩; unfold j38_ztree_Tree_lay at h; refine Lfr hl ?_
  refine zk e24 ?_; exact hk24 _ _ ⟨_, FL, h⟩
 rintro fr σ ⟨u7, hl, h⟩; unfold j6_ztree_Tree_lay at h; refine Lfr hl ?_
 refine zp ?_; refine z2 ?_; refine zj h (fun h => ?_) fun h => ?_
 ·refine z3 ?_; refine zp ?_; refine z2 ?_; refine AW.ret ?_; refine blockR (thenR ?_); exact bR1 results80 rfl ⟨_, rfl, h⟩
 refine z3 ?_; iterate 3 refine zp ?_
 refine z2 ?_; refine zi h (fun h => ?_) fun h => ?_
 rotate_left
 ·refine AW.skip ?_; refine blockN (thenN (z3 ?_)); refine zp ?_; refine zc func62 h ?_; rintro v σ ⟨u13, u14, rfl, h⟩; iterate 5 refine zp ?_
  refine z4 ?_; refine zp ?_; refine zN h fun p15 h => ?_; refine zf underlying128 ty126 ?_; refine zL underlying126 h fun u16 h => ?_; refine zp ?_; refine zl (X_lkp rfl rfl rfl (awp_mono _ h ?_))
  rintro v σ ⟨u17, rfl, h⟩; refine zp ?_; refine z2 (AW.seq (z3 ?_))
  refine zp ?_; refine zm (V_eqP rfl underlying129 rfl rfl) ?_; refine zp ?_; refine LsplitJ 7 u17.isNone isNone_iff h (fun fr σ => ∃ (u18 : Bool), FrLe [(0, .pointer a0), (1, .string a1), (3, .pointer a3), (11, .pointer u17), (108, .bool u18)] fr ∧ j27_ztree_Tree_lay B ro a0 a1 a3 u17 Q u18 σ) ?_ ?_ ?_
  ·intro h e2 hk2; iterate 6 refine zn e2 ?_
   refine zk e2 ?_; exact hk2 _ _ ⟨_, FL, h⟩
  ·intro h e2 hk2; refine zy e2 ?_; obtain ⟨p19, hc, h⟩ := h
   refine Lypb (V_nil rfl (by rw [← hc]; rfl)) rfl rfl rfl rfl e2 ?_
   refine Lypb (V_fld rfl underlying133 rfl ty32 (by decide) rfl) rfl rfl rfl rfl e2 ?_
   refine Lypb (V_fld rfl underlying32 rfl ty3 (by decide) rfl) rfl rfl rfl rfl e2 ?_
   obtain ⟨u20, hc, h⟩ := h
   refine Lyb rfl rfl rfl rfl e2 (X_ld rfl underlying3 rfl rfl hc ?_)
   refine zy e2 ?_; refine zk e2 ?_; exact hk2 _ _ ⟨_, FL, h⟩
  rintro fr σ ⟨u18, hl, h⟩; unfold j27_ztree_Tree_lay at h; refine Lfr hl ?_
  refine z2 ?_; refine zj h (fun h => ?_) fun h => ?_
  ·refine z3 ?_; refine zp ?_; refine z2 ?_; refine AW.ret ?_; refine thenR ?_; exact bR1 results80 rfl ⟨_, rfl, h⟩
  refine AW.skip ?_; refine thenN (z3 ?_); refine zp ?_; refine zN h fun p21 h => ?_; refine zf underlying133 ty32 ?_; refine zf underlying32 ty3 ?_; refine zL underlying3 h fun u22 h => ?_; refine zp ?_; refine zN h fun p23 h => ?_; refine zf underlying133 ty32 ?_; refine zf underlying32 ty3 ?_; refine zs ty3 h fun σ h => ?_; refine z4 ?_; refine zp ?_; refine zN h fun p24 h => ?_; refine zf underlying128 ty126 ?_
  refine zL underlying126 h fun u25 h => ?_; iterate 2 refine zp ?_
  refine zl (X_mup (.inl rfl) rfl rfl rfl (awp_mono _ h ?_))
  rintro _ σ h
  refine z4 ?_; refine zp ?_; refine z2 ?_; refine AW.ret ?_; exact bR1 results80 rfl ⟨_, rfl, h⟩
 refine z3 ?_; refine zp ?_; refine zN h fun p26 h => ?_; refine zf underlying128 ty126 ?_; refine zL underlying126 h fun u27 h => ?_; iterate 2 refine zp ?_
 refine zl (X_mup (.inl rfl) rfl rfl rfl (awp_mono _ h ?_))
 rintro _ σ h
 refine z4 ?_; iterate 3 refine zp ?_
 refine LsplitJ 7 (decide (a1 = (⟨#[47]⟩ : ByteArray))) decide_eq_true_iff h (fun fr σ => ∃ (u28 : Bool), FrLe [(3, .pointer a3), (71, .bool u28)] fr ∧ j10_ztree_Tree_lay B ro a3 Q u28 σ) ?_ ?_ ?_
 ·intro h e2 hk2; refine zy e2 ?_; obtain ⟨p29, hc, h⟩ := h
  refine Lypb (V_nil rfl (by rw [← hc]; rfl)) rfl rfl rfl rfl e2 ?_
  refine Lypb (V_fld rfl underlying133 rfl ty30 (by decide) rfl) rfl rfl rfl rfl e2 ?_
  obtain ⟨u30, hc, h⟩ := h
  refine Lyb rfl rfl rfl rfl e2 (X_ld rfl underlying30 rfl rfl hc ?_)
  refine Lypb (V_lenL rfl rfl underlying30 rfl rfl) rfl rfl rfl rfl e2 ?_
  refine zy e2 ?_; refine zk e2 ?_; exact hk2 _ _ ⟨_, FL, h⟩
 ·intro h e2 hk2; iterate 6 refine zn e2 ?_
  refine zk e2 ?_; exact hk2 _ _ ⟨_, FL, h⟩
 rintro fr σ ⟨u28, hl, h⟩; unfold j10_ztree_Tree_lay at h; refine Lfr hl ?_
 refine zp ?_; refine LsplitJ 7 u28 Iff.rfl h (fun fr σ => ∃ (u31 : Bool), FrLe [(3, .pointer a3), (79, .bool u31)] fr ∧ j12_ztree_Tree_lay B ro a3 Q u31 σ) ?_ ?_ ?_
 ·intro h e10 hk10; refine zy e10 ?_; obtain ⟨p32, hc, h⟩ := h
  refine Lypb (V_nil rfl (by rw [← hc]; rfl)) rfl rfl rfl rfl e10 ?_
  refine Lypb (V_fld rfl underlying133 rfl ty32 (by decide) rfl) rfl rfl rfl rfl e10 ?_
  refine Lypb (V_fld rfl underlying32 rfl ty3 (by decide) rfl) rfl rfl rfl rfl e10 ?_
  obtain ⟨u33, hc, h⟩ := h
  refine Lyb rfl rfl rfl rfl e10 (X_ld rfl underlying3 rfl rfl hc ?_)
  refine zy e10 ?_; refine zk e10 ?_; exact hk10 _ _ ⟨_, FL, h⟩
 ·intro h e10 hk10; iterate 6 refine zn e10 ?_
  refine zk e10 ?_; exact hk10 _ _ ⟨_, FL, h⟩
 rintro fr σ ⟨u31, hl, h⟩; unfold j12_ztree_Tree_lay at h; refine Lfr hl ?_
 refine zp ?_; refine LsplitJ 7 u31 Iff.rfl h (fun fr σ => ∃ (u34 : Bool), FrLe [(87, .bool u34)] fr ∧ j14_ztree_Tree_lay B ro Q u34 σ) ?_ ?_ ?_
 ·intro h e18 hk18; refine zy e18 ?_; obtain ⟨p35, hc, h⟩ := h
  refine Lypb (V_nil rfl (by rw [← hc]; rfl)) rfl rfl rfl rfl e18 ?_
  refine Lypb (V_fld rfl underlying133 rfl ty32 (by decide) rfl) rfl rfl rfl rfl e18 ?_
  refine Lypb (V_fld rfl underlying32 rfl ty3 (by decide) rfl) rfl rfl rfl rfl e18 ?_
  obtain ⟨u36, hc, h⟩ := h
  refine Lyb rfl rfl rfl rfl e18 (X_ld rfl underlying3 rfl rfl hc ?_)
  refine zy e18 ?_; refine zk e18 ?_; exact hk18 _ _ ⟨_, FL, h⟩
 ·intro h e18 hk18; iterate 6 refine zn e18 ?_
  refine zk e18 ?_; exact hk18 _ _ ⟨_, FL, h⟩
 rintro fr σ ⟨u34, hl, h⟩; unfold j14_ztree_Tree_lay at h; refine Lfr hl ?_
 refine zp ?_; refine z2 ?_; refine AW.ret ?_; refine blockR (thenR ?_); exact bR1 results80 rfl ⟨_, rfl, h⟩
def j1_ztree_Tree_Owned (B : World) (ro : AH) (Q : Sl → AH → Prop) (u0 : Sl) (σ : AH) : Prop :=
 Q u0 σ
def j7_ztree_Tree_Owned (B : World) (ro : AH) (a0 : Option Addr) (a1 : Sl) (u0 : Sl) (u1 : Int) (Q : Sl → AH → Prop) (Y4 : (Sl × Int) → AH → Prop) (u2 : Sl) (σ : AH) : Prop :=
 Y4 (u2, i64.wrap (u1 + 1)) σ
def j16_ztree_Tree_Owned (B : World) (ro : AH) (a0 : Option Addr) (a1 : Sl) (u0 : Sl) (u1 : Sl) (u2 : Int) (u3 : ByteArray) (Q : Sl → AH → Prop) (Y4 : (Sl × Int) → AH → Prop) (u4 : Bool) (σ : AH) : Prop :=
 if u4 = true then
 nw ro σ (.cells #[.string u3] 9) fun u5 σ =>
 awp prog ro (Builtin.append_ #[25, 25] 25 #[Sl.v u0, Sl.v (⟨some ⟨u5, 0, none⟩, 1, 1⟩ : Sl)]) (fun v σ => ∃ (u6 : Sl), v = Sl.v u6 ∧
  j7_ztree_Tree_Owned B ro a0 a1 u1 u2 Q Y4 u6 σ) σ
 else
 j7_ztree_Tree_Owned B ro a0 a1 u1 u2 Q Y4 u0 σ
def l4_ztree_Tree_Owned (B : World) (ro : AH) (a0 : Option Addr) (a1 : Sl) (u0 : Sl) (Q : Sl → AH → Prop) : (Sl × Int) → AH → ((Sl × Int) → AH → Prop) → Prop := fun ⟨u1, u2⟩ σ Y4 =>
 if u2 < (u0.len : Int) then
 ∃ p3, u0.a = some p3 ∧ (0 : Int) ≤ u2 ∧ u2 < (u0.len : Int) ∧
 ∃ u4, acell ro σ (p3.add (Int.toNat u2 * 1)) = some (.string u4) ∧
 ∃ p5, a0 = some p5 ∧
 ∃ u6, acell ro σ p5 = some (.map u6) ∧
 awp prog ro (Instr.lookup 126 (.map u6) (.string u4) false) (fun v σ =>
  (∃ (u7 : Option Addr), v = .pointer u7 ∧
  ∃ p8, u7 = some p8 ∧
  ∃ u9, acell ro σ (p8.add 2) = some (.int .i64 u9) ∧
  if ¬ (u9 = 0) then
   c_slices_Contains_int_int B ro a1 u9 σ fun u10 σ =>
   j16_ztree_Tree_Owned B ro a0 a1 u1 u0 u2 u4 Q Y4 u10 σ
  else
  j16_ztree_Tree_Owned B ro a0 a1 u1 u0 u2 u4 Q Y4 false σ)) σ
 else
 j1_ztree_Tree_Owned B ro Q u1 σ
def f_ztree_Tree_Owned (B : World) (ro : AH) (a0 : Option Addr) (a1 : Sl) (σ : AH) (Q : Sl → AH → Prop) : Prop :=
 c_ztree_Tree_paths B ro a0 σ fun u0 σ =>
 lfpD (l4_ztree_Tree_Owned B ro a0 a1 u0 Q ) ((⟨none, 0, 0⟩ : Sl), 0) σ
theorem ztree_Tree_Owned_ok {a0 : Option Addr} {a1 : Sl} {Q : Sl → AH → Prop} (h : Sep ro σ → f_ztree_Tree_Owned B ro a0 a1 σ Q) : c_ztree_Tree_Owned B ro a0 a1 σ Q := by
 refine zb h func87 ntmps87 fun h => ?_; unfold f_ztree_Tree_Owned at h; refine z3 ?_; refine zp ?_; refine z4 ?_; refine zp ?_; refine z2 ?_; refine AW.seqJ (fun fr σ => ∃ (u0 : Sl), FrLe [(5, Sl.v u0)] fr ∧ j1_ztree_Tree_Owned B ro Q u0 σ) ?_ ?_
 ·rintro fr σ ⟨u0, hl, h⟩; refine AW.weaken ?_ hl (HLe.refl _)
  unfold j1_ztree_Tree_Owned at h; refine z3 ?_; iterate 2 refine zp ?_
  refine z2 ?_; refine AW.ret ?_; exact bR1 results87 rfl ⟨_, rfl, h⟩
 refine z3 ?_; refine zp ?_; refine zc func57 h ?_; rintro v σ ⟨u1, rfl, h⟩; refine zm (V_lenL rfl rfl underlying25 rfl rfl) ?_; refine zp ?_; refine z2 (AW.block ?_)
 refine ARound.loop (fr' := [(0, .pointer a0), (1, Sl.v a1), (10, Sl.v u1), (11, .int .i64 (u1.len : Int)), (5, Sl.v (⟨none, 0, 0⟩ : Sl)), (12, .int .i64 0)]) ?_ FL
 refine h (fun ⟨u2, u3⟩ σ => ARound _ _ _ _ _ _ [(0, .pointer a0), (1, Sl.v a1), (10, Sl.v u1), (11, .int .i64 (u1.len : Int)), (5, Sl.v u2), (12, .int .i64 u3)] σ) ?_
 rintro ⟨u2, u3⟩ σ Y4 hY4 h
 show AW _ _ _ _ _ _ _ _
 unfold l4_ztree_Tree_Owned at h; dsimp only at h; refine z3 ?_; refine zp ?_; refine z2 (AW.seq ?_)
 refine zi h (fun h => ?_) fun h => ?_
 rotate_left
 ·refine AW.exit ?_; refine thenE (thenE ?_); refine blockE ?_
  refine thenN ?_; exact ⟨_, FL, h⟩
 refine AW.skip ?_; refine thenN ?_; refine AW.seqJ (fun fr σ => ∃ (u4 : Sl), FrLe [(0, .pointer a0), (1, Sl.v a1), (10, Sl.v u1), (11, .int .i64 (u1.len : Int)), (12, .int .i64 u3), (5, Sl.v u4)] fr ∧ j7_ztree_Tree_Owned B ro a0 a1 u1 u3 Q Y4 u4 σ) ?_ ?_
 ·rintro fr σ ⟨u4, hl, h⟩; refine AW.weaken ?_ hl (HLe.refl _)
  unfold j7_ztree_Tree_Owned at h; refine AW.reg ?_; iterate 2 refine zp ?_
  refine z2 ?_; refine ARound.head (fr' := [(0, .pointer a0), (1, Sl.v a1), (10, Sl.v u1), (11, .int .i64 (u1.len : Int)), (5, Sl.v u4), (12, .int .i64 (i64.wrap (u3 + 1)))]) ?_ FL
  exact hY4 _ _ h
 refine AW.block (z3 ?_); obtain ⟨p5, ha, h0, h1, h⟩ := h
 refine zm (V_ixA rfl underlying25 ty9 (ixL rfl ha) rfl h0 h1) ?_; refine zL underlying9 h fun u6 h => ?_; refine zp ?_; refine z4 ?_; refine zp ?_; refine zN h fun p7 h => ?_; refine zf underlying128 ty126 ?_; refine zL underlying126 h fun u8 h => ?_; refine zp ?_; refine zl (X_lkp rfl rfl rfl (awp_mono _ h ?_))
 rintro v σ ⟨u9, rfl, h⟩; refine zN h fun p10 h => ?_; refine zf underlying133 ty32 ?_; refine zf underlying32 ty3 ?_; refine zL underlying3 h fun u11 h => ?_; refine zp ?_; refine z4 ?_; iterate 3 refine zp ?_
 refine LsplitJ 4 (!(decide (u11 = 0))) (bnot_iff decide_eq_true_iff) h (fun fr σ => ∃ (u12 : Bool), FrLe [(0, .pointer a0), (1, Sl.v a1), (5, Sl.v u2), (7, .string u6), (10, Sl.v u1), (11, .int .i64 (u1.len : Int)), (12, .int .i64 u3), (32, .bool u12)] fr ∧ j16_ztree_Tree_Owned B ro a0 a1 u2 u1 u3 u6 Q Y4 u12 σ) ?_ ?_ ?_
 ·intro h e2 hk2; refine zy e2 ?_; refine zy e2 ?_; refine Lyb rfl rfl rfl rfl e2 (X_call rfl func121 rfl rfl rfl (ACalls.mono h ?_))
  rintro v σ ⟨u13, rfl, h⟩; refine zk e2 ?_; exact hk2 _ _ ⟨_, FL, h⟩
 ·intro h e2 hk2; iterate 3 refine zn e2 ?_
  refine zk e2 ?_; exact hk2 _ _ ⟨_, FL, h⟩
 rintro fr σ ⟨u12, hl, h⟩; unfold j16_ztree_Tree_Owned at h; refine Lfr hl ?_
 refine z2 ?_; refine zj h (fun h => ?_) fun h => ?_
 rotate_left
 ·refine AW.skip ?_; refine blockN (thenN ?_); exact ⟨_, FL, h⟩
 refine AW.reg ?_; iterate 2 refine zp ?_
 refine zA (A_bsl (vs := [(0, .string u6)]) (cs := #[.string u6]) rfl underlying25 ty9 (by decide) rfl rfl) h fun u14 h => ?_; refine zl (X_bi (s := Builtin.append_ #[25, 25] 25 #[Sl.v u2, Sl.v (⟨some ⟨u14, 0, none⟩, 1, 1⟩ : Sl)]) rfl rfl (fun _ => rfl) (awp_mono _ h ?_))
 rintro v σ ⟨u15, rfl, h⟩; refine zp ?_; refine Lnil (blockN (thenN ?_)); exact ⟨_, FL, h⟩
end G
namespace Zt
open Go SL G Pa
variable {B : World} {ro σ σ' : AH} {tag tag' : Nat → Nat}
structure Nd where
 ver : Int
 ctr : Int
 own : Int
 kids : Int
 data : Str
abbrev St := List (Str × Nd)
abbrev vI (x : Int) : Value := .int .i64 x
abbrev vU (c : UInt8) : Value := .int .u8 c.toNat
abbrev ptr (b : Nat) : Value := .pointer (some ⟨b, 0, none⟩)
def NodeAt (tag : Nat → Nat) (σ : AH) (r b : Nat) (n : Nd) : Prop :=
 ∃ s : Sl, Row tag σ (r + 64 * (b + 2)) 133 ⟨some ⟨b, 0, none⟩, 5, 5⟩ [vI n.ver, vI n.ctr, vI n.own, vI n.kids, Sl.v s] ∧ Row tag σ 6 5 s (n.data.map vU)
def kv : St → List Nat → KV
 | (p, _) :: st, b :: bs => (p, ptr b) :: kv st bs
 | _, _ => []
structure TreeAt (tag : Nat → Nat) (σ : AH) (r T M : Nat) (bs : List Nat) (st : St) : Prop where
 keys : (st.map (·.1)).Nodup
 len : bs.length = st.length
 nd : bs.Nodup
 cell : Row tag σ r 128 ⟨some ⟨T, 0, none⟩, 1, 1⟩ [.map (some M)]
 map : MapIs tag σ (r + 64) M (kv st bs)
 nodes : ∀ (i b : Nat) (p : Str × Nd), bs[i]? = some b → st[i]? = some p → NodeAt tag σ r b p.2
def TreeIs (tag : Nat → Nat) (σ : AH) (r T : Nat) (st : St) : Prop := ∃ M bs, TreeAt tag σ r T M bs st
theorem NodeAt.keep {R : List Nat} {r b : Nat} {n : Nd} (h : NodeAt tag σ r b n) (k : Step R ro tag σ tag' σ') (h1 : r + 64 * (b + 2) ∉ R := by simp) (h2 : 6 ∉ R := by simp) : NodeAt tag' σ' r b n := by
 obtain ⟨s, a, c⟩ := h
 exact ⟨s, a.keep k h1, c.keep k h2⟩
theorem TreeAt.keepC {c r T M : Nat} {bs : List Nat} {st : St} (h : TreeAt tag σ r T M bs st) (k : StepC c ro tag σ tag' σ') (hr : r % 64 ≠ c := by decide) (h6 : c ≠ 6 := by decide) : TreeAt tag' σ' r T M bs st :=
 ⟨h.keys, h.len, h.nd, h.cell.keepC k hr, h.map.keepC k (by omega), fun i b p hb hp => by
  obtain ⟨s, a, e⟩ := h.nodes i b p hb hp
  exact ⟨s, a.keepC k (by omega), e.keepC k (by omega)⟩⟩
theorem TreeAt.keep {R : List Nat} {r T M : Nat} {bs : List Nat} {st : St} (h : TreeAt tag σ r T M bs st) (k : Step R ro tag σ tag' σ') (hR : ∀ x ∈ R, x % 64 ≠ r % 64 ∧ x ≠ 6 := by simp) : TreeAt tag' σ' r T M bs st :=
 ⟨h.keys, h.len, h.nd, h.cell.keep k fun m => (hR _ m).1 rfl, h.map.keep k fun m => (hR _ m).1 (by omega), fun i b p hb hp => (h.nodes i b p hb hp).keep k (fun m => (hR _ m).1 (by omega)) fun m => (hR _ m).2 rfl⟩
theorem TreeIs.keep {R : List Nat} {r T : Nat} {st : St} (h : TreeIs tag σ r T st) (k : Step R ro tag σ tag' σ') (hR : ∀ x ∈ R, x % 64 ≠ r % 64 ∧ x ≠ 6 := by simp) : TreeIs tag' σ' r T st := by
 obtain ⟨M, bs, h⟩ := h
 exact ⟨M, bs, h.keep k hR⟩
theorem kv_lookup : ∀ (st : St) (bs : List Nat) (u : Str), bs.length = st.length →
  (st.lookup u = none ∧ (kv st bs).lookup u = none) ∨ ∃ (i b : Nat) (n : Nd), bs[i]? = some b ∧ st[i]? = some (u, n) ∧ st.lookup u = some n ∧ (kv st bs).lookup u = some (ptr b) := by
 intro st
 induction st with
 | nil => intro bs u h; exact .inl ⟨rfl, by cases bs <;> rfl⟩
 | cons p st ih =>
  intro bs u h
  cases bs with
  | nil => simp at h
  | cons b bs =>
   obtain ⟨p, n⟩ := p
   simp only [List.length_cons, Nat.add_right_cancel_iff] at h
   unfold kv
   rw [List.lookup_cons, List.lookup_cons]
   by_cases c : u = p
   ·subst c
    rw [show (u == u) = true by simp]
    exact .inr ⟨0, b, n, rfl, rfl, rfl, rfl⟩
   ·rw [show (u == p) = false by simpa using c]
    rcases ih bs u h with h' | ⟨i, b', n', h1, h2, h3, h4⟩
    ·exact .inl h'
    ·exact .inr ⟨i + 1, b', n', by simpa using h1, by simpa using h2, h3, h4⟩
def modN (st : St) (u : Str) (f : Nd → Nd) : St := st.map fun p => if p.1 = u then (p.1, f p.2) else p
theorem modN_set {st : St} (hk : (st.map (·.1)).Nodup) {i : Nat} {u : Str} {n : Nd} (h : st[i]? = some (u, n)) (f : Nd → Nd) : modN st u f = st.set i (u, f n) := by
 unfold modN
 apply List.ext_getElem?
 intro j
 rw [List.getElem?_map, List.getElem?_set]
 have hil : i < st.length := by
  rcases Nat.lt_or_ge i st.length with h' | h'
  ·exact h'
  ·rw [List.getElem?_eq_none h'] at h; cases h
 by_cases c : i = j
 ·subst c; rw [if_pos rfl, if_pos hil, h]; simp
 ·rw [if_neg c]
  cases e : st[j]? with
  | none => rfl
  | some p =>
   have hne : p.1 ≠ u := by
    intro hp
    apply c
    have hjl : j < st.length := by
     rcases Nat.lt_or_ge j st.length with h' | h'
     ·exact h'
     ·rw [List.getElem?_eq_none h'] at e; cases e
    refine (List.getElem_inj (h₀ := by simpa using hil) (h₁ := by simpa using hjl) hk).1 ?_
    rw [List.getElem?_eq_getElem hil] at h
    rw [List.getElem?_eq_getElem hjl] at e
    simp only [List.getElem_map]
    rw [Option.some.inj h, Option.some.inj e, hp]
   simp [hne]
theorem kv_set : ∀ (st : St) (bs : List Nat) (i : Nat) (u : Str) (n n' : Nd), st[i]? = some (u, n) → kv (st.set i (u, n')) bs = kv st bs := by
 intro st
 induction st with
 | nil => intro bs i u n n' h; cases h
 | cons p st ih =>
  intro bs i u n n' h
  cases bs with
  | nil => cases i <;> simp [kv]
  | cons b bs =>
   cases i with
   | zero => cases h; rfl
   | succ i => simp only [List.set_cons_succ]; unfold kv; rw [ih bs i u n n' (by simpa using h)]
theorem keys_set {st : St} {i : Nat} {u : Str} {n n' : Nd} (h : st[i]? = some (u, n)) : (st.set i (u, n')).map (·.1) = st.map (·.1) := by
 rw [List.map_set]
 apply List.ext_getElem?
 intro j
 rw [List.getElem?_set, List.getElem?_map]
 by_cases c : i = j
 ·subst c; rw [h]; simp
  rcases Nat.lt_or_ge i st.length with h' | h'
  ·exact h'
  ·rw [List.getElem?_eq_none h'] at h; cases h
 ·rw [if_neg c]
theorem idx_inj {α : Type} {l : List α} (hn : l.Nodup) {i j : Nat} {x : α} (hi : l[i]? = some x) (hj : l[j]? = some x) : i = j := by
 have hil : i < l.length := by
  rcases Nat.lt_or_ge i l.length with h' | h'
  ·exact h'
  ·rw [List.getElem?_eq_none h'] at hi; cases hi
 have hjl : j < l.length := by
  rcases Nat.lt_or_ge j l.length with h' | h'
  ·exact h'
  ·rw [List.getElem?_eq_none h'] at hj; cases hj
 rw [List.getElem?_eq_getElem hil] at hi
 rw [List.getElem?_eq_getElem hjl] at hj
 exact (List.getElem_inj hn).1 (by rw [Option.some.inj hi, Option.some.inj hj])
theorem TreeAt.write {r T i b M : Nat} {st : St} {bs : List Nat} {u : Str} {n n' : Nd} (h : TreeAt tag σ r T M bs st) (hr : r < 64) (hr6 : r ≠ 6) (hb : bs[i]? = some b) (hp : st[i]? = some (u, n)) (k : Step [r + 64 * (b + 2)] ro tag σ tag' σ') (hnew : NodeAt tag' σ' r b n') : TreeAt tag' σ' r T M bs (st.set i (u, n')) := by
 refine ⟨by rw [keys_set hp]; exact h.keys, by simpa using h.len, h.nd, h.cell.keep k, ?_, fun j c p hc hp' => ?_⟩
 ·rw [kv_set _ _ _ _ _ _ hp]; exact h.map.keep k (by simp; omega)
 ·rw [List.getElem?_set] at hp'
  by_cases e : i = j
  ·subst e
   rw [hb] at hc; cases hc
   rw [if_pos rfl] at hp'
   split at hp'
   ·cases hp'; exact hnew
   ·cases hp'
  ·rw [if_neg e] at hp'
   refine (h.nodes j c p hc hp').keep k ?_ ?_
   ·simp
    intro h'
    have : b = c := by omega
    subst this
    exact e (idx_inj h.nd hb hc)
   ·simp; omega
theorem u126 : prog.underlying 126 = some (.map 9 129) := by kernel_rfl
theorem u9 : prog.underlying 9 = some .string := by kernel_rfl
theorem u30 : prog.underlying 30 = some (.slice 5) := by kernel_rfl
theorem ty129 : TyIs prog 129 (.pointer none) 1 8 := TyIs.of (by kernel_rfl)
theorem clone_ok {s : Sl} {l : List Value} {Q : Sl → AH → Prop} (h : SL.Read ro σ s l) (hs : SL.Sep ro σ) (hl : l.length ≤ 140737488355328) (hv : ∀ v ∈ l, storable v = true) (hQ : ∀ s' tag' σ', (∀ R, Step R ro tag σ tag' σ') → Row tag' σ' 6 5 s' l → Q s' σ') : c_bytes_Clone B ro s σ Q := by
 refine bytes_Clone_ok fun _ => ?_
 unfold f_bytes_Clone
 by_cases h0 : s.a = none
 ·rw [if_pos h0]
  rw [h.2.1 h0] at hQ
  exact hQ _ tag σ (fun _ => Step.refl hs) (Row.nil 6 5)
 ·rw [if_neg h0]
  refine nw_cells (tag := tag) 6 hs fun b tag1 σ1 st1 r1 => ?_
  have h' : SL.Read ro σ1 s l := h.step (st1 [])
  refine awp_appendN r1 (st1 []).sep h' u30 ty5 rfl hv (by simp; omega) (by decide) fun s' tag2 σ2 st2 r2 => ?_
  exact ⟨s', rfl, hQ s' tag2 σ2 (fun R => (st1 R).trans (st2 R (.inl rfl))) r2⟩
def St.new : St := [([47], ⟨0, 0, 0, 0, []⟩)]
theorem new_ok {Q : Option Addr → AH → Prop} (r : Nat) (hr : r < 64) (hr6 : r ≠ 6) (hQ : ∀ T tag' σ', StepC r ro tag σ tag' σ' → TreeIs tag' σ' r T St.new → Q (some ⟨T, 0, none⟩) σ') : c_ztree_New B ro σ Q := by
 refine ztree_New_ok fun hs => ?_
 unfold f_ztree_New
 refine nw_map (tag := tag) (r + 64) hs fun M tag1 σ1 st1 m1 => ?_
 refine nw_cellsF (tag := tag1) (fun b => r + 64 * (b + 2)) (st1 []).sep fun b tag2 σ2 _ _ st2 r2 => ?_
 have m2 := m1.keep (st2 [])
 refine awp_update_str (k := [47]) m2 (st2 []).sep u126 u9 fun σ3 st3 m3 => ?_
 have r3 := r2.keep st3 (by simp; omega)
 refine nw_cells (tag := tag2) r st3.sep fun T tag4 σ4 st4 r4 => ?_
 have st : StepC r ro tag σ tag4 σ4 := ((st1 []).c (by simp)).trans (((st2 []).c (by simp)).trans ((st3.c (by simp; omega)).trans ((st4 []).c (by simp))))
 refine hQ T tag4 σ4 st ⟨M, [b], by simp [St.new], rfl, by simp, r4, m3.keep (st4 []), fun i c p hc hp => ?_⟩
 rcases i with _ | i
 ·cases hc; cases hp
  exact ⟨⟨none, 0, 0⟩, r3.keep (st4 []), Row.nil 6 5⟩
 ·cases hc
theorem find_ok {r T M : Nat} {bs : List Nat} {st : St} {p : ByteArray} {Q : Option Addr → Int → AH → Prop} (g : Glob ro) (h : TreeAt tag σ r T M bs st) (hs : SL.Sep ro σ) (hbad : parts (L p) = none → Q none 20 σ)
  (hmiss : ∀ ps, parts (L p) = some ps → st.lookup (L p) = none → Q none 70 σ) (hhit : ∀ (ps : List Str) (i b : Nat) (n : Nd), parts (L p) = some ps → bs[i]? = some b → st[i]? = some (L p, n) → st.lookup (L p) = some n → Q (some ⟨b, 0, none⟩) 0 σ) :
  c_ztree_Tree_find B ro (some ⟨T, 0, none⟩) p σ Q := by
 refine ztree_Tree_find_ok fun _ => ?_
 unfold f_ztree_Tree_find
 refine check_ok g ?_
 by_cases h1 : Pa.chk (L p) = 0
 ·rw [if_neg (by simpa using h1)]
  obtain ⟨ps, hps⟩ := chk_zero.1 h1
  refine ⟨_, rfl, _, Row.cell1 h.cell hs, ?_⟩
  rw [← S_L p]
  refine awp_lookup_str h.map hs u126 u9 ty129 ?_
  rcases kv_lookup st bs (L p) h.len with ⟨a, e⟩ | ⟨i, b, n, a1, a2, a3, e⟩
  ·rw [e]
   exact ⟨none, rfl, by rw [if_pos rfl]; exact hmiss ps hps a⟩
  ·rw [e]
   exact ⟨some ⟨b, 0, none⟩, rfl, by rw [if_neg (by simp)]; exact hhit ps i b n hps a1 a2 a3⟩
 ·rw [if_pos (by simpa using h1)]
  have e : parts (L p) = none := by
   cases h : parts (L p) with
   | none => rfl
   | some ps => exact absurd (chk_zero.2 ⟨ps, h⟩) h1
  have : Pa.chk (L p) = 20 := by unfold Pa.chk; rw [e]; rfl
  rw [this]; exact hbad e
theorem zcheck_ok {r T M : Nat} {bs : List Nat} {st : St} {p : ByteArray} {v : Int} {Q : Option Addr → Int → AH → Prop} (g : Glob ro) (h : TreeAt tag σ r T M bs st) (hs : SL.Sep ro σ) (hbad : (L p = [47] ∨ parts (L p) = none) → Q none 20 σ)
  (hmiss : L p ≠ [47] → ∀ ps, parts (L p) = some ps → st.lookup (L p) = none → Q none 70 σ)
  (hver : L p ≠ [47] → ∀ (ps : List Str) (n : Nd), parts (L p) = some ps → st.lookup (L p) = some n → v ≠ -1 → v ≠ n.ver → Q none 72 σ)
  (hhit : L p ≠ [47] → ∀ (ps : List Str) (i b : Nat) (n : Nd), parts (L p) = some ps → bs[i]? = some b → st[i]? = some (L p, n) → st.lookup (L p) = some n → (v = -1 ∨ v = n.ver) → Q (some ⟨b, 0, none⟩) 0 σ) :
  c_ztree_Tree_check B ro (some ⟨T, 0, none⟩) p v σ Q := by
 refine ztree_Tree_check_ok fun _ => ?_
 unfold f_ztree_Tree_check
 by_cases h1 : p = ⟨#[47]⟩
 ·rw [if_pos h1]
  exact hbad (.inl (by rw [h1]; rfl))
 ·rw [if_neg h1]
  have hne : L p ≠ [47] := fun h => h1 (L_inj h)
  refine find_ok g h hs (fun hb => ?_) (fun ps hps hl => ?_) (fun ps i b n hps hb hp hl => ?_)
  ·rw [if_neg (by simp)]
   unfold j3_ztree_Tree_check
   rw [if_neg (by simp)]
   exact hbad (.inr hb)
  ·rw [if_neg (by simp)]
   unfold j3_ztree_Tree_check
   rw [if_neg (by simp)]
   exact hmiss hne ps hps hl
  ·by_cases h2 : v = -1
   ·rw [if_neg (by simp [h2])]
    unfold j3_ztree_Tree_check
    rw [if_neg (by simp)]
    exact hhit hne ps i b n hps hb hp hl (.inl h2)
   ·rw [if_pos ⟨rfl, h2⟩]
    obtain ⟨s, hn, _⟩ := h.nodes i b _ hb hp
    obtain ⟨q, hq, hg⟩ := hn.ptr hs (by simp)
    cases hq
    refine ⟨_, rfl, n.ver, hg 0 _ rfl, ?_⟩
    unfold j3_ztree_Tree_check
    by_cases h3 : v = n.ver
    ·rw [if_neg (by simp [h3])]
     exact hhit hne ps i b n hps hb hp hl (.inr h3)
    ·rw [if_pos (by simp [h3])]
     exact hver hne ps n hps hl h2 h3
def bump (n : Nd) : Nd := { n with ctr := i64.wrap (n.ctr + 1), kids := i64.wrap (n.kids + 1) }
def create (st : St) (p : Str) (data : Str) (o : Int) (seq : Bool) : St × Str × Int :=
 match parent p with
 | none => (st, [], 20)
 | some u =>
  if 256 < data.length then (st, [], 75)
  else if o < 0 ∨ 4611686018427387903 < o then (st, [], 10)
  else match st.lookup u with
   | none => (st, [], 70)
   | some n =>
    if n.own ≠ 0 then (st, [], 74)
    else if 9999999999 < n.ctr then (st, [], 76)
    else match (if seq then suffix p n.ctr else some p) with
     | none => (st, [], 20)
     | some q => if (st.lookup q).isSome then (st, [], 71) else (modN (st ++ [(q, ⟨0, 0, o, 0, data⟩)]) u bump, q, 0)
theorem kv_app : ∀ (st : St) (bs : List Nat) (q : Str) (n : Nd) (b : Nat), bs.length = st.length → kv (st ++ [(q, n)]) (bs ++ [b]) = kv st bs ++ [(q, ptr b)] := by
 intro st
 induction st with
 | nil => intro bs q n b h; have : bs = [] := List.eq_nil_of_length_eq_zero h; subst this; rfl
 | cons p st ih =>
  intro bs q n b h
  cases bs with
  | nil => simp at h
  | cons c bs =>
   obtain ⟨p, m⟩ := p
   simp only [List.cons_append]
   unfold kv
   rw [ih bs q n b (by simpa using h)]; rfl
theorem kv_mput : ∀ (st : St) (bs : List Nat) (q : Str) (b : Nat), bs.length = st.length → st.lookup q = none → mput (kv st bs) q (ptr b) = kv st bs ++ [(q, ptr b)] := by
 intro st
 induction st with
 | nil => intro bs q b h _; cases bs <;> rfl
 | cons p st ih =>
  intro bs q b h hl
  cases bs with
  | nil => simp at h
  | cons c bs =>
   obtain ⟨p, m⟩ := p
   rw [List.lookup_cons] at hl
   by_cases e : q = p
   ·subst e; simp at hl
   ·rw [show (q == p) = false by simpa using e] at hl
    unfold kv mput
    rw [if_neg e, ih bs q b (by simpa using h) hl]; rfl
theorem lookup_none {st : St} {q : Str} (h : st.lookup q = none) : q ∉ st.map (·.1) := by
 intro hm
 obtain ⟨p, hp, e⟩ := List.mem_map.1 hm
 rw [List.lookup_eq_none_iff] at h
 have := h p hp
 simp at this
 exact this e.symm
theorem TreeAt.add {r T M b : Nat} {bs : List Nat} {st : St} {q : Str} {n : Nd} {tag2 : Nat → Nat} {σ2 : AH} (h : TreeAt tag σ r T M bs st) (hr : r < 64) (hr6 : r ≠ 6) (hq : st.lookup q = none) (hb : σ b = none) (k : Step [r + 64] ro tag σ tag2 σ2) (hnew : NodeAt tag2 σ2 r b n) (hm : MapIs tag2 σ2 (r + 64) M (mput (kv st bs) q (ptr b))) : TreeAt tag2 σ2 r T M (bs ++ [b]) (st ++ [(q, n)]) := by
 have hnb : b ∉ bs := fun hm' => by
  obtain ⟨i, hi, e⟩ := List.getElem_of_mem hm'
  have hb' : bs[i]? = some b := by rw [List.getElem?_eq_getElem hi, e]
  have hil : i < st.length := by rw [← h.len]; exact hi
  obtain ⟨s, hn, _⟩ := h.nodes i b _ hb' (List.getElem?_eq_getElem hil)
  obtain ⟨_, o, ho⟩ := hn.tagOf
  rw [hb] at ho; cases ho
 refine ⟨?_, by simp [h.len], ?_, h.cell.keep k, ?_, fun i c p hc hp => ?_⟩
 ·rw [List.map_append, List.nodup_append]
  refine ⟨h.keys, by simp, ?_⟩
  intro x hx y hy
  simp at hy
  intro e
  exact lookup_none hq (by rw [← hy, ← e]; exact hx)
 ·rw [List.nodup_append]
  refine ⟨h.nd, by simp, ?_⟩
  intro x hx y hy
  simp at hy
  intro e
  exact hnb (by rw [← hy, ← e]; exact hx)
 ·rw [kv_app _ _ _ _ _ h.len, ← kv_mput _ _ _ _ h.len hq]; exact hm
 ·rcases Nat.lt_or_ge i bs.length with hi | hi
  ·rw [List.getElem?_append_left hi] at hc
   rw [List.getElem?_append_left (by rw [← h.len]; exact hi)] at hp
   exact (h.nodes i c p hc hp).keep k (by simp; omega) (by simp)
  ·rw [List.getElem?_append_right hi] at hc
   rw [List.getElem?_append_right (by rw [← h.len]; exact hi), ← h.len] at hp
   cases hd : i - bs.length with
   | zero =>
    rw [hd] at hc hp
    cases hc; cases hp
    exact hnew
   | succ j => rw [hd] at hc; cases hc
theorem st_last {q : Str} {n : Nd} (st : St) {i : Nat} {u : Str} {m : Nd} (h : st[i]? = some (u, m)) : (st ++ [(q, n)])[i]? = some (u, m) := by
 have hil : i < st.length := by
  rcases Nat.lt_or_ge i st.length with h' | h'
  ·exact h'
  ·rw [List.getElem?_eq_none h'] at h; cases h
 rw [List.getElem?_append_left hil]; exact h
theorem app_idx {bs : List Nat} {c i b : Nat} (h : bs[i]? = some b) : (bs ++ [c])[i]? = some b := by
 have hil : i < bs.length := by
  rcases Nat.lt_or_ge i bs.length with h' | h'
  ·exact h'
  ·rw [List.getElem?_eq_none h'] at h; cases h
 rw [List.getElem?_append_left hil]; exact h
theorem create_ok {r T : Nat} {st : St} {p : ByteArray} {s : Sl} {d : Str} {o : Int} {seq : Bool} {Q : ByteArray → Int → AH → Prop} (g : Glob ro) (hr : r < 64) (hr6 : r ≠ 6) (hr0 : r ≠ 0) (h : TreeIs tag σ r T st) (hd : SL.Read ro σ s (d.map vU)) (hdl : d.length < 4611686018427387904)
  (hQ : ∀ tag' σ', StepC r ro tag σ tag' σ' → TreeIs tag' σ' r T (create st (L p) d o seq).1 → Q (S (create st (L p) d o seq).2.1) (create st (L p) d o seq).2.2 σ') : c_ztree_Tree_Create B ro (some ⟨T, 0, none⟩) p s o seq σ Q := by
 refine ztree_Tree_Create_ok fun hs => ?_
 unfold f_ztree_Tree_Create
 have hsl : s.len = d.length := by rw [hd.1, List.length_map]
 have same : ∀ e : Int, create st (L p) d o seq = (st, [], e) → Q (⟨#[]⟩ : ByteArray) e σ := fun e he => by
  have := hQ tag σ (StepC.refl hs) (by rw [he]; exact h)
  rw [he] at this; exact this
 refine parent_ok g (fun hp => ?_) (fun u hu => ?_)
 ·rw [if_pos (by decide)]
  exact same 20 (by unfold create; rw [hp])
 ·rw [if_neg (by decide)]
  by_cases h1 : 256 < (s.len : Int)
  ·rw [if_pos h1]
   exact same 75 (by unfold create; rw [hu]; simp only; rw [if_pos (by omega)])
  ·rw [if_neg h1]
   have h1' : ¬ 256 < d.length := by omega
   by_cases h2 : o < 0 ∨ 4611686018427387903 < o
   ·rw [if_pos h2]
    exact same 10 (by unfold create; rw [hu]; simp only; rw [if_neg h1', if_pos h2])
   ·rw [if_neg h2]
    obtain ⟨M, bs, hA⟩ := h
    refine ⟨_, rfl, _, Row.cell1 hA.cell hs, ?_⟩
    refine awp_lookup_str hA.map hs u126 u9 ty129 ?_
    rcases kv_lookup st bs u hA.len with ⟨a, e⟩ | ⟨i, b, n, a1, a2, a3, e⟩
    ·rw [e]
     refine ⟨none, rfl, ?_⟩
     rw [if_pos rfl]
     exact same 70 (by unfold create; rw [hu]; simp only; rw [if_neg h1', if_neg h2, a])
    ·rw [e]
     refine ⟨some ⟨b, 0, none⟩, rfl, ?_⟩
     rw [if_neg (by simp)]
     obtain ⟨ds, hn, hdat⟩ := hA.nodes i b _ a1 a2
     obtain ⟨q, hq, hg⟩ := hn.ptr hs (by simp)
     cases hq
     refine ⟨_, rfl, n.own, hg 2 _ rfl, ?_⟩
     by_cases h3 : n.own = 0
     ·rw [if_neg (by simp [h3])]
      refine ⟨_, rfl, n.ctr, hg 1 _ rfl, ?_⟩
      by_cases h4 : 9999999999 < n.ctr
      ·rw [if_pos h4]
       exact same 76 (by unfold create; rw [hu]; simp only; rw [if_neg h1', if_neg h2, a3]; simp only; rw [if_neg (by simp [h3]), if_pos h4])
      ·rw [if_neg h4]
       have hcr : create st (L p) d o seq = match (if seq then suffix (L p) n.ctr else some (L p)) with
         | none => (st, [], 20)
         | some q => if (st.lookup q).isSome then (st, [], 71) else (modN (st ++ [(q, ⟨0, 0, o, 0, d⟩)]) u bump, q, 0) := by
        unfold create; rw [hu]; simp only; rw [if_neg h1', if_neg h2, a3]; simp only; rw [if_neg (by simp [h3]), if_neg h4]; try rfl
       have main : ∀ q : Str, (if seq then suffix (L p) n.ctr else some (L p)) = some q → j10_ztree_Tree_Create B ro (some ⟨T, 0, none⟩) s o (some ⟨b, 0, none⟩) Q (S q) σ := by
        intro q hq
        rw [hq] at hcr
        simp only at hcr
        unfold j10_ztree_Tree_Create
        refine ⟨_, rfl, _, Row.cell1 hA.cell hs, ?_⟩
        refine awp_lookup_str hA.map hs u126 u9 ty129 ?_
        rcases kv_lookup st bs q hA.len with ⟨c, e2⟩ | ⟨i2, b2, n2, c1, c2, c3, e2⟩
        ·rw [e2]
         refine ⟨none, rfl, ?_⟩
         rw [if_neg (by simp)]
         rw [c] at hcr
         simp only [Option.isSome_none, Bool.false_eq_true, if_false] at hcr
         refine lent_block T ?_
         obtain ⟨hT0, hTo⟩ := hA.cell.tagOf
         have hs1 : SL.Sep (join ro (SL.one σ T)) (SL.del σ T) := hs.lent
         refine ⟨_, rfl, some M, hA.cell.lend hs (i := 0) rfl, ?_⟩
         refine clone_ok (tag := tag) (hd.lent T) hs1 (by simp; omega) (by simp [storable]) fun s' tag1 σ1 st1 r1 => ?_
         refine nw_cellsF (tag := tag1) (fun b => r + 64 * (b + 2)) (st1 []).sep fun c' tag2 σ2 hro2 hc2 st2 r2 => ?_
         have hM1 := ((hA.map.del (by rw [hT0]; omega)).keep (st1 [])).keep (st2 [])
         refine awp_update_str hM1 (st2 []).sep u126 u9 fun σ3 st3 m3 => ?_
         intro hdj
         have stA : Step [r + 64] (join ro (SL.one σ T)) tag (SL.del σ T) tag2 σ3 := (st1 _).trans ((st2 _).trans st3)
         have stB := stA.back hs hdj hTo
         have m4 := m3.back (r' := tag T) hdj hTo
         have hnode : NodeAt (setTag tag2 T (tag T)) (join (SL.one σ T) σ3) r c' ⟨0, 0, o, 0, d⟩ :=
          ⟨s', (r2.keep st3 (by simp; omega)).back hdj hTo, ((r1.keep (st2 [])).keep st3).back hdj hTo⟩
         have hfree : σ c' = none := by
          cases hcc : σ c' with
          | none => rfl
          | some x =>
           have hne : c' ≠ T := fun e => by
            have := (join_none hro2).2
            unfold SL.one at this
            rw [if_pos e, hcc] at this; cases this
           obtain ⟨_, x', hx'⟩ := (st1 []).old c' x (by unfold SL.del; rw [if_neg hne]; exact hcc)
           rw [hc2] at hx'; cases hx'
         have hA2 := hA.add (n := ⟨0, 0, o, 0, d⟩) hr hr6 c hfree stB hnode m4
         have b1 := app_idx (c := c') a1
         have b2 := st_last (q := q) (n := ⟨0, 0, o, 0, d⟩) st a2
         generalize setTag tag2 T (tag T) = tagx at *
         generalize join (SL.one σ T) σ3 = σx at *
         have hsx := stB.sep
         obtain ⟨d1, hn1, hd1⟩ := hA2.nodes i b _ b1 b2
         obtain ⟨q1, hq1, hg1⟩ := hn1.ptr hsx (by simp)
         cases hq1
         refine ⟨_, rfl, n.ctr, hg1 1 _ rfl, _, rfl, ?_⟩
         refine hn1.st (i := 1) hsx rfl (by simp) rfl fun σ4 st4 r4 => ?_
         have hA3 := hA2.write (n' := { n with ctr := i64.wrap (n.ctr + 1) }) hr hr6 b1 b2 st4 ⟨d1, r4, hd1.keep st4 (by simp; omega)⟩
         have b3 : ((st ++ [(q, (⟨0, 0, o, 0, d⟩ : Nd))]).set i (u, { n with ctr := i64.wrap (n.ctr + 1) }))[i]? = some (u, { n with ctr := i64.wrap (n.ctr + 1) }) := by
          rw [List.getElem?_set, if_pos rfl, if_pos]
          rcases Nat.lt_or_ge i (st ++ [(q, (⟨0, 0, o, 0, d⟩ : Nd))]).length with h' | h'
          ·exact h'
          ·rw [List.getElem?_eq_none h'] at b2; cases b2
         obtain ⟨q2, hq2, hg2⟩ := r4.ptr st4.sep (by simp)
         cases hq2
         refine ⟨_, rfl, n.kids, hg2 3 _ rfl, _, rfl, ?_⟩
         refine r4.st (i := 3) st4.sep rfl (by simp) rfl fun σ5 st5 r5 => ?_
         have hA4 := hA3.write (n' := bump n) hr hr6 b1 b3 st5 ⟨d1, r5, (hd1.keep st4 (by simp; omega)).keep st5 (by simp; omega)⟩
         rw [List.set_set] at hA4
         rw [← modN_set hA2.keys b2 bump] at hA4
         have hres := hQ tagx σ5 ((stB.c (by simp; omega)).trans ((st4.c (by simp; omega)).trans (st5.c (by simp; omega)))) (by rw [hcr]; exact ⟨M, _, hA4⟩)
         rw [hcr] at hres
         exact hres
        ·rw [e2]
         refine ⟨some ⟨b2, 0, none⟩, rfl, ?_⟩
         rw [if_pos (by simp)]
         refine same 71 ?_
         rw [hcr, c3]; rfl
       by_cases h5 : seq = true
       ·rw [if_pos h5]
        refine ⟨_, rfl, n.ctr, hg 1 _ rfl, ?_⟩
        refine suffix_ok g (fun hnone => ?_) (fun q hq => ?_)
        ·rw [if_pos (by decide)]
         refine same 20 ?_
         rw [hcr, if_pos h5, hnone]
        ·rw [if_neg (by decide)]
         exact main q (by rw [if_pos h5]; exact hq)
       ·rw [if_neg h5]
        have := main (L p) (by rw [if_neg h5])
        rw [S_L] at this; exact this
     ·rw [if_pos (by simp [h3])]
      exact same 74 (by unfold create; rw [hu]; simp only; rw [if_neg h1', if_neg h2, a3]; simp only; rw [if_pos (by simp [h3])])
end Zt
end Go.Proofs.YthfpmipeejjogaaGreatDoor
