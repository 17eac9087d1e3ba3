/- GZt -/
import Derived.Test.YthfpmipeejjogaaGreatDoorXG
/- Functions as predicate transformers, and the proofs that the code does what they tell: printed by wip/tools/gen.py. -/
namespace Go.Proofs.YthfpmipeejjogaaGreatDoor.G
open Go Go.Proofs.YthfpmipeejjogaaGreatDoor.SL
set_option linter.unusedVariables false
set_option linter.unusedSimpArgs false

def f_ztree_Tree_Paths (B : World) (ro : AH) (a0 : Option Addr) (a1 : ByteArray) (σ : AH) (Q : Sl → Int → AH → Prop) : Prop :=
 nw ro σ (.cells #[.string a1] 9) fun x3_1 σ =>
 ∃ (x7_2 : ByteArray), acell ro σ ⟨x3_1, 0, none⟩ = some (.string x7_2) ∧
 c_path_Check B ro x7_2 σ fun x8_3 σ =>
 if ¬ (x8_3 = 0) then
  Q (⟨none, 0, 0⟩ : Sl) x8_3 σ
 else
 c_ztree_Tree_paths B ro a0 σ fun x13_4 σ =>
 c_slices_DeleteFunc_string_string B ro x13_4 (.func (.func 58) #[] #[.pointer (some ⟨x3_1, 0, none⟩)]) σ fun x15_5 σ =>
 Q x15_5 0 σ

set_option maxRecDepth 100000 in
set_option maxHeartbeats 4000000 in
theorem ztree_Tree_Paths_ok {B : World} {ro : AH} {a0 : Option Addr} {a1 : ByteArray} {σ : AH} {Q : Sl → Int → AH → Prop} (h : Sep ro σ → f_ztree_Tree_Paths B ro a0 a1 σ Q) : c_ztree_Tree_Paths B ro a0 a1 σ Q := by
  refine ACalls.of_sep fun hsep => ?_
  replace h := h hsep
  refine ACalls.of_body (args := [.pointer a0, .string a1]) Tryz.func15 rfl (by rw [Tryz.ntmps15]; simp) ?_
  rw [Tryz.ntmps15]
  unfold f_ztree_Tree_Paths at h
  refine AW.seq ?_
  refine AW.reg ?_
  refine Ls rfl rfl (X_new (A_box rfl rfl) fun x3_1 g1 g2 => ?_)
  replace h := h x3_1 g1 g2
  refine Lp (V_asg rfl rfl) rfl rfl ?_
  refine Lp (V_asg rfl rfl) rfl rfl ?_
  refine Lnil ?_
  refine thenN ?_
  refine AW.seq ?_
  refine AW.seq ?_
  refine AW.reg ?_
  obtain ⟨x7_2, hc, h⟩ := h
  refine Ls rfl rfl (X_ld rfl Tryz.underlying9 rfl rfl hc ?_)
  refine Ls rfl rfl (X_call rfl Tryz.func55 rfl rfl rfl (ACalls.mono h ?_))
  rintro v σ ⟨x8_3, rfl, h⟩
  refine Lp (V_asg rfl rfl) rfl rfl ?_
  refine Lnil ?_
  refine thenN ?_
  refine AW.seq ?_
  refine AW.reg ?_
  refine Lp (V_move rfl rfl) rfl rfl ?_
  refine Lp (V_neq rfl rfl rfl) rfl rfl ?_
  refine Lnil ?_
  refine thenN ?_
  refine AW.iff rfl (bnot_iff decide_eq_true_iff) h (fun h => ?_) (fun h => ?_)
  · refine AW.seq ?_
    refine AW.reg ?_
    refine Lp (V_move rfl rfl) rfl rfl ?_
    refine Lp (V_asg rfl rfl) rfl rfl ?_
    refine Lp (V_asg rfl rfl) rfl rfl ?_
    refine Lnil ?_
    refine thenN ?_
    refine AW.ret ?_
    refine thenR ?_
    exact bR2 Tryz.results15 rfl rfl ⟨_, _, rfl, h⟩
  refine AW.skip ?_
  refine thenN ?_
  refine AW.seq ?_
  refine AW.reg ?_
  refine Lp (V_move rfl rfl) rfl rfl ?_
  refine Ls rfl rfl (X_call rfl Tryz.func57 rfl rfl rfl (ACalls.mono h ?_))
  rintro v σ ⟨x13_4, rfl, h⟩
  refine Lp (V_mkf rfl rfl rfl) rfl rfl ?_
  refine Ls rfl rfl (X_call rfl Tryz.func56 rfl rfl rfl (ACalls.mono h ?_))
  rintro v σ ⟨x15_5, rfl, h⟩
  refine Lp (V_asg rfl rfl) rfl rfl ?_
  refine Lp (V_asg rfl rfl) rfl rfl ?_
  refine Lnil ?_
  refine thenN ?_
  refine AW.ret ?_
  exact bR2 Tryz.results15 rfl rfl ⟨_, _, rfl, h⟩

def f_ztree_Tree_Size (B : World) (ro : AH) (a0 : Option Addr) (σ : AH) (Q : Int → AH → Prop) : Prop :=
 ∃ p4_1 : Addr, a0 = some p4_1 ∧
 ∃ (x6_2 : Option Nat), acell ro σ p4_1 = some (.map x6_2) ∧
 awp Tryz.prog ro (Builtin.len_ #[126] 3 #[.map x6_2]) (fun v σ => ∃ (x7_3 : Int), v = .int .i64 x7_3 ∧
  Q x7_3 σ) σ

set_option maxRecDepth 100000 in
set_option maxHeartbeats 4000000 in
theorem ztree_Tree_Size_ok {B : World} {ro : AH} {a0 : Option Addr} {σ : AH} {Q : Int → AH → Prop} (h : Sep ro σ → f_ztree_Tree_Size B ro a0 σ Q) : c_ztree_Tree_Size B ro a0 σ Q := by
  refine ACalls.of_sep fun hsep => ?_
  replace h := h hsep
  refine ACalls.of_body (args := [.pointer a0]) Tryz.func16 rfl (by rw [Tryz.ntmps16]; simp) ?_
  rw [Tryz.ntmps16]
  unfold f_ztree_Tree_Size at h
  refine AW.seq ?_
  refine AW.reg ?_
  refine Lp (V_asg rfl rfl) rfl rfl ?_
  refine Lnil ?_
  refine thenN ?_
  refine AW.seq ?_
  refine AW.reg ?_
  refine Lp (V_move rfl rfl) rfl rfl ?_
  obtain ⟨p4_1, hc, h⟩ := h
  refine Lp (V_nil rfl (by rw [← hc]; rfl)) rfl rfl ?_
  refine Lp (V_fld rfl Tryz.underlying128 rfl ty126 (by decide) rfl) rfl rfl ?_
  obtain ⟨x6_2, hc, h⟩ := h
  refine Ls rfl rfl (X_ld rfl Tryz.underlying126 rfl rfl hc ?_)
  refine Ls rfl rfl (X_bi (s := Builtin.len_ #[126] 3 #[.map x6_2]) rfl rfl (fun _ => rfl) (awp_mono _ h ?_))
  rintro v σ ⟨x7_3, rfl, h⟩
  refine Lp (V_asg rfl rfl) rfl rfl ?_
  refine Lnil ?_
  refine thenN ?_
  refine AW.ret ?_
  exact bR1 Tryz.results16 rfl ⟨_, rfl, h⟩

def f_ztree_Tree_Get (B : World) (ro : AH) (a0 : Option Addr) (a1 : ByteArray) (σ : AH) (Q : Sl → Int → Int → Int → Int → Int → AH → Prop) : Prop :=
 nw ro σ (.cells #[.int .i64 0, .int .i64 0, .int .i64 0, .int .i64 0] 32) fun x5_1 σ =>
 c_ztree_Tree_find B ro a0 a1 σ fun x12_2 x12_3 σ =>
 if ¬ (x12_3 = 0) then
  stN ⟨x5_1, 0, none⟩ (fun σ =>
   ∃ (x5_4a : Int) (x5_4b : Int) (x5_4c : Int) (x5_4d : Int), cellsAt ro σ ⟨x5_1, 0, none⟩ 0 [.int .i64 x5_4a, .int .i64 x5_4b, .int .i64 x5_4c, .int .i64 x5_4d] ∧
   Q (⟨none, 0, 0⟩ : Sl) x5_4a x5_4b x5_4c x5_4d x12_3 σ) [.int .i64 0, .int .i64 0, .int .i64 0, .int .i64 0] 0 σ
 else
 lent σ fun ψ σ =>
  ∃ p20_5 : Addr, x12_2 = some p20_5 ∧
  ∃ p25_6 : Addr, x12_2 = some p25_6 ∧
  ∃ (x27_7a : Int) (x27_7b : Int) (x27_7c : Int) (x27_7d : Int), cellsAt (join ro ψ) (fun _ => none) p25_6 0 [.int .i64 x27_7a, .int .i64 x27_7b, .int .i64 x27_7c, .int .i64 x27_7d] ∧
  ∃ (x22_8 : Sl), acell (join ro ψ) σ (p20_5.add 4) = some (Sl.v x22_8) ∧
  c_bytes_Clone B (join ro ψ) x22_8 σ fun x23_9 σ =>
  stN ⟨x5_1, 0, none⟩ (fun σ =>
   (Disj ψ σ → (fun σ => 
    ∃ (x5_10a : Int) (x5_10b : Int) (x5_10c : Int) (x5_10d : Int), cellsAt ro σ ⟨x5_1, 0, none⟩ 0 [.int .i64 x5_10a, .int .i64 x5_10b, .int .i64 x5_10c, .int .i64 x5_10d] ∧
    Q x23_9 x5_10a x5_10b x5_10c x5_10d 0 σ) (join ψ σ))) [.int .i64 x27_7a, .int .i64 x27_7b, .int .i64 x27_7c, .int .i64 x27_7d] 0 σ

set_option maxRecDepth 100000 in
set_option maxHeartbeats 4000000 in
theorem ztree_Tree_Get_ok {B : World} {ro : AH} {a0 : Option Addr} {a1 : ByteArray} {σ : AH} {Q : Sl → Int → Int → Int → Int → Int → AH → Prop} (h : Sep ro σ → f_ztree_Tree_Get B ro a0 a1 σ Q) : c_ztree_Tree_Get B ro a0 a1 σ Q := by
  refine ACalls.of_sep fun hsep => ?_
  replace h := h hsep
  refine ACalls.of_body (args := [.pointer a0, .string a1]) Tryz.func17 rfl (by rw [Tryz.ntmps17]; simp) ?_
  rw [Tryz.ntmps17]
  unfold f_ztree_Tree_Get at h
  refine AW.seq ?_
  refine AW.reg ?_
  refine Lp (V_asg rfl rfl) rfl rfl ?_
  refine Ls rfl rfl (X_new (A_alloc rfl ty32) fun x5_1 g1 g2 => ?_)
  replace h := h x5_1 g1 g2
  refine Lp (V_asg rfl rfl) rfl rfl ?_
  refine Lnil ?_
  refine thenN ?_
  refine AW.seq ?_
  refine AW.reg ?_
  refine Lp (V_move rfl rfl) rfl rfl ?_
  refine Lp (V_move rfl rfl) rfl rfl ?_
  refine Ls rfl rfl (X_call rfl Tryz.func60 rfl rfl rfl (ACalls.mono h ?_))
  rintro v σ ⟨x12_2, x12_3, rfl, h⟩
  refine Lp (V_move rfl rfl) rfl rfl ?_
  refine Lp (V_ext rfl rfl rfl) rfl rfl ?_
  refine Lp (V_ext rfl rfl rfl) rfl rfl ?_
  refine Lp (V_asg rfl rfl) rfl rfl ?_
  refine Lp (V_asg rfl rfl) rfl rfl ?_
  refine Lnil ?_
  refine thenN ?_
  refine AW.seq ?_
  refine AW.seq ?_
  refine AW.reg ?_
  refine Lp (V_move rfl rfl) rfl rfl ?_
  refine Lp (V_neq rfl rfl rfl) rfl rfl ?_
  refine Lnil ?_
  refine thenN ?_
  refine AW.iff rfl (bnot_iff decide_eq_true_iff) h (fun h => ?_) (fun h => ?_)
  · refine AW.seq ?_
    refine AW.reg ?_
    refine Lp (V_bld (vs := []) (cs := #[.int .i64 0, .int .i64 0, .int .i64 0, .int .i64 0]) rfl Tryz.underlying32 ty32 pl32 rfl rfl) rfl rfl ?_
    refine Lp (V_move rfl rfl) rfl rfl ?_
    refine Lp (V_asg rfl rfl) rfl rfl ?_
    refine Ls rfl rfl (X_st rfl ty32 rfl rfl rfl rfl (stN_mono h fun σ h => ?_))
    refine Lp (V_asg rfl rfl) rfl rfl ?_
    refine Lnil ?_
    refine thenN ?_
    refine AW.ret ?_
    refine thenR ?_
    obtain ⟨x5_4a, x5_4b, x5_4c, x5_4d, hc1, h⟩ := h
    exact bRM Tryz.results17 (rCons (rTmp rfl) (rCons (rAgg rfl Tryz.underlying32 rfl ty32 hc1) (rCons (rTmp rfl) rNil))) ⟨_, _, _, _, _, _, rfl, h⟩
  refine AW.skip ?_
  refine thenN ?_
  refine AW.seq ?_
  refine AW.drawnL (fun i => ([0, 0, 0, 3, 2, 0, 0, 0, 0, 0, 2, 0] : List Nat).getD i 2) [] [0, 1, 2, 5, 6, 7, 8, 3, 4, 9, 10, 11] Tryz.mixed h (by decide +kernel) ?_
  clear h
  intro ψ σ h
  refine Dp rfl rfl rfl rfl (V_move rfl rfl) ?_
  obtain ⟨p20_5, hc, h⟩ := h
  refine Dp rfl rfl rfl rfl (V_nil rfl (by rw [← hc]; rfl)) ?_
  refine Dp rfl rfl rfl rfl (V_fld rfl Tryz.underlying133 rfl ty30 (by decide) rfl) ?_
  refine Dp rfl rfl rfl rfl (V_move rfl rfl) ?_
  obtain ⟨p25_6, hc, h⟩ := h
  refine Dp rfl rfl rfl rfl (V_nil rfl (by rw [← hc]; rfl)) ?_
  refine Dp rfl rfl rfl rfl (V_fld rfl Tryz.underlying133 rfl ty32 (by decide) rfl) ?_
  obtain ⟨x27_7a, x27_7b, x27_7c, x27_7d, hc, h⟩ := h
  refine Dp rfl rfl rfl rfl (V_lda rfl Tryz.underlying32 rfl ty32 rfl hc) ?_
  obtain ⟨x22_8, hc, h⟩ := h
  refine Dr rfl rfl rfl rfl (R_ld rfl Tryz.underlying30 rfl rfl hc) ?_
  refine Dg rfl rfl rfl rfl (X_call rfl Tryz.func61 rfl rfl rfl (ACalls.mono h ?_))
  rintro v σ ⟨x23_9, rfl, h⟩
  refine Dp rfl rfl rfl rfl (V_asg rfl rfl) ?_
  refine Dg rfl rfl rfl rfl (X_st rfl ty32 rfl rfl rfl rfl (stN_mono h fun σ h => ?_))
  refine Dp rfl rfl rfl rfl (V_asg rfl rfl) ?_
  refine ⟨_, FrEq.refl _, fun hdj => ?_⟩
  replace h := h hdj
  refine thenN ?_
  refine AW.ret ?_
  obtain ⟨x5_10a, x5_10b, x5_10c, x5_10d, hc1, h⟩ := h
  exact bRM Tryz.results17 (rCons (rTmp rfl) (rCons (rAgg rfl Tryz.underlying32 rfl ty32 hc1) (rCons (rTmp rfl) rNil))) ⟨_, _, _, _, _, _, rfl, h⟩

def j2_ztree_Tree_Encode (B : World) (ro : AH) (x9_1 : Option Addr) (Q : Sl → AH → Prop) (σ : AH) : Prop :=
 c_wire_Writer_Out B ro x9_1 σ fun x55_3 x55_4 σ =>
 Q x55_3 σ

def l6_ztree_Tree_Encode (B : World) (ro : AH) (a0 : Option Addr) (x9_1 : Option Addr) (x11_5 : Sl) (Q : Sl → AH → Prop) : (Int) → AH → ((Int) → AH → Prop) → Prop := fun x13_7 σ Y6 =>
 if x13_7 < (x11_5.len : Int) then
  ∃ p15_8 : Addr, x11_5.a = some p15_8 ∧ (0 : Int) ≤ x13_7 ∧ x13_7 < (x11_5.len : Int) ∧
  ∃ (x16_9 : ByteArray), acell ro σ (p15_8.add (Int.toNat x13_7 * 1)) = some (.string x16_9) ∧
  ∃ p18_10 : Addr, a0 = some p18_10 ∧
  ∃ (x20_11 : Option Nat), acell ro σ p18_10 = some (.map x20_11) ∧
  awp Tryz.prog ro (Instr.lookup 126 (.map x20_11) (.string x16_9) false) (fun v σ =>
   (∃ (x22_12 : Option Addr), v = .pointer x22_12 ∧
    nw ro σ (.cells #[.string x16_9] 9) fun x25_13 σ =>
    c_wire_Writer_Texts B ro x9_1 (⟨some ⟨x25_13, 0, none⟩, 1, 1⟩ : Sl) σ fun σ =>
    ∃ p29_14 : Addr, x22_12 = some p29_14 ∧
    ∃ (x31_15 : Sl), acell ro σ (p29_14.add 4) = some (Sl.v x31_15) ∧
    nw ro σ (.cells #[Sl.v x31_15] 30) fun x32_16 σ =>
    c_wire_Writer_Blobs B ro x9_1 (⟨some ⟨x32_16, 0, none⟩, 1, 1⟩ : Sl) σ fun σ =>
    ∃ p36_17 : Addr, x22_12 = some p36_17 ∧
    ∃ p41_18 : Addr, x22_12 = some p41_18 ∧
    ∃ p46_19 : Addr, x22_12 = some p46_19 ∧
    ∃ (x39_20 : Int), acell ro σ p36_17 = some (.int .i64 x39_20) ∧
    ∃ (x44_21 : Int), acell ro σ (p41_18.add 1) = some (.int .i64 x44_21) ∧
    ∃ (x49_22 : Int), acell ro σ (p46_19.add 2) = some (.int .i64 x49_22) ∧
    nw ro σ (.cells #[.int .i64 x39_20, .int .i64 x44_21, .int .i64 x49_22] 3) fun x50_23 σ =>
    c_wire_Writer_Nums B ro x9_1 (⟨some ⟨x50_23, 0, none⟩, 3, 3⟩ : Sl) σ fun σ =>
    Y6 (IntKind.i64.wrap (x13_7 + 1)) σ)) σ
 else
 j2_ztree_Tree_Encode B ro x9_1 Q σ

def f_ztree_Tree_Encode (B : World) (ro : AH) (a0 : Option Addr) (σ : AH) (Q : Sl → AH → Prop) : Prop :=
 c_wire_NewWriter B ro σ fun x9_1 σ =>
 c_ztree_Tree_paths B ro a0 σ fun x11_5 σ =>
 lfpD (l6_ztree_Tree_Encode B ro a0 x9_1 x11_5 Q ) (0) σ

set_option maxRecDepth 100000 in
set_option maxHeartbeats 4000000 in
theorem ztree_Tree_Encode_ok {B : World} {ro : AH} {a0 : Option Addr} {σ : AH} {Q : Sl → AH → Prop} (h : Sep ro σ → f_ztree_Tree_Encode B ro a0 σ Q) : c_ztree_Tree_Encode B ro a0 σ Q := by
  refine ACalls.of_sep fun hsep => ?_
  replace h := h hsep
  refine ACalls.of_body (args := [.pointer a0]) Tryz.func21 rfl (by rw [Tryz.ntmps21]; simp) ?_
  rw [Tryz.ntmps21]
  unfold f_ztree_Tree_Encode at h
  refine AW.seq ?_
  refine AW.reg ?_
  refine Lp (V_asg rfl rfl) rfl rfl ?_
  refine Lnil ?_
  refine thenN ?_
  refine AW.seq ?_
  refine AW.reg ?_
  refine Ls rfl rfl (X_call rfl Tryz.func66 rfl rfl rfl (ACalls.mono h ?_))
  rintro v σ ⟨x9_1, rfl, h⟩
  refine Lp (V_asg rfl rfl) rfl rfl ?_
  refine Lnil ?_
  refine thenN ?_
  refine AW.seqJ (fun fr σ => FrLe [(3, .pointer x9_1)] fr ∧ j2_ztree_Tree_Encode B ro x9_1 Q σ) ?_ ?_
  · rintro fr σ ⟨hl, h⟩
    refine AW.weaken ?_ hl (HLe.refl _)
    unfold j2_ztree_Tree_Encode at h
    refine AW.seq ?_
    refine AW.reg ?_
    refine Lp (V_move rfl rfl) rfl rfl ?_
    refine Ls rfl rfl (X_call rfl Tryz.func70 rfl rfl rfl (ACalls.mono h ?_))
    rintro v σ ⟨x55_3, x55_4, rfl, h⟩
    refine Lp (V_move rfl rfl) rfl rfl ?_
    refine Lp (V_ext rfl rfl rfl) rfl rfl ?_
    refine Lp (V_ext rfl rfl rfl) rfl rfl ?_
    refine Lp (V_asg rfl rfl) rfl rfl ?_
    refine Lp (V_asg rfl rfl) rfl rfl ?_
    refine Lnil ?_
    refine thenN ?_
    refine AW.seq ?_
    refine AW.reg ?_
    refine Lp (V_move rfl rfl) rfl rfl ?_
    refine Lp (V_asg rfl rfl) rfl rfl ?_
    refine Lnil ?_
    refine thenN ?_
    refine AW.ret ?_
    exact bR1 Tryz.results21 rfl ⟨_, rfl, h⟩
  refine AW.seq ?_
  refine AW.reg ?_
  refine Lp (V_move rfl rfl) rfl rfl ?_
  refine Ls rfl rfl (X_call rfl Tryz.func57 rfl rfl rfl (ACalls.mono h ?_))
  rintro v σ ⟨x11_5, rfl, h⟩
  refine Lp (V_lenL rfl rfl Tryz.underlying25 rfl rfl) rfl rfl ?_
  refine Lp (V_move rfl rfl) rfl rfl ?_
  refine Lnil ?_
  refine thenN ?_
  refine AW.block ?_
  refine ARound.loop (fr' := [(0, .pointer a0), (3, .pointer x9_1), (11, Sl.v x11_5), (12, .int .i64 (x11_5.len : Int)), (13, .int .i64 0)]) ?_ (FrLe.cons rfl (FrLe.cons rfl (FrLe.cons rfl (FrLe.cons rfl (FrLe.cons rfl (FrLe.nil _))))))
  refine h (fun x13_7 σ => ARound _ _ _ _ _ _ [(0, .pointer a0), (3, .pointer x9_1), (11, Sl.v x11_5), (12, .int .i64 (x11_5.len : Int)), (13, .int .i64 x13_7)] σ) ?_
  rintro x13_7 σ Y6 hY6 h
  show AW _ _ _ _ _ _ _ _
  unfold l6_ztree_Tree_Encode at h
  refine AW.seq ?_
  refine AW.reg ?_
  refine Lp (V_lss rfl rfl rfl) rfl rfl ?_
  refine Lnil ?_
  refine thenN ?_
  refine AW.seq ?_
  refine AW.iff rfl decide_eq_true_iff h (fun h => ?_) (fun h => ?_)
  rotate_left
  · refine AW.exit ?_
    refine thenE ?_
    refine thenE ?_
    refine blockE ?_
    refine thenN ?_
    exact ⟨(FrLe.cons rfl (FrLe.nil _)), h⟩
  refine AW.skip ?_
  refine thenN ?_
  refine AW.seq ?_
  refine AW.block ?_
  refine AW.seq ?_
  refine AW.reg ?_
  obtain ⟨p15_8, ha, h0, h1, h⟩ := h
  refine Lp (V_ixA rfl Tryz.underlying25 ty9 (ixL rfl ha) rfl h0 h1) rfl rfl ?_
  obtain ⟨x16_9, hc, h⟩ := h
  refine Ls rfl rfl (X_ld rfl Tryz.underlying9 rfl rfl hc ?_)
  refine Lp (V_asg rfl rfl) rfl rfl ?_
  refine Lnil ?_
  refine thenN ?_
  refine AW.seq ?_
  refine AW.reg ?_
  refine Lp (V_move rfl rfl) rfl rfl ?_
  obtain ⟨p18_10, hc, h⟩ := h
  refine Lp (V_nil rfl (by rw [← hc]; rfl)) rfl rfl ?_
  refine Lp (V_fld rfl Tryz.underlying128 rfl ty126 (by decide) rfl) rfl rfl ?_
  obtain ⟨x20_11, hc, h⟩ := h
  refine Ls rfl rfl (X_ld rfl Tryz.underlying126 rfl rfl hc ?_)
  refine Lp (V_move rfl rfl) rfl rfl ?_
  refine Ls rfl rfl (X_lkp rfl rfl rfl (awp_mono _ h ?_))
  rintro v σ ⟨x22_12, rfl, h⟩
  refine Lp (V_asg rfl rfl) rfl rfl ?_
  refine Lnil ?_
  refine thenN ?_
  refine AW.seq ?_
  refine AW.reg ?_
  refine Lp (V_move rfl rfl) rfl rfl ?_
  refine Lp (V_move rfl rfl) rfl rfl ?_
  refine Ls rfl rfl (X_new (A_bsl (vs := [(0, .string x16_9)]) (cs := #[.string x16_9]) rfl Tryz.underlying25 ty9 (by decide) rfl rfl) fun x25_13 g1 g2 => ?_)
  replace h := h x25_13 g1 g2
  refine Ls rfl rfl (X_call rfl Tryz.func67 rfl rfl rfl (ACalls.mono h ?_))
  rintro v σ ⟨rfl, h⟩
  refine Lnil ?_
  refine thenN ?_
  refine AW.seq ?_
  refine AW.reg ?_
  refine Lp (V_move rfl rfl) rfl rfl ?_
  refine Lp (V_move rfl rfl) rfl rfl ?_
  obtain ⟨p29_14, hc, h⟩ := h
  refine Lp (V_nil rfl (by rw [← hc]; rfl)) rfl rfl ?_
  refine Lp (V_fld rfl Tryz.underlying133 rfl ty30 (by decide) rfl) rfl rfl ?_
  obtain ⟨x31_15, hc, h⟩ := h
  refine Ls rfl rfl (X_ld rfl Tryz.underlying30 rfl rfl hc ?_)
  refine Ls rfl rfl (X_new (A_bsl (vs := [(0, Sl.v x31_15)]) (cs := #[Sl.v x31_15]) rfl Tryz.underlying208 ty30 (by decide) rfl rfl) fun x32_16 g1 g2 => ?_)
  replace h := h x32_16 g1 g2
  refine Ls rfl rfl (X_call rfl Tryz.func68 rfl rfl rfl (ACalls.mono h ?_))
  rintro v σ ⟨rfl, h⟩
  refine Lnil ?_
  refine thenN ?_
  refine AW.drawn0 (fun i => ([0, 0, 0, 0, 0, 3, 0, 0, 0, 0, 3, 0, 0, 0, 0, 3, 1, 2] : List Nat).getD i 2) [(5, 16), (5, 17), (10, 16), (10, 17), (15, 16), (15, 17)] [0, 1, 2, 3, 4, 6, 7, 8, 9, 11, 12, 13, 14, 5, 10, 15, 16, 17] Tryz.mixed (by decide +kernel) ?_
  refine Dp rfl rfl rfl rfl (V_move rfl rfl) ?_
  refine Dp rfl rfl rfl rfl (V_move rfl rfl) ?_
  obtain ⟨p36_17, hc, h⟩ := h
  refine Dp rfl rfl rfl rfl (V_nil rfl (by rw [← hc]; rfl)) ?_
  refine Dp rfl rfl rfl rfl (V_fld rfl Tryz.underlying133 rfl ty32 (by decide) rfl) ?_
  refine Dp rfl rfl rfl rfl (V_fld rfl Tryz.underlying32 rfl ty3 (by decide) rfl) ?_
  refine Dp rfl rfl rfl rfl (V_move rfl rfl) ?_
  obtain ⟨p41_18, hc, h⟩ := h
  refine Dp rfl rfl rfl rfl (V_nil rfl (by rw [← hc]; rfl)) ?_
  refine Dp rfl rfl rfl rfl (V_fld rfl Tryz.underlying133 rfl ty32 (by decide) rfl) ?_
  refine Dp rfl rfl rfl rfl (V_fld rfl Tryz.underlying32 rfl ty3 (by decide) rfl) ?_
  refine Dp rfl rfl rfl rfl (V_move rfl rfl) ?_
  obtain ⟨p46_19, hc, h⟩ := h
  refine Dp rfl rfl rfl rfl (V_nil rfl (by rw [← hc]; rfl)) ?_
  refine Dp rfl rfl rfl rfl (V_fld rfl Tryz.underlying133 rfl ty32 (by decide) rfl) ?_
  refine Dp rfl rfl rfl rfl (V_fld rfl Tryz.underlying32 rfl ty3 (by decide) rfl) ?_
  obtain ⟨x39_20, hc, h⟩ := h
  refine Dr rfl rfl rfl rfl (R_ld rfl Tryz.underlying3 rfl rfl hc) ?_
  obtain ⟨x44_21, hc, h⟩ := h
  refine Dr rfl rfl rfl rfl (R_ld rfl Tryz.underlying3 rfl rfl hc) ?_
  obtain ⟨x49_22, hc, h⟩ := h
  refine Dr rfl rfl rfl rfl (R_ld rfl Tryz.underlying3 rfl rfl hc) ?_
  refine Da rfl rfl rfl rfl (A_bsl (vs := [(0, .int .i64 x39_20), (1, .int .i64 x44_21), (2, .int .i64 x49_22)]) (cs := #[.int .i64 x39_20, .int .i64 x44_21, .int .i64 x49_22]) rfl Tryz.underlying58 ty3 (by decide) rfl rfl) fun x50_23 g1 g2 => ?_
  replace h := h x50_23 g1 g2
  refine Dg rfl rfl rfl rfl (X_call rfl Tryz.func69 rfl rfl rfl (ACalls.mono h ?_))
  rintro v σ ⟨rfl, h⟩
  refine Dend ?_
  refine blockN ?_
  refine thenN ?_
  refine AW.reg ?_
  refine Lp (V_add rfl rfl rfl) rfl rfl ?_
  refine Lp (V_move rfl rfl) rfl rfl ?_
  refine Lnil ?_
  refine thenN ?_
  refine ARound.head (fr' := [(0, .pointer a0), (3, .pointer x9_1), (11, Sl.v x11_5), (12, .int .i64 (x11_5.len : Int)), (13, .int .i64 (IntKind.i64.wrap (x13_7 + 1)))]) ?_ (FrLe.cons rfl (FrLe.cons rfl (FrLe.cons rfl (FrLe.cons rfl (FrLe.cons rfl (FrLe.nil _))))))
  exact hY6 _ _ h

def j10_ztree_Tree_Create (B : World) (ro : AH) (a0 : Option Addr) (a2 : Sl) (a3 : Int) (x40_5 : Option Addr) (Q : ByteArray → Int → AH → Prop) (x1_11 : ByteArray) (σ : AH) : Prop :=
 ∃ p73_12 : Addr, a0 = some p73_12 ∧
 ∃ (x75_13 : Option Nat), acell ro σ p73_12 = some (.map x75_13) ∧
 awp Tryz.prog ro (Instr.lookup 126 (.map x75_13) (.string x1_11) false) (fun v σ =>
  (∃ (x77_14 : Option Addr), v = .pointer x77_14 ∧
   if ¬ (x77_14 = none) then
    Q (⟨#[]⟩ : ByteArray) 71 σ
   else
   lent σ fun ψ σ =>
    ∃ p80_15 : Addr, a0 = some p80_15 ∧
    ∃ (x82_16 : Option Nat), acell (join ro ψ) (fun _ => none) p80_15 = some (.map x82_16) ∧
    c_bytes_Clone B (join ro ψ) a2 σ fun x87_17 σ =>
    nw (join ro ψ) σ (.cells #[.int .i64 0, .int .i64 0, .int .i64 a3, .int .i64 0, Sl.v x87_17] 133) fun x89_18 σ =>
    awp Tryz.prog (join ro ψ) (Instr.mapUpdate 126 (.map x82_16) (.string x1_11) (.pointer (some ⟨x89_18, 0, none⟩))) (fun _ σ =>
     (Disj ψ σ → (fun σ => 
      ∃ p91_19 : Addr, x40_5 = some p91_19 ∧
      ∃ (x94_20 : Int), acell ro σ (p91_19.add 1) = some (.int .i64 x94_20) ∧
      ∃ p96_21 : Addr, x40_5 = some p96_21 ∧
      stN (p96_21.add 1) (fun σ =>
       ∃ p100_22 : Addr, x40_5 = some p100_22 ∧
       ∃ (x103_23 : Int), acell ro σ (p100_22.add 3) = some (.int .i64 x103_23) ∧
       ∃ p105_24 : Addr, x40_5 = some p105_24 ∧
       stN (p105_24.add 3) (fun σ =>
        Q x1_11 0 σ) [.int .i64 (IntKind.i64.wrap (x103_23 + 1))] 0 σ) [.int .i64 (IntKind.i64.wrap (x94_20 + 1))] 0 σ) (join ψ σ))) σ)) σ

def f_ztree_Tree_Create (B : World) (ro : AH) (a0 : Option Addr) (a1 : ByteArray) (a2 : Sl) (a3 : Int) (a4 : Bool) (σ : AH) (Q : ByteArray → Int → AH → Prop) : Prop :=
 c_path_Parent B ro a1 σ fun x17_1 x17_2 σ =>
 if ¬ (x17_2 = 0) then
  Q (⟨#[]⟩ : ByteArray) x17_2 σ
 else
 if 256 < (a2.len : Int) then
  Q (⟨#[]⟩ : ByteArray) 75 σ
 else
 if (a3 < 0) ∨ (4611686018427387903 < a3) then
  Q (⟨#[]⟩ : ByteArray) 10 σ
 else
 ∃ p36_3 : Addr, a0 = some p36_3 ∧
 ∃ (x38_4 : Option Nat), acell ro σ p36_3 = some (.map x38_4) ∧
 awp Tryz.prog ro (Instr.lookup 126 (.map x38_4) (.string x17_1) false) (fun v σ =>
  (∃ (x40_5 : Option Addr), v = .pointer x40_5 ∧
   if x40_5 = none then
    Q (⟨#[]⟩ : ByteArray) 70 σ
   else
   ∃ p46_6 : Addr, x40_5 = some p46_6 ∧
   ∃ (x49_7 : Int), acell ro σ (p46_6.add 2) = some (.int .i64 x49_7) ∧
   if ¬ (x49_7 = 0) then
    Q (⟨#[]⟩ : ByteArray) 74 σ
   else
   ∃ p53_8 : Addr, x40_5 = some p53_8 ∧
   ∃ (x56_9 : Int), acell ro σ (p53_8.add 1) = some (.int .i64 x56_9) ∧
   if 9999999999 < x56_9 then
    Q (⟨#[]⟩ : ByteArray) 76 σ
   else
   if a4 = true then
    ∃ p62_25 : Addr, x40_5 = some p62_25 ∧
    ∃ (x65_26 : Int), acell ro σ (p62_25.add 1) = some (.int .i64 x65_26) ∧
    c_path_Suffix B ro a1 x65_26 σ fun x66_27 x66_28 σ =>
    if ¬ (x66_28 = 0) then
     Q (⟨#[]⟩ : ByteArray) x66_28 σ
    else
    j10_ztree_Tree_Create B ro a0 a2 a3 x40_5 Q x66_27 σ
   else
   j10_ztree_Tree_Create B ro a0 a2 a3 x40_5 Q a1 σ)) σ

set_option maxRecDepth 100000 in
set_option maxHeartbeats 4000000 in
theorem ztree_Tree_Create_ok {B : World} {ro : AH} {a0 : Option Addr} {a1 : ByteArray} {a2 : Sl} {a3 : Int} {a4 : Bool} {σ : AH} {Q : ByteArray → Int → AH → Prop} (h : Sep ro σ → f_ztree_Tree_Create B ro a0 a1 a2 a3 a4 σ Q) : c_ztree_Tree_Create B ro a0 a1 a2 a3 a4 σ Q := by
  refine ACalls.of_sep fun hsep => ?_
  replace h := h hsep
  refine ACalls.of_body (args := [.pointer a0, .string a1, Sl.v a2, .int .i64 a3, .bool a4]) Tryz.func22 rfl (by rw [Tryz.ntmps22]; simp) ?_
  rw [Tryz.ntmps22]
  unfold f_ztree_Tree_Create at h
  refine AW.seq ?_
  refine AW.reg ?_
  refine Lp (V_asg rfl rfl) rfl rfl ?_
  refine Lp (V_asg rfl rfl) rfl rfl ?_
  refine Lnil ?_
  refine thenN ?_
  refine AW.seq ?_
  refine AW.reg ?_
  refine Lp (V_move rfl rfl) rfl rfl ?_
  refine Ls rfl rfl (X_call rfl Tryz.func62 rfl rfl rfl (ACalls.mono h ?_))
  rintro v σ ⟨x17_1, x17_2, rfl, h⟩
  refine Lp (V_move rfl rfl) rfl rfl ?_
  refine Lp (V_ext rfl rfl rfl) rfl rfl ?_
  refine Lp (V_ext rfl rfl rfl) rfl rfl ?_
  refine Lp (V_asg rfl rfl) rfl rfl ?_
  refine Lp (V_asg rfl rfl) rfl rfl ?_
  refine Lnil ?_
  refine thenN ?_
  refine AW.seq ?_
  refine AW.block ?_
  refine AW.seq ?_
  refine AW.reg ?_
  refine Lp (V_move rfl rfl) rfl rfl ?_
  refine Lp (V_neq rfl rfl rfl) rfl rfl ?_
  refine Lp (V_asg rfl rfl) rfl rfl ?_
  refine Lnil ?_
  refine thenN ?_
  refine AW.iff rfl (bnot_iff decide_eq_true_iff) h (fun h => ?_) (fun h => ?_)
  · refine AW.seq ?_
    refine AW.reg ?_
    refine Lp (V_move rfl rfl) rfl rfl ?_
    refine Lp (V_asg rfl rfl) rfl rfl ?_
    refine Lp (V_asg rfl rfl) rfl rfl ?_
    refine Lnil ?_
    refine thenN ?_
    refine AW.ret ?_
    refine blockR ?_
    refine thenR ?_
    exact bR2 Tryz.results22 rfl rfl ⟨_, _, rfl, h⟩
  refine AW.seq ?_
  refine AW.reg ?_
  refine Lp (V_move rfl rfl) rfl rfl ?_
  refine Lp (V_lenL rfl rfl Tryz.underlying30 rfl rfl) rfl rfl ?_
  refine Lp (V_gtr rfl rfl rfl) rfl rfl ?_
  refine Lp (V_asg rfl rfl) rfl rfl ?_
  refine Lnil ?_
  refine thenN ?_
  refine AW.iff rfl decide_eq_true_iff h (fun h => ?_) (fun h => ?_)
  · refine AW.seq ?_
    refine AW.reg ?_
    refine Lp (V_asg rfl rfl) rfl rfl ?_
    refine Lp (V_asg rfl rfl) rfl rfl ?_
    refine Lnil ?_
    refine thenN ?_
    refine AW.ret ?_
    refine blockR ?_
    refine thenR ?_
    exact bR2 Tryz.results22 rfl rfl ⟨_, _, rfl, h⟩
  refine AW.seq ?_
  refine AW.reg ?_
  refine Lp (V_move rfl rfl) rfl rfl ?_
  refine Lp (V_lss rfl rfl rfl) rfl rfl ?_
  refine Lp (V_move rfl rfl) rfl rfl ?_
  refine Lsplit 3 (decide (a3 < 0)) [(0, .pointer a0), (1, .string a1), (2, Sl.v a2), (3, .int .i64 a3), (4, .bool a4), (12, .string x17_1), (34, .bool ((decide (a3 < 0)) || (decide (4611686018427387903 < a3))))] ?_ ?_ ?_
  · intro e2 hk2
    refine Ln rfl rfl rfl rfl (.inl (by rw [e2]; rfl)) ?_
    refine Ln rfl rfl rfl rfl (.inl (by rw [e2]; rfl)) ?_
    refine Lp (V_pickT rfl (evb e2) rfl) rfl rfl ?_
    exact hk2 _ (FrLe.cons rfl (FrLe.cons rfl (FrLe.cons rfl (FrLe.cons rfl (FrLe.cons rfl (FrLe.cons rfl (FrLe.cons (by rw [e2]; rfl) (FrLe.nil _))))))))
  · intro e2 hk2
    refine Lypb (V_move rfl rfl) rfl rfl rfl rfl e2 ?_
    refine Lypb (V_gtr rfl rfl rfl) rfl rfl rfl rfl e2 ?_
    refine Lp (V_pickF rfl (evb e2) rfl) rfl rfl ?_
    exact hk2 _ (FrLe.cons rfl (FrLe.cons rfl (FrLe.cons rfl (FrLe.cons rfl (FrLe.cons rfl (FrLe.cons rfl (FrLe.cons (by rw [e2]; rfl) (FrLe.nil _))))))))
  intro fr hl
  refine Lfr hl ?_
  refine Lp (V_asg rfl rfl) rfl rfl ?_
  refine Lnil ?_
  refine thenN ?_
  refine AW.iff rfl (bor_iff decide_eq_true_iff decide_eq_true_iff) h (fun h => ?_) (fun h => ?_)
  · refine AW.seq ?_
    refine AW.reg ?_
    refine Lp (V_asg rfl rfl) rfl rfl ?_
    refine Lp (V_asg rfl rfl) rfl rfl ?_
    refine Lnil ?_
    refine thenN ?_
    refine AW.ret ?_
    refine blockR ?_
    refine thenR ?_
    exact bR2 Tryz.results22 rfl rfl ⟨_, _, rfl, h⟩
  refine AW.skip ?_
  refine blockN ?_
  refine thenN ?_
  refine AW.seq ?_
  refine AW.reg ?_
  refine Lp (V_move rfl rfl) rfl rfl ?_
  obtain ⟨p36_3, hc, h⟩ := h
  refine Lp (V_nil rfl (by rw [← hc]; rfl)) rfl rfl ?_
  refine Lp (V_fld rfl Tryz.underlying128 rfl ty126 (by decide) rfl) rfl rfl ?_
  obtain ⟨x38_4, hc, h⟩ := h
  refine Ls rfl rfl (X_ld rfl Tryz.underlying126 rfl rfl hc ?_)
  refine Lp (V_move rfl rfl) rfl rfl ?_
  refine Ls rfl rfl (X_lkp rfl rfl rfl (awp_mono _ h ?_))
  rintro v σ ⟨x40_5, rfl, h⟩
  refine Lp (V_asg rfl rfl) rfl rfl ?_
  refine Lnil ?_
  refine thenN ?_
  refine AW.seq ?_
  refine AW.block ?_
  refine AW.seq ?_
  refine AW.reg ?_
  refine Lp (V_move rfl rfl) rfl rfl ?_
  refine Lp (V_eqP rfl Tryz.underlying129 rfl rfl) rfl rfl ?_
  refine Lp (V_asg rfl rfl) rfl rfl ?_
  refine Lnil ?_
  refine thenN ?_
  refine AW.iff rfl isNone_iff h (fun h => ?_) (fun h => ?_)
  · refine AW.seq ?_
    refine AW.reg ?_
    refine Lp (V_asg rfl rfl) rfl rfl ?_
    refine Lp (V_asg rfl rfl) rfl rfl ?_
    refine Lnil ?_
    refine thenN ?_
    refine AW.ret ?_
    refine blockR ?_
    refine thenR ?_
    exact bR2 Tryz.results22 rfl rfl ⟨_, _, rfl, h⟩
  refine AW.seq ?_
  refine AW.reg ?_
  refine Lp (V_move rfl rfl) rfl rfl ?_
  obtain ⟨p46_6, hc, h⟩ := h
  refine Lp (V_nil rfl (by rw [← hc]; rfl)) rfl rfl ?_
  refine Lp (V_fld rfl Tryz.underlying133 rfl ty32 (by decide) rfl) rfl rfl ?_
  refine Lp (V_fld rfl Tryz.underlying32 rfl ty3 (by decide) rfl) rfl rfl ?_
  obtain ⟨x49_7, hc, h⟩ := h
  refine Ls rfl rfl (X_ld rfl Tryz.underlying3 rfl rfl hc ?_)
  refine Lp (V_neq rfl rfl rfl) rfl rfl ?_
  refine Lp (V_asg rfl rfl) rfl rfl ?_
  refine Lnil ?_
  refine thenN ?_
  refine AW.iff rfl (bnot_iff decide_eq_true_iff) h (fun h => ?_) (fun h => ?_)
  · refine AW.seq ?_
    refine AW.reg ?_
    refine Lp (V_asg rfl rfl) rfl rfl ?_
    refine Lp (V_asg rfl rfl) rfl rfl ?_
    refine Lnil ?_
    refine thenN ?_
    refine AW.ret ?_
    refine blockR ?_
    refine thenR ?_
    exact bR2 Tryz.results22 rfl rfl ⟨_, _, rfl, h⟩
  refine AW.seq ?_
  refine AW.reg ?_
  refine Lp (V_move rfl rfl) rfl rfl ?_
  obtain ⟨p53_8, hc, h⟩ := h
  refine Lp (V_nil rfl (by rw [← hc]; rfl)) rfl rfl ?_
  refine Lp (V_fld rfl Tryz.underlying133 rfl ty32 (by decide) rfl) rfl rfl ?_
  refine Lp (V_fld rfl Tryz.underlying32 rfl ty3 (by decide) rfl) rfl rfl ?_
  obtain ⟨x56_9, hc, h⟩ := h
  refine Ls rfl rfl (X_ld rfl Tryz.underlying3 rfl rfl hc ?_)
  refine Lp (V_gtr rfl rfl rfl) rfl rfl ?_
  refine Lp (V_asg rfl rfl) rfl rfl ?_
  refine Lnil ?_
  refine thenN ?_
  refine AW.iff rfl decide_eq_true_iff h (fun h => ?_) (fun h => ?_)
  · refine AW.seq ?_
    refine AW.reg ?_
    refine Lp (V_asg rfl rfl) rfl rfl ?_
    refine Lp (V_asg rfl rfl) rfl rfl ?_
    refine Lnil ?_
    refine thenN ?_
    refine AW.ret ?_
    refine blockR ?_
    refine thenR ?_
    exact bR2 Tryz.results22 rfl rfl ⟨_, _, rfl, h⟩
  refine AW.skip ?_
  refine blockN ?_
  refine thenN ?_
  refine AW.seqJ (fun fr σ => ∃ (x1_11 : ByteArray), FrLe [(0, .pointer a0), (2, Sl.v a2), (3, .int .i64 a3), (14, .pointer x40_5), (1, .string x1_11)] fr ∧ j10_ztree_Tree_Create B ro a0 a2 a3 x40_5 Q x1_11 σ) ?_ ?_
  rotate_left
  · refine AW.seq ?_
    refine AW.reg ?_
    refine Lp (V_move rfl rfl) rfl rfl ?_
    refine Lnil ?_
    refine thenN ?_
    refine AW.iff rfl Iff.rfl h (fun h => ?_) (fun h => ?_)
    rotate_left
    · refine AW.skip ?_
      refine thenN ?_
      exact ⟨_, (FrLe.cons rfl (FrLe.cons rfl (FrLe.cons rfl (FrLe.cons rfl (FrLe.cons rfl (FrLe.nil _)))))), h⟩
    refine AW.seq ?_
    refine AW.reg ?_
    refine Lp (V_move rfl rfl) rfl rfl ?_
    refine Lp (V_move rfl rfl) rfl rfl ?_
    obtain ⟨p62_25, hc, h⟩ := h
    refine Lp (V_nil rfl (by rw [← hc]; rfl)) rfl rfl ?_
    refine Lp (V_fld rfl Tryz.underlying133 rfl ty32 (by decide) rfl) rfl rfl ?_
    refine Lp (V_fld rfl Tryz.underlying32 rfl ty3 (by decide) rfl) rfl rfl ?_
    obtain ⟨x65_26, hc, h⟩ := h
    refine Ls rfl rfl (X_ld rfl Tryz.underlying3 rfl rfl hc ?_)
    refine Ls rfl rfl (X_call rfl Tryz.func71 rfl rfl rfl (ACalls.mono h ?_))
    rintro v σ ⟨x66_27, x66_28, rfl, h⟩
    refine Lp (V_move rfl rfl) rfl rfl ?_
    refine Lp (V_ext rfl rfl rfl) rfl rfl ?_
    refine Lp (V_ext rfl rfl rfl) rfl rfl ?_
    refine Lp (V_asg rfl rfl) rfl rfl ?_
    refine Lp (V_asg rfl rfl) rfl rfl ?_
    refine Lnil ?_
    refine thenN ?_
    refine AW.seq ?_
    refine AW.reg ?_
    refine Lp (V_move rfl rfl) rfl rfl ?_
    refine Lp (V_neq rfl rfl rfl) rfl rfl ?_
    refine Lnil ?_
    refine thenN ?_
    refine AW.iff rfl (bnot_iff decide_eq_true_iff) h (fun h => ?_) (fun h => ?_)
    rotate_left
    · refine AW.skip ?_
      refine thenN ?_
      exact ⟨_, (FrLe.cons rfl (FrLe.cons rfl (FrLe.cons rfl (FrLe.cons rfl (FrLe.cons rfl (FrLe.nil _)))))), h⟩
    refine AW.seq ?_
    refine AW.reg ?_
    refine Lp (V_move rfl rfl) rfl rfl ?_
    refine Lp (V_asg rfl rfl) rfl rfl ?_
    refine Lp (V_asg rfl rfl) rfl rfl ?_
    refine Lnil ?_
    refine thenN ?_
    refine AW.ret ?_
    refine thenR ?_
    exact bR2 Tryz.results22 rfl rfl ⟨_, _, rfl, h⟩
  rintro fr σ ⟨x1_11, hl, h⟩
  refine AW.weaken ?_ hl (HLe.refl _)
  unfold j10_ztree_Tree_Create at h
  refine AW.seq ?_
  refine AW.seq ?_
  refine AW.reg ?_
  refine Lp (V_move rfl rfl) rfl rfl ?_
  obtain ⟨p73_12, hc, h⟩ := h
  refine Lp (V_nil rfl (by rw [← hc]; rfl)) rfl rfl ?_
  refine Lp (V_fld rfl Tryz.underlying128 rfl ty126 (by decide) rfl) rfl rfl ?_
  obtain ⟨x75_13, hc, h⟩ := h
  refine Ls rfl rfl (X_ld rfl Tryz.underlying126 rfl rfl hc ?_)
  refine Lp (V_move rfl rfl) rfl rfl ?_
  refine Ls rfl rfl (X_lkp rfl rfl rfl (awp_mono _ h ?_))
  rintro v σ ⟨x77_14, rfl, h⟩
  refine Lp (V_neP rfl Tryz.underlying129 rfl rfl) rfl rfl ?_
  refine Lnil ?_
  refine thenN ?_
  refine AW.iff rfl (bnot_iff isNone_iff) h (fun h => ?_) (fun h => ?_)
  · refine AW.seq ?_
    refine AW.reg ?_
    refine Lp (V_asg rfl rfl) rfl rfl ?_
    refine Lp (V_asg rfl rfl) rfl rfl ?_
    refine Lnil ?_
    refine thenN ?_
    refine AW.ret ?_
    refine thenR ?_
    exact bR2 Tryz.results22 rfl rfl ⟨_, _, rfl, h⟩
  refine AW.skip ?_
  refine thenN ?_
  refine AW.seq ?_
  refine AW.drawnL (fun i => ([0, 0, 0, 0, 0, 0, 0, 0, 2, 0, 1, 2] : List Nat).getD i 2) [] [0, 1, 2, 3, 4, 5, 6, 7, 8, 9, 10, 11] Tryz.mixed h (by decide +kernel) ?_
  clear h
  intro ψ σ h
  refine Dp rfl rfl rfl rfl (V_move rfl rfl) ?_
  obtain ⟨p80_15, hc, h⟩ := h
  refine Dp rfl rfl rfl rfl (V_nil rfl (by rw [← hc]; rfl)) ?_
  refine Dp rfl rfl rfl rfl (V_fld rfl Tryz.underlying128 rfl ty126 (by decide) rfl) ?_
  obtain ⟨x82_16, hc, h⟩ := h
  refine Dp rfl rfl rfl rfl (V_ld rfl Tryz.underlying126 rfl rfl hc) ?_
  refine Dp rfl rfl rfl rfl (V_move rfl rfl) ?_
  refine Dp rfl rfl rfl rfl (V_move rfl rfl) ?_
  refine Dp rfl rfl rfl rfl (V_bld (vs := [(2, .int .i64 a3)]) (cs := #[.int .i64 0, .int .i64 0, .int .i64 a3, .int .i64 0]) rfl Tryz.underlying32 ty32 pl32 rfl rfl) ?_
  refine Dp rfl rfl rfl rfl (V_move rfl rfl) ?_
  refine Dg rfl rfl rfl rfl (X_call rfl Tryz.func61 rfl rfl rfl (ACalls.mono h ?_))
  rintro v σ ⟨x87_17, rfl, h⟩
  refine Dp rfl rfl rfl rfl (V_bld (vs := [(0, .agg #[.int .i64 0, .int .i64 0, .int .i64 a3, .int .i64 0]), (1, Sl.v x87_17)]) (cs := #[.int .i64 0, .int .i64 0, .int .i64 a3, .int .i64 0, Sl.v x87_17]) rfl Tryz.underlying133 ty133 pl133 rfl rfl) ?_
  refine Da rfl rfl rfl rfl (A_box rfl rfl) fun x89_18 g1 g2 => ?_
  replace h := h x89_18 g1 g2
  refine Dg rfl rfl rfl rfl (X_mup (.inl rfl) rfl rfl rfl (awp_mono _ h ?_))
  rintro _ σ h
  refine ⟨_, FrEq.refl _, fun hdj => ?_⟩
  replace h := h hdj
  refine thenN ?_
  refine AW.seq ?_
  refine AW.reg ?_
  refine Lp (V_move rfl rfl) rfl rfl ?_
  obtain ⟨p91_19, hc, h⟩ := h
  refine Lp (V_nil rfl (by rw [← hc]; rfl)) rfl rfl ?_
  refine Lp (V_fld rfl Tryz.underlying133 rfl ty32 (by decide) rfl) rfl rfl ?_
  refine Lp (V_fld rfl Tryz.underlying32 rfl ty3 (by decide) rfl) rfl rfl ?_
  obtain ⟨x94_20, hc, h⟩ := h
  refine Ls rfl rfl (X_ld rfl Tryz.underlying3 rfl rfl hc ?_)
  refine Lp (V_add rfl rfl rfl) rfl rfl ?_
  obtain ⟨p96_21, hc, h⟩ := h
  refine Lp (V_nil rfl (by rw [← hc]; rfl)) rfl rfl ?_
  refine Lp (V_fld rfl Tryz.underlying133 rfl ty32 (by decide) rfl) rfl rfl ?_
  refine Lp (V_fld rfl Tryz.underlying32 rfl ty3 (by decide) rfl) rfl rfl ?_
  refine Ls rfl rfl (X_st rfl ty3 rfl rfl rfl rfl (stN_mono h fun σ h => ?_))
  refine Lnil ?_
  refine thenN ?_
  refine AW.seq ?_
  refine AW.reg ?_
  refine Lp (V_move rfl rfl) rfl rfl ?_
  obtain ⟨p100_22, hc, h⟩ := h
  refine Lp (V_nil rfl (by rw [← hc]; rfl)) rfl rfl ?_
  refine Lp (V_fld rfl Tryz.underlying133 rfl ty32 (by decide) rfl) rfl rfl ?_
  refine Lp (V_fld rfl Tryz.underlying32 rfl ty3 (by decide) rfl) rfl rfl ?_
  obtain ⟨x103_23, hc, h⟩ := h
  refine Ls rfl rfl (X_ld rfl Tryz.underlying3 rfl rfl hc ?_)
  refine Lp (V_add rfl rfl rfl) rfl rfl ?_
  obtain ⟨p105_24, hc, h⟩ := h
  refine Lp (V_nil rfl (by rw [← hc]; rfl)) rfl rfl ?_
  refine Lp (V_fld rfl Tryz.underlying133 rfl ty32 (by decide) rfl) rfl rfl ?_
  refine Lp (V_fld rfl Tryz.underlying32 rfl ty3 (by decide) rfl) rfl rfl ?_
  refine Ls rfl rfl (X_st rfl ty3 rfl rfl rfl rfl (stN_mono h fun σ h => ?_))
  refine Lnil ?_
  refine thenN ?_
  refine AW.seq ?_
  refine AW.reg ?_
  refine Lp (V_move rfl rfl) rfl rfl ?_
  refine Lp (V_asg rfl rfl) rfl rfl ?_
  refine Lp (V_asg rfl rfl) rfl rfl ?_
  refine Lnil ?_
  refine thenN ?_
  refine AW.ret ?_
  exact bR2 Tryz.results22 rfl rfl ⟨_, _, rfl, h⟩

def f_ztree_Tree_Delete (B : World) (ro : AH) (a0 : Option Addr) (a1 : ByteArray) (a2 : Int) (σ : AH) (Q : Int → AH → Prop) : Prop :=
 c_ztree_Tree_check B ro a0 a1 a2 σ fun x15_1 x15_2 σ =>
 if ¬ (x15_2 = 0) then
  Q x15_2 σ
 else
 ∃ p24_3 : Addr, x15_1 = some p24_3 ∧
 ∃ (x27_4 : Int), acell ro σ (p24_3.add 3) = some (.int .i64 x27_4) ∧
 if 0 < x27_4 then
  Q 73 σ
 else
 c_path_Parent B ro a1 σ fun x31_5 x31_6 σ =>
 ∃ p35_7 : Addr, a0 = some p35_7 ∧
 ∃ (x37_8 : Option Nat), acell ro σ p35_7 = some (.map x37_8) ∧
 awp Tryz.prog ro (Instr.lookup 126 (.map x37_8) (.string x31_5) false) (fun v σ =>
  (∃ (x39_9 : Option Addr), v = .pointer x39_9 ∧
   ∃ p40_10 : Addr, x39_9 = some p40_10 ∧
   ∃ (x43_11 : Int), acell ro σ (p40_10.add 3) = some (.int .i64 x43_11) ∧
   ∃ p45_12 : Addr, x39_9 = some p45_12 ∧
   stN (p45_12.add 3) (fun σ =>
    ∃ p49_13 : Addr, a0 = some p49_13 ∧
    ∃ (x51_14 : Option Nat), acell ro σ p49_13 = some (.map x51_14) ∧
    awp Tryz.prog ro (Builtin.delete_ #[126, 9] 0 #[.map x51_14, .string a1]) (fun v σ => v = .tuple #[] ∧
     Q 0 σ) σ) [.int .i64 (IntKind.i64.wrap (x43_11 - 1))] 0 σ)) σ

set_option maxRecDepth 100000 in
set_option maxHeartbeats 4000000 in
theorem ztree_Tree_Delete_ok {B : World} {ro : AH} {a0 : Option Addr} {a1 : ByteArray} {a2 : Int} {σ : AH} {Q : Int → AH → Prop} (h : Sep ro σ → f_ztree_Tree_Delete B ro a0 a1 a2 σ Q) : c_ztree_Tree_Delete B ro a0 a1 a2 σ Q := by
  refine ACalls.of_sep fun hsep => ?_
  replace h := h hsep
  refine ACalls.of_body (args := [.pointer a0, .string a1, .int .i64 a2]) Tryz.func24 rfl (by rw [Tryz.ntmps24]; simp) ?_
  rw [Tryz.ntmps24]
  unfold f_ztree_Tree_Delete at h
  refine AW.seq ?_
  refine AW.reg ?_
  refine Lp (V_asg rfl rfl) rfl rfl ?_
  refine Lnil ?_
  refine thenN ?_
  refine AW.seq ?_
  refine AW.reg ?_
  refine Lp (V_move rfl rfl) rfl rfl ?_
  refine Lp (V_move rfl rfl) rfl rfl ?_
  refine Lp (V_move rfl rfl) rfl rfl ?_
  refine Ls rfl rfl (X_call rfl Tryz.func73 rfl rfl rfl (ACalls.mono h ?_))
  rintro v σ ⟨x15_1, x15_2, rfl, h⟩
  refine Lp (V_move rfl rfl) rfl rfl ?_
  refine Lp (V_ext rfl rfl rfl) rfl rfl ?_
  refine Lp (V_ext rfl rfl rfl) rfl rfl ?_
  refine Lp (V_asg rfl rfl) rfl rfl ?_
  refine Lp (V_asg rfl rfl) rfl rfl ?_
  refine Lnil ?_
  refine thenN ?_
  refine AW.seq ?_
  refine AW.block ?_
  refine AW.seq ?_
  refine AW.reg ?_
  refine Lp (V_move rfl rfl) rfl rfl ?_
  refine Lp (V_neq rfl rfl rfl) rfl rfl ?_
  refine Lp (V_asg rfl rfl) rfl rfl ?_
  refine Lnil ?_
  refine thenN ?_
  refine AW.iff rfl (bnot_iff decide_eq_true_iff) h (fun h => ?_) (fun h => ?_)
  · refine AW.seq ?_
    refine AW.reg ?_
    refine Lp (V_move rfl rfl) rfl rfl ?_
    refine Lp (V_asg rfl rfl) rfl rfl ?_
    refine Lnil ?_
    refine thenN ?_
    refine AW.ret ?_
    refine blockR ?_
    refine thenR ?_
    exact bR1 Tryz.results24 rfl ⟨_, rfl, h⟩
  refine AW.seq ?_
  refine AW.reg ?_
  refine Lp (V_move rfl rfl) rfl rfl ?_
  obtain ⟨p24_3, hc, h⟩ := h
  refine Lp (V_nil rfl (by rw [← hc]; rfl)) rfl rfl ?_
  refine Lp (V_fld rfl Tryz.underlying133 rfl ty32 (by decide) rfl) rfl rfl ?_
  refine Lp (V_fld rfl Tryz.underlying32 rfl ty3 (by decide) rfl) rfl rfl ?_
  obtain ⟨x27_4, hc, h⟩ := h
  refine Ls rfl rfl (X_ld rfl Tryz.underlying3 rfl rfl hc ?_)
  refine Lp (V_gtr rfl rfl rfl) rfl rfl ?_
  refine Lp (V_asg rfl rfl) rfl rfl ?_
  refine Lnil ?_
  refine thenN ?_
  refine AW.iff rfl decide_eq_true_iff h (fun h => ?_) (fun h => ?_)
  · refine AW.seq ?_
    refine AW.reg ?_
    refine Lp (V_asg rfl rfl) rfl rfl ?_
    refine Lnil ?_
    refine thenN ?_
    refine AW.ret ?_
    refine blockR ?_
    refine thenR ?_
    exact bR1 Tryz.results24 rfl ⟨_, rfl, h⟩
  refine AW.skip ?_
  refine blockN ?_
  refine thenN ?_
  refine AW.seq ?_
  refine AW.reg ?_
  refine Lp (V_move rfl rfl) rfl rfl ?_
  refine Ls rfl rfl (X_call rfl Tryz.func62 rfl rfl rfl (ACalls.mono h ?_))
  rintro v σ ⟨x31_5, x31_6, rfl, h⟩
  refine Lp (V_move rfl rfl) rfl rfl ?_
  refine Lp (V_ext rfl rfl rfl) rfl rfl ?_
  refine Lp (V_ext rfl rfl rfl) rfl rfl ?_
  refine Lp (V_asg rfl rfl) rfl rfl ?_
  refine Lp (V_asg rfl rfl) rfl rfl ?_
  refine Lnil ?_
  refine thenN ?_
  refine AW.seq ?_
  refine AW.reg ?_
  refine Lp (V_move rfl rfl) rfl rfl ?_
  obtain ⟨p35_7, hc, h⟩ := h
  refine Lp (V_nil rfl (by rw [← hc]; rfl)) rfl rfl ?_
  refine Lp (V_fld rfl Tryz.underlying128 rfl ty126 (by decide) rfl) rfl rfl ?_
  obtain ⟨x37_8, hc, h⟩ := h
  refine Ls rfl rfl (X_ld rfl Tryz.underlying126 rfl rfl hc ?_)
  refine Lp (V_move rfl rfl) rfl rfl ?_
  refine Ls rfl rfl (X_lkp rfl rfl rfl (awp_mono _ h ?_))
  rintro v σ ⟨x39_9, rfl, h⟩
  obtain ⟨p40_10, hc, h⟩ := h
  refine Lp (V_nil rfl (by rw [← hc]; rfl)) rfl rfl ?_
  refine Lp (V_fld rfl Tryz.underlying133 rfl ty32 (by decide) rfl) rfl rfl ?_
  refine Lp (V_fld rfl Tryz.underlying32 rfl ty3 (by decide) rfl) rfl rfl ?_
  obtain ⟨x43_11, hc, h⟩ := h
  refine Ls rfl rfl (X_ld rfl Tryz.underlying3 rfl rfl hc ?_)
  refine Lp (V_sub rfl rfl rfl) rfl rfl ?_
  obtain ⟨p45_12, hc, h⟩ := h
  refine Lp (V_nil rfl (by rw [← hc]; rfl)) rfl rfl ?_
  refine Lp (V_fld rfl Tryz.underlying133 rfl ty32 (by decide) rfl) rfl rfl ?_
  refine Lp (V_fld rfl Tryz.underlying32 rfl ty3 (by decide) rfl) rfl rfl ?_
  refine Ls rfl rfl (X_st rfl ty3 rfl rfl rfl rfl (stN_mono h fun σ h => ?_))
  refine Lnil ?_
  refine thenN ?_
  refine AW.seq ?_
  refine AW.reg ?_
  refine Lp (V_move rfl rfl) rfl rfl ?_
  obtain ⟨p49_13, hc, h⟩ := h
  refine Lp (V_nil rfl (by rw [← hc]; rfl)) rfl rfl ?_
  refine Lp (V_fld rfl Tryz.underlying128 rfl ty126 (by decide) rfl) rfl rfl ?_
  obtain ⟨x51_14, hc, h⟩ := h
  refine Ls rfl rfl (X_ld rfl Tryz.underlying126 rfl rfl hc ?_)
  refine Lp (V_move rfl rfl) rfl rfl ?_
  refine Ls rfl rfl (X_bi (s := Builtin.delete_ #[126, 9] 0 #[.map x51_14, .string a1]) rfl rfl (fun _ => rfl) (awp_mono _ h ?_))
  rintro v σ ⟨rfl, h⟩
  refine Lnil ?_
  refine thenN ?_
  refine AW.seq ?_
  refine AW.reg ?_
  refine Lp (V_asg rfl rfl) rfl rfl ?_
  refine Lnil ?_
  refine thenN ?_
  refine AW.ret ?_
  exact bR1 Tryz.results24 rfl ⟨_, rfl, h⟩

def j1_ztree_Tree_Set (B : World) (ro : AH) (a0 : Option Addr) (a1 : ByteArray) (a2 : Sl) (a3 : Int) (Q : Int → Int → AH → Prop) (x18_2 : Bool) (σ : AH) : Prop :=
 if x18_2 = true then
  Q 0 20 σ
 else
 if 256 < (a2.len : Int) then
  Q 0 75 σ
 else
 c_ztree_Tree_check B ro a0 a1 a3 σ fun x26_3 x26_4 σ =>
 if ¬ (x26_4 = 0) then
  Q 0 x26_4 σ
 else
 c_bytes_Clone B ro a2 σ fun x34_5 σ =>
 ∃ p35_6 : Addr, x26_3 = some p35_6 ∧
 stN (p35_6.add 4) (fun σ =>
  ∃ p38_7 : Addr, x26_3 = some p38_7 ∧
  ∃ (x41_8 : Int), acell ro σ p38_7 = some (.int .i64 x41_8) ∧
  ∃ p43_9 : Addr, x26_3 = some p43_9 ∧
  stN p43_9 (fun σ =>
   ∃ p47_10 : Addr, x26_3 = some p47_10 ∧
   ∃ (x50_11 : Int), acell ro σ p47_10 = some (.int .i64 x50_11) ∧
   Q x50_11 0 σ) [.int .i64 (IntKind.i64.wrap (x41_8 + 1))] 0 σ) [Sl.v x34_5] 0 σ

def f_ztree_Tree_Set (B : World) (ro : AH) (a0 : Option Addr) (a1 : ByteArray) (a2 : Sl) (a3 : Int) (σ : AH) (Q : Int → Int → AH → Prop) : Prop :=
 if a1 = (⟨#[47]⟩ : ByteArray) then
  j1_ztree_Tree_Set B ro a0 a1 a2 a3 Q true σ
 else
 c_path_Check B ro a1 σ fun x16_12 σ =>
 j1_ztree_Tree_Set B ro a0 a1 a2 a3 Q (!(decide (x16_12 = 0))) σ

set_option maxRecDepth 100000 in
set_option maxHeartbeats 4000000 in
theorem ztree_Tree_Set_ok {B : World} {ro : AH} {a0 : Option Addr} {a1 : ByteArray} {a2 : Sl} {a3 : Int} {σ : AH} {Q : Int → Int → AH → Prop} (h : Sep ro σ → f_ztree_Tree_Set B ro a0 a1 a2 a3 σ Q) : c_ztree_Tree_Set B ro a0 a1 a2 a3 σ Q := by
  refine ACalls.of_sep fun hsep => ?_
  replace h := h hsep
  refine ACalls.of_body (args := [.pointer a0, .string a1, Sl.v a2, .int .i64 a3]) Tryz.func25 rfl (by rw [Tryz.ntmps25]; simp) ?_
  rw [Tryz.ntmps25]
  unfold f_ztree_Tree_Set at h
  refine AW.seq ?_
  refine AW.reg ?_
  refine Lp (V_asg rfl rfl) rfl rfl ?_
  refine Lp (V_asg rfl rfl) rfl rfl ?_
  refine Lnil ?_
  refine thenN ?_
  refine AW.seq ?_
  refine AW.seq ?_
  refine AW.reg ?_
  refine Lp (V_move rfl rfl) rfl rfl ?_
  refine Lp (V_eqlS rfl rfl rfl) rfl rfl ?_
  refine Lp (V_move rfl rfl) rfl rfl ?_
  refine LsplitJ 4 (decide (a1 = (⟨#[47]⟩ : ByteArray))) decide_eq_true_iff h (fun fr σ => ∃ (x18_2 : Bool), FrLe [(0, .pointer a0), (1, .string a1), (2, Sl.v a2), (3, .int .i64 a3), (18, .bool x18_2)] fr ∧ j1_ztree_Tree_Set B ro a0 a1 a2 a3 Q x18_2 σ) ?_ ?_ ?_
  · intro h e2 hk2
    refine Ln rfl rfl rfl rfl (.inl (by rw [e2]; rfl)) ?_
    refine Ln rfl rfl rfl rfl (.inl (by rw [e2]; rfl)) ?_
    refine Ln rfl rfl rfl rfl (.inl (by rw [e2]; rfl)) ?_
    refine Lp (V_pickT rfl (evb e2) rfl) rfl rfl ?_
    exact hk2 _ _ ⟨_, (FrLe.cons rfl (FrLe.cons rfl (FrLe.cons rfl (FrLe.cons rfl (FrLe.cons rfl (FrLe.nil _)))))), h⟩
  · intro h e2 hk2
    refine Lypb (V_move rfl rfl) rfl rfl rfl rfl e2 ?_
    refine Lyb rfl rfl rfl rfl e2 (X_call rfl Tryz.func55 rfl rfl rfl (ACalls.mono h ?_))
    rintro v σ ⟨x16_12, rfl, h⟩
    refine Lypb (V_neq rfl rfl rfl) rfl rfl rfl rfl e2 ?_
    refine Lp (V_pickF rfl (evb e2) rfl) rfl rfl ?_
    exact hk2 _ _ ⟨_, (FrLe.cons rfl (FrLe.cons rfl (FrLe.cons rfl (FrLe.cons rfl (FrLe.cons rfl (FrLe.nil _)))))), h⟩
  rintro fr σ ⟨x18_2, hl, h⟩
  unfold j1_ztree_Tree_Set at h
  refine Lfr hl ?_
  refine Lnil ?_
  refine thenN ?_
  refine AW.iff rfl Iff.rfl h (fun h => ?_) (fun h => ?_)
  · refine AW.seq ?_
    refine AW.reg ?_
    refine Lp (V_asg rfl rfl) rfl rfl ?_
    refine Lp (V_asg rfl rfl) rfl rfl ?_
    refine Lnil ?_
    refine thenN ?_
    refine AW.ret ?_
    refine thenR ?_
    exact bR2 Tryz.results25 rfl rfl ⟨_, _, rfl, h⟩
  refine AW.skip ?_
  refine thenN ?_
  refine AW.seq ?_
  refine AW.seq ?_
  refine AW.reg ?_
  refine Lp (V_move rfl rfl) rfl rfl ?_
  refine Lp (V_lenL rfl rfl Tryz.underlying30 rfl rfl) rfl rfl ?_
  refine Lp (V_gtr rfl rfl rfl) rfl rfl ?_
  refine Lnil ?_
  refine thenN ?_
  refine AW.iff rfl decide_eq_true_iff h (fun h => ?_) (fun h => ?_)
  · refine AW.seq ?_
    refine AW.reg ?_
    refine Lp (V_asg rfl rfl) rfl rfl ?_
    refine Lp (V_asg rfl rfl) rfl rfl ?_
    refine Lnil ?_
    refine thenN ?_
    refine AW.ret ?_
    refine thenR ?_
    exact bR2 Tryz.results25 rfl rfl ⟨_, _, rfl, h⟩
  refine AW.skip ?_
  refine thenN ?_
  refine AW.seq ?_
  refine AW.reg ?_
  refine Lp (V_move rfl rfl) rfl rfl ?_
  refine Lp (V_move rfl rfl) rfl rfl ?_
  refine Lp (V_move rfl rfl) rfl rfl ?_
  refine Ls rfl rfl (X_call rfl Tryz.func73 rfl rfl rfl (ACalls.mono h ?_))
  rintro v σ ⟨x26_3, x26_4, rfl, h⟩
  refine Lp (V_move rfl rfl) rfl rfl ?_
  refine Lp (V_ext rfl rfl rfl) rfl rfl ?_
  refine Lp (V_ext rfl rfl rfl) rfl rfl ?_
  refine Lp (V_asg rfl rfl) rfl rfl ?_
  refine Lp (V_asg rfl rfl) rfl rfl ?_
  refine Lnil ?_
  refine thenN ?_
  refine AW.seq ?_
  refine AW.seq ?_
  refine AW.reg ?_
  refine Lp (V_move rfl rfl) rfl rfl ?_
  refine Lp (V_neq rfl rfl rfl) rfl rfl ?_
  refine Lnil ?_
  refine thenN ?_
  refine AW.iff rfl (bnot_iff decide_eq_true_iff) h (fun h => ?_) (fun h => ?_)
  · refine AW.seq ?_
    refine AW.reg ?_
    refine Lp (V_move rfl rfl) rfl rfl ?_
    refine Lp (V_asg rfl rfl) rfl rfl ?_
    refine Lp (V_asg rfl rfl) rfl rfl ?_
    refine Lnil ?_
    refine thenN ?_
    refine AW.ret ?_
    refine thenR ?_
    exact bR2 Tryz.results25 rfl rfl ⟨_, _, rfl, h⟩
  refine AW.skip ?_
  refine thenN ?_
  refine AW.seq ?_
  refine AW.reg ?_
  refine Lp (V_move rfl rfl) rfl rfl ?_
  refine Lp (V_move rfl rfl) rfl rfl ?_
  refine Ls rfl rfl (X_call rfl Tryz.func61 rfl rfl rfl (ACalls.mono h ?_))
  rintro v σ ⟨x34_5, rfl, h⟩
  obtain ⟨p35_6, hc, h⟩ := h
  refine Lp (V_nil rfl (by rw [← hc]; rfl)) rfl rfl ?_
  refine Lp (V_fld rfl Tryz.underlying133 rfl ty30 (by decide) rfl) rfl rfl ?_
  refine Ls rfl rfl (X_st rfl ty30 rfl rfl rfl rfl (stN_mono h fun σ h => ?_))
  refine Lnil ?_
  refine thenN ?_
  refine AW.seq ?_
  refine AW.reg ?_
  refine Lp (V_move rfl rfl) rfl rfl ?_
  obtain ⟨p38_7, hc, h⟩ := h
  refine Lp (V_nil rfl (by rw [← hc]; rfl)) rfl rfl ?_
  refine Lp (V_fld rfl Tryz.underlying133 rfl ty32 (by decide) rfl) rfl rfl ?_
  refine Lp (V_fld rfl Tryz.underlying32 rfl ty3 (by decide) rfl) rfl rfl ?_
  obtain ⟨x41_8, hc, h⟩ := h
  refine Ls rfl rfl (X_ld rfl Tryz.underlying3 rfl rfl hc ?_)
  refine Lp (V_add rfl rfl rfl) rfl rfl ?_
  obtain ⟨p43_9, hc, h⟩ := h
  refine Lp (V_nil rfl (by rw [← hc]; rfl)) rfl rfl ?_
  refine Lp (V_fld rfl Tryz.underlying133 rfl ty32 (by decide) rfl) rfl rfl ?_
  refine Lp (V_fld rfl Tryz.underlying32 rfl ty3 (by decide) rfl) rfl rfl ?_
  refine Ls rfl rfl (X_st rfl ty3 rfl rfl rfl rfl (stN_mono h fun σ h => ?_))
  refine Lnil ?_
  refine thenN ?_
  refine AW.seq ?_
  refine AW.reg ?_
  refine Lp (V_move rfl rfl) rfl rfl ?_
  obtain ⟨p47_10, hc, h⟩ := h
  refine Lp (V_nil rfl (by rw [← hc]; rfl)) rfl rfl ?_
  refine Lp (V_fld rfl Tryz.underlying133 rfl ty32 (by decide) rfl) rfl rfl ?_
  refine Lp (V_fld rfl Tryz.underlying32 rfl ty3 (by decide) rfl) rfl rfl ?_
  obtain ⟨x50_11, hc, h⟩ := h
  refine Ls rfl rfl (X_ld rfl Tryz.underlying3 rfl rfl hc ?_)
  refine Lp (V_asg rfl rfl) rfl rfl ?_
  refine Lp (V_asg rfl rfl) rfl rfl ?_
  refine Lnil ?_
  refine thenN ?_
  refine AW.ret ?_
  exact bR2 Tryz.results25 rfl rfl ⟨_, _, rfl, h⟩

def j4_ztree_Decode (B : World) (ro : AH) (x13_2 : Nat) (Q : Option Addr → Int → AH → Prop) (σ : AH) : Prop :=
 Q (some ⟨x13_2, 0, none⟩) 0 σ

def l7_ztree_Decode (B : World) (ro : AH) (p63_6 : Addr) (x13_2 : Nat) (Q : Option Addr → Int → AH → Prop) : (Unit) → AH → ((Unit) → AH → Prop) → Prop := fun _ σ Y7 =>
 awp Tryz.prog ro (Instr.next (.pointer (some p63_6)) false 0) (fun v σ =>
  (v = .tuple #[.bool false] ∧
   j4_ztree_Decode B ro x13_2 Q σ) ∨
  (∃ (x64_8 : Value) (x64_9 : Value), v = .tuple #[.bool true, x64_8, x64_9] ∧
   awp Tryz.prog ro (Instr.entry (.pointer (some p63_6))) (fun v σ =>
    (∃ (x66_10 : Value) (x66_11 : Option Addr), v = .tuple #[x66_10, .pointer x66_11] ∧
     ∃ p69_12 : Addr, x66_11 = some p69_12 ∧
     ∃ p74_13 : Addr, x66_11 = some p74_13 ∧
     ∃ (x72_14 : Int), acell ro σ (p69_12.add 1) = some (.int .i64 x72_14) ∧
     ∃ (x77_15 : Int), acell ro σ (p74_13.add 3) = some (.int .i64 x77_15) ∧
     if x72_14 < x77_15 then
      Q none 13 σ
     else
     Y7 () σ)) σ)) σ

def j3_ztree_Decode (B : World) (ro : AH) (x13_2 : Nat) (Q : Option Addr → Int → AH → Prop) (σ : AH) : Prop :=
 ∃ (x62_5 : Option Nat), acell ro σ ⟨x13_2, 0, none⟩ = some (.map x62_5) ∧
 awp Tryz.prog ro (Instr.range 126 (.map x62_5)) (fun v σ =>
  (∃ (p63_6 : Addr), v = .pointer (some p63_6) ∧
   lfpD (l7_ztree_Decode B ro p63_6 x13_2 Q ) () σ)) σ

def j27_ztree_Decode (B : World) (ro : AH) (x13_2 : Nat) (x15_16 : Option Addr) (x24_20 : ByteArray) (Q : Option Addr → Int → AH → Prop) (Y17 : (ByteArray) → AH → Prop) (x57_28 : Bool) (σ : AH) : Prop :=
 if x57_28 = true then
  Q none 13 σ
 else
 Y17 (x24_20) σ

def l17_ztree_Decode (B : World) (ro : AH) (x13_2 : Nat) (x15_16 : Option Addr) (Q : Option Addr → Int → AH → Prop) : (ByteArray) → AH → ((ByteArray) → AH → Prop) → Prop := fun x5_18 σ Y17 =>
 c_wire_Reader_Left B ro x15_16 σ fun x17_19 σ =>
 if (0 < x17_19) ∨ (x5_18 = (⟨#[]⟩ : ByteArray)) then
  c_wire_Reader_Text B ro x15_16 σ fun x24_20 σ =>
  c_wire_Reader_Blob B ro x15_16 σ fun x26_21 σ =>
  nw ro σ (.cells #[.int .i64 0, .int .i64 0, .int .i64 0, .int .i64 0, Sl.v x26_21] 133) fun x28_22 σ =>
  c_wire_Reader_Num B ro x15_16 σ fun x33_23 σ =>
  c_wire_Reader_Num B ro x15_16 σ fun x35_24 σ =>
  c_wire_Reader_Num B ro x15_16 σ fun x37_25 σ =>
  stN ⟨x28_22, 0, none⟩ (fun σ =>
   stN ((⟨x28_22, 0, none⟩ : Addr).add 1) (fun σ =>
    stN ((⟨x28_22, 0, none⟩ : Addr).add 2) (fun σ =>
     c_wire_Reader_Err B ro x15_16 σ fun x48_26 σ =>
     if ¬ (x48_26 = 0) then
      j27_ztree_Decode B ro x13_2 x15_16 x24_20 Q Y17 true σ
     else
     c_ztree_Tree_lay B ro (some ⟨x13_2, 0, none⟩) x24_20 x5_18 (some ⟨x28_22, 0, none⟩) σ fun x55_29 σ =>
     j27_ztree_Decode B ro x13_2 x15_16 x24_20 Q Y17 (!x55_29) σ) [.int .i64 x37_25] 0 σ) [.int .i64 x35_24] 0 σ) [.int .i64 x33_23] 0 σ
 else
 j3_ztree_Decode B ro x13_2 Q σ

def f_ztree_Decode (B : World) (ro : AH) (a0 : Sl) (σ : AH) (Q : Option Addr → Int → AH → Prop) : Prop :=
 nw ro σ (.map #[] 0) fun x11_1 σ =>
 nw ro σ (.cells #[.map (some x11_1)] 128) fun x13_2 σ =>
 c_wire_NewReader B ro a0 σ fun x15_16 σ =>
 lfpD (l17_ztree_Decode B ro x13_2 x15_16 Q ) ((⟨#[]⟩ : ByteArray)) σ

set_option maxRecDepth 100000 in
set_option maxHeartbeats 4000000 in
theorem ztree_Decode_ok {B : World} {ro : AH} {a0 : Sl} {σ : AH} {Q : Option Addr → Int → AH → Prop} (h : Sep ro σ → f_ztree_Decode B ro a0 σ Q) : c_ztree_Decode B ro a0 σ Q := by
  refine ACalls.of_sep fun hsep => ?_
  replace h := h hsep
  refine ACalls.of_body (args := [Sl.v a0]) Tryz.func27 rfl (by rw [Tryz.ntmps27]; simp) ?_
  rw [Tryz.ntmps27]
  unfold f_ztree_Decode at h
  refine AW.seq ?_
  refine AW.reg ?_
  refine Lp (V_asg rfl rfl) rfl rfl ?_
  refine Lp (V_asg rfl rfl) rfl rfl ?_
  refine Lnil ?_
  refine thenN ?_
  refine AW.seq ?_
  refine AW.reg ?_
  refine Ls rfl rfl (X_new (A_map0 rfl) fun x11_1 g1 g2 => ?_)
  replace h := h x11_1 g1 g2
  refine Lp (V_bld (vs := [(0, .map (some x11_1))]) (cs := #[.map (some x11_1)]) rfl Tryz.underlying128 ty128 pl128 rfl rfl) rfl rfl ?_
  refine Ls rfl rfl (X_new (A_box rfl rfl) fun x13_2 g1 g2 => ?_)
  replace h := h x13_2 g1 g2
  refine Lp (V_asg rfl rfl) rfl rfl ?_
  refine Lnil ?_
  refine thenN ?_
  refine AW.seq ?_
  refine AW.reg ?_
  refine Lp (V_asg rfl rfl) rfl rfl ?_
  refine Lnil ?_
  refine thenN ?_
  refine AW.seqJ (fun fr σ => FrLe [(4, .pointer (some ⟨x13_2, 0, none⟩))] fr ∧ j3_ztree_Decode B ro x13_2 Q σ) ?_ ?_
  · rintro fr σ ⟨hl, h⟩
    refine AW.weaken ?_ hl (HLe.refl _)
    unfold j3_ztree_Decode at h
    refine AW.seqJ (fun fr σ => FrLe [(4, .pointer (some ⟨x13_2, 0, none⟩))] fr ∧ j4_ztree_Decode B ro x13_2 Q σ) ?_ ?_
    · rintro fr σ ⟨hl, h⟩
      refine AW.weaken ?_ hl (HLe.refl _)
      unfold j4_ztree_Decode at h
      refine AW.seq ?_
      refine AW.reg ?_
      refine Lp (V_move rfl rfl) rfl rfl ?_
      refine Lp (V_asg rfl rfl) rfl rfl ?_
      refine Lp (V_asg rfl rfl) rfl rfl ?_
      refine Lnil ?_
      refine thenN ?_
      refine AW.ret ?_
      exact bR2 Tryz.results27 rfl rfl ⟨_, _, rfl, h⟩
    refine AW.seq ?_
    refine AW.reg ?_
    refine Lp (V_move rfl rfl) rfl rfl ?_
    refine Lp (V_nil rfl rfl) rfl rfl ?_
    refine Lp (V_fld rfl Tryz.underlying128 rfl ty126 (by decide) rfl) rfl rfl ?_
    obtain ⟨x62_5, hc, h⟩ := h
    refine Ls rfl rfl (X_ld rfl Tryz.underlying126 rfl rfl hc ?_)
    refine Ls rfl rfl (X_rng rfl rfl (awp_mono _ h ?_))
    rintro v σ ⟨p63_6, rfl, h⟩
    refine Lnil ?_
    refine thenN ?_
    refine AW.block ?_
    refine ARound.loop (fr' := [(4, .pointer (some ⟨x13_2, 0, none⟩)), (63, .pointer (some p63_6))]) ?_ (FrLe.cons rfl (FrLe.cons rfl (FrLe.nil _)))
    refine h (fun _ σ => ARound _ _ _ _ _ _ [(4, .pointer (some ⟨x13_2, 0, none⟩)), (63, .pointer (some p63_6))] σ) ?_
    rintro _ σ Y7 hY7 h
    show AW _ _ _ _ _ _ _ _
    unfold l7_ztree_Decode at h
    refine AW.seq ?_
    refine AW.reg ?_
    refine Ls rfl rfl (X_nxt rfl rfl rfl (awp_mono _ h ?_))
    rintro v σ (⟨rfl, h⟩ | ⟨x64_8, x64_9, rfl, h⟩)
    · refine Lp (V_ext rfl rfl rfl) rfl rfl ?_
      refine Lnil ?_
      refine thenN ?_
      refine AW.seq ?_
      refine AW.no rfl ?_
      refine AW.exit ?_
      refine thenE ?_
      refine thenE ?_
      refine blockE ?_
      refine thenN ?_
      exact ⟨(FrLe.cons rfl (FrLe.nil _)), h⟩
    · refine Lp (V_ext rfl rfl rfl) rfl rfl ?_
      refine Lnil ?_
      refine thenN ?_
      refine AW.seq ?_
      refine AW.yes rfl ?_
      refine AW.skip ?_
      refine thenN ?_
      refine AW.block ?_
      refine AW.seq ?_
      refine AW.reg ?_
      refine Ls rfl rfl (X_ent rfl rfl (awp_mono _ h ?_))
      rintro v σ ⟨x66_10, x66_11, rfl, h⟩
      refine Lp (V_ext rfl rfl rfl) rfl rfl ?_
      refine Lp (V_asg rfl rfl) rfl rfl ?_
      refine Lnil ?_
      refine thenN ?_
      refine AW.seq ?_
      refine AW.drawn0 (fun i => ([0, 0, 0, 0, 3, 0, 0, 0, 0, 3, 0] : List Nat).getD i 2) [] [0, 1, 2, 3, 5, 6, 7, 8, 4, 9, 10] Tryz.mixed (by decide +kernel) ?_
      refine Dp rfl rfl rfl rfl (V_move rfl rfl) ?_
      obtain ⟨p69_12, hc, h⟩ := h
      refine Dp rfl rfl rfl rfl (V_nil rfl (by rw [← hc]; rfl)) ?_
      refine Dp rfl rfl rfl rfl (V_fld rfl Tryz.underlying133 rfl ty32 (by decide) rfl) ?_
      refine Dp rfl rfl rfl rfl (V_fld rfl Tryz.underlying32 rfl ty3 (by decide) rfl) ?_
      refine Dp rfl rfl rfl rfl (V_move rfl rfl) ?_
      obtain ⟨p74_13, hc, h⟩ := h
      refine Dp rfl rfl rfl rfl (V_nil rfl (by rw [← hc]; rfl)) ?_
      refine Dp rfl rfl rfl rfl (V_fld rfl Tryz.underlying133 rfl ty32 (by decide) rfl) ?_
      refine Dp rfl rfl rfl rfl (V_fld rfl Tryz.underlying32 rfl ty3 (by decide) rfl) ?_
      obtain ⟨x72_14, hc, h⟩ := h
      refine Dr rfl rfl rfl rfl (R_ld rfl Tryz.underlying3 rfl rfl hc) ?_
      obtain ⟨x77_15, hc, h⟩ := h
      refine Dr rfl rfl rfl rfl (R_ld rfl Tryz.underlying3 rfl rfl hc) ?_
      refine Dp rfl rfl rfl rfl (V_lss rfl rfl rfl) ?_
      refine Dend ?_
      refine thenN ?_
      refine AW.iff rfl decide_eq_true_iff h (fun h => ?_) (fun h => ?_)
      rotate_left
      · refine AW.skip ?_
        refine blockN ?_
        refine thenN ?_
        refine ARound.head (fr' := [(4, .pointer (some ⟨x13_2, 0, none⟩)), (63, .pointer (some p63_6))]) ?_ (FrLe.cons rfl (FrLe.cons rfl (FrLe.nil _)))
        exact hY7 _ _ h
      refine AW.seq ?_
      refine AW.reg ?_
      refine Lp (V_asg rfl rfl) rfl rfl ?_
      refine Lp (V_asg rfl rfl) rfl rfl ?_
      refine Lnil ?_
      refine thenN ?_
      refine AW.ret ?_
      refine blockR ?_
      refine thenR ?_
      refine blockR ?_
      refine thenR ?_
      exact bR2 Tryz.results27 rfl rfl ⟨_, _, rfl, h⟩
  refine AW.seq ?_
  refine AW.reg ?_
  refine Lp (V_move rfl rfl) rfl rfl ?_
  refine Ls rfl rfl (X_call rfl Tryz.func74 rfl rfl rfl (ACalls.mono h ?_))
  rintro v σ ⟨x15_16, rfl, h⟩
  refine Lp (V_asg rfl rfl) rfl rfl ?_
  refine Lnil ?_
  refine thenN ?_
  refine AW.block ?_
  refine ARound.loop (fr' := [(4, .pointer (some ⟨x13_2, 0, none⟩)), (6, .pointer x15_16), (5, .string (⟨#[]⟩ : ByteArray))]) ?_ (FrLe.cons rfl (FrLe.cons rfl (FrLe.cons rfl (FrLe.nil _))))
  refine h (fun x5_18 σ => ARound _ _ _ _ _ _ [(4, .pointer (some ⟨x13_2, 0, none⟩)), (6, .pointer x15_16), (5, .string x5_18)] σ) ?_
  rintro x5_18 σ Y17 hY17 h
  show AW _ _ _ _ _ _ _ _
  unfold l17_ztree_Decode at h
  refine AW.seq ?_
  refine AW.seq ?_
  refine AW.reg ?_
  refine Lp (V_move rfl rfl) rfl rfl ?_
  refine Ls rfl rfl (X_call rfl Tryz.func75 rfl rfl rfl (ACalls.mono h ?_))
  rintro v σ ⟨x17_19, rfl, h⟩
  refine Lp (V_gtr rfl rfl rfl) rfl rfl ?_
  refine Lp (V_move rfl rfl) rfl rfl ?_
  refine Lsplit 3 (decide (0 < x17_19)) [(4, .pointer (some ⟨x13_2, 0, none⟩)), (5, .string x5_18), (6, .pointer x15_16), (22, .bool ((decide (0 < x17_19)) || (decide (x5_18 = (⟨#[]⟩ : ByteArray)))))] ?_ ?_ ?_
  · intro e3 hk3
    refine Ln rfl rfl rfl rfl (.inl (by rw [e3]; rfl)) ?_
    refine Ln rfl rfl rfl rfl (.inl (by rw [e3]; rfl)) ?_
    refine Lp (V_pickT rfl (evb e3) rfl) rfl rfl ?_
    exact hk3 _ (FrLe.cons rfl (FrLe.cons rfl (FrLe.cons rfl (FrLe.cons (by rw [e3]; rfl) (FrLe.nil _)))))
  · intro e3 hk3
    refine Lypb (V_move rfl rfl) rfl rfl rfl rfl e3 ?_
    refine Lypb (V_eqlS rfl rfl rfl) rfl rfl rfl rfl e3 ?_
    refine Lp (V_pickF rfl (evb e3) rfl) rfl rfl ?_
    exact hk3 _ (FrLe.cons rfl (FrLe.cons rfl (FrLe.cons rfl (FrLe.cons (by rw [e3]; rfl) (FrLe.nil _)))))
  intro fr hl
  refine Lfr hl ?_
  refine Lnil ?_
  refine thenN ?_
  refine AW.iff rfl (bor_iff decide_eq_true_iff decide_eq_true_iff) h (fun h => ?_) (fun h => ?_)
  rotate_left
  · refine AW.exit ?_
    refine thenE ?_
    refine thenE ?_
    refine blockE ?_
    refine thenN ?_
    exact ⟨(FrLe.cons rfl (FrLe.nil _)), h⟩
  refine AW.skip ?_
  refine thenN ?_
  refine AW.block ?_
  refine AW.seq ?_
  refine AW.reg ?_
  refine Lp (V_move rfl rfl) rfl rfl ?_
  refine Ls rfl rfl (X_call rfl Tryz.func76 rfl rfl rfl (ACalls.mono h ?_))
  rintro v σ ⟨x24_20, rfl, h⟩
  refine Lp (V_asg rfl rfl) rfl rfl ?_
  refine Lnil ?_
  refine thenN ?_
  refine AW.seq ?_
  refine AW.reg ?_
  refine Lp (V_move rfl rfl) rfl rfl ?_
  refine Ls rfl rfl (X_call rfl Tryz.func77 rfl rfl rfl (ACalls.mono h ?_))
  rintro v σ ⟨x26_21, rfl, h⟩
  refine Lp (V_bld (vs := [(1, Sl.v x26_21)]) (cs := #[.int .i64 0, .int .i64 0, .int .i64 0, .int .i64 0, Sl.v x26_21]) rfl Tryz.underlying133 ty133 pl133 rfl rfl) rfl rfl ?_
  refine Ls rfl rfl (X_new (A_box rfl rfl) fun x28_22 g1 g2 => ?_)
  replace h := h x28_22 g1 g2
  refine Lp (V_asg rfl rfl) rfl rfl ?_
  refine Lnil ?_
  refine thenN ?_
  refine AW.seq ?_
  refine AW.reg ?_
  refine Lp (V_move rfl rfl) rfl rfl ?_
  refine Lp (V_move rfl rfl) rfl rfl ?_
  refine Lp (V_move rfl rfl) rfl rfl ?_
  refine Lp (V_move rfl rfl) rfl rfl ?_
  refine Ls rfl rfl (X_call rfl Tryz.func78 rfl rfl rfl (ACalls.mono h ?_))
  rintro v σ ⟨x33_23, rfl, h⟩
  refine Lp (V_move rfl rfl) rfl rfl ?_
  refine Ls rfl rfl (X_call rfl Tryz.func78 rfl rfl rfl (ACalls.mono h ?_))
  rintro v σ ⟨x35_24, rfl, h⟩
  refine Lp (V_move rfl rfl) rfl rfl ?_
  refine Ls rfl rfl (X_call rfl Tryz.func78 rfl rfl rfl (ACalls.mono h ?_))
  rintro v σ ⟨x37_25, rfl, h⟩
  refine Lp (V_nil rfl rfl) rfl rfl ?_
  refine Lp (V_fld rfl Tryz.underlying133 rfl ty32 (by decide) rfl) rfl rfl ?_
  refine Lp (V_fld rfl Tryz.underlying32 rfl ty3 (by decide) rfl) rfl rfl ?_
  refine Ls rfl rfl (X_st rfl ty3 rfl rfl rfl rfl (stN_mono h fun σ h => ?_))
  refine Lp (V_nil rfl rfl) rfl rfl ?_
  refine Lp (V_fld rfl Tryz.underlying133 rfl ty32 (by decide) rfl) rfl rfl ?_
  refine Lp (V_fld rfl Tryz.underlying32 rfl ty3 (by decide) rfl) rfl rfl ?_
  refine Ls rfl rfl (X_st rfl ty3 rfl rfl rfl rfl (stN_mono h fun σ h => ?_))
  refine Lp (V_nil rfl rfl) rfl rfl ?_
  refine Lp (V_fld rfl Tryz.underlying133 rfl ty32 (by decide) rfl) rfl rfl ?_
  refine Lp (V_fld rfl Tryz.underlying32 rfl ty3 (by decide) rfl) rfl rfl ?_
  refine Ls rfl rfl (X_st rfl ty3 rfl rfl rfl rfl (stN_mono h fun σ h => ?_))
  refine Lnil ?_
  refine thenN ?_
  refine AW.seq ?_
  refine AW.seq ?_
  refine AW.reg ?_
  refine Lp (V_move rfl rfl) rfl rfl ?_
  refine Ls rfl rfl (X_call rfl Tryz.func79 rfl rfl rfl (ACalls.mono h ?_))
  rintro v σ ⟨x48_26, rfl, h⟩
  refine Lp (V_neq rfl rfl rfl) rfl rfl ?_
  refine Lp (V_move rfl rfl) rfl rfl ?_
  refine LsplitJ 7 (!(decide (x48_26 = 0))) (bnot_iff decide_eq_true_iff) h (fun fr σ => ∃ (x57_28 : Bool), FrLe [(4, .pointer (some ⟨x13_2, 0, none⟩)), (6, .pointer x15_16), (7, .string x24_20), (57, .bool x57_28)] fr ∧ j27_ztree_Decode B ro x13_2 x15_16 x24_20 Q Y17 x57_28 σ) ?_ ?_ ?_
  · intro h e3 hk3
    refine Ln rfl rfl rfl rfl (.inl (by rw [e3]; rfl)) ?_
    refine Ln rfl rfl rfl rfl (.inl (by rw [e3]; rfl)) ?_
    refine Ln rfl rfl rfl rfl (.inl (by rw [e3]; rfl)) ?_
    refine Ln rfl rfl rfl rfl (.inl (by rw [e3]; rfl)) ?_
    refine Ln rfl rfl rfl rfl (.inl (by rw [e3]; rfl)) ?_
    refine Ln rfl rfl rfl rfl (.inl (by rw [e3]; rfl)) ?_
    refine Lp (V_pickT rfl (evb e3) rfl) rfl rfl ?_
    exact hk3 _ _ ⟨_, (FrLe.cons rfl (FrLe.cons rfl (FrLe.cons rfl (FrLe.cons rfl (FrLe.nil _))))), h⟩
  · intro h e3 hk3
    refine Lypb (V_move rfl rfl) rfl rfl rfl rfl e3 ?_
    refine Lypb (V_move rfl rfl) rfl rfl rfl rfl e3 ?_
    refine Lypb (V_move rfl rfl) rfl rfl rfl rfl e3 ?_
    refine Lypb (V_move rfl rfl) rfl rfl rfl rfl e3 ?_
    refine Lyb rfl rfl rfl rfl e3 (X_call rfl Tryz.func80 rfl rfl rfl (ACalls.mono h ?_))
    rintro v σ ⟨x55_29, rfl, h⟩
    refine Lypb (V_not rfl rfl) rfl rfl rfl rfl e3 ?_
    refine Lp (V_pickF rfl (evb e3) rfl) rfl rfl ?_
    exact hk3 _ _ ⟨_, (FrLe.cons rfl (FrLe.cons rfl (FrLe.cons rfl (FrLe.cons rfl (FrLe.nil _))))), h⟩
  rintro fr σ ⟨x57_28, hl, h⟩
  unfold j27_ztree_Decode at h
  refine Lfr hl ?_
  refine Lnil ?_
  refine thenN ?_
  refine AW.iff rfl Iff.rfl h (fun h => ?_) (fun h => ?_)
  · refine AW.seq ?_
    refine AW.reg ?_
    refine Lp (V_asg rfl rfl) rfl rfl ?_
    refine Lp (V_asg rfl rfl) rfl rfl ?_
    refine Lnil ?_
    refine thenN ?_
    refine AW.ret ?_
    refine thenR ?_
    refine blockR ?_
    refine thenR ?_
    refine blockR ?_
    refine thenR ?_
    exact bR2 Tryz.results27 rfl rfl ⟨_, _, rfl, h⟩
  refine AW.skip ?_
  refine thenN ?_
  refine AW.reg ?_
  refine Lp (V_move rfl rfl) rfl rfl ?_
  refine Lp (V_asg rfl rfl) rfl rfl ?_
  refine Lnil ?_
  refine blockN ?_
  refine thenN ?_
  refine ARound.head (fr' := [(4, .pointer (some ⟨x13_2, 0, none⟩)), (6, .pointer x15_16), (5, .string x24_20)]) ?_ (FrLe.cons rfl (FrLe.cons rfl (FrLe.cons rfl (FrLe.nil _))))
  exact hY17 _ _ h

def f_ztree_New (B : World) (ro : AH) (σ : AH) (Q : Option Addr → AH → Prop) : Prop :=
 nw ro σ (.map #[] 0) fun x1_1 σ =>
 nw ro σ (.cells #[.int .i64 0, .int .i64 0, .int .i64 0, .int .i64 0, Sl.v (⟨none, 0, 0⟩ : Sl)] 133) fun x3_2 σ =>
 awp Tryz.prog ro (Instr.mapUpdate 126 (.map (some x1_1)) (.string (⟨#[47]⟩ : ByteArray)) (.pointer (some ⟨x3_2, 0, none⟩))) (fun _ σ =>
  nw ro σ (.cells #[.map (some x1_1)] 128) fun x6_3 σ =>
  Q (some ⟨x6_3, 0, none⟩) σ) σ

set_option maxRecDepth 100000 in
set_option maxHeartbeats 4000000 in
theorem ztree_New_ok {B : World} {ro : AH} {σ : AH} {Q : Option Addr → AH → Prop} (h : Sep ro σ → f_ztree_New B ro σ Q) : c_ztree_New B ro σ Q := by
  refine ACalls.of_sep fun hsep => ?_
  replace h := h hsep
  refine ACalls.of_body (args := []) Tryz.func30 rfl (by rw [Tryz.ntmps30]; simp) ?_
  rw [Tryz.ntmps30]
  unfold f_ztree_New at h
  refine AW.seq ?_
  refine AW.reg ?_
  refine Lp (V_asg rfl rfl) rfl rfl ?_
  refine Lnil ?_
  refine thenN ?_
  refine AW.seq ?_
  refine AW.reg ?_
  refine Ls rfl rfl (X_new (A_map0 rfl) fun x1_1 g1 g2 => ?_)
  replace h := h x1_1 g1 g2
  refine Lp (V_bld (vs := []) (cs := #[.int .i64 0, .int .i64 0, .int .i64 0, .int .i64 0, Sl.v (⟨none, 0, 0⟩ : Sl)]) rfl Tryz.underlying133 ty133 pl133 rfl rfl) rfl rfl ?_
  refine Ls rfl rfl (X_new (A_box rfl rfl) fun x3_2 g1 g2 => ?_)
  replace h := h x3_2 g1 g2
  refine Ls rfl rfl (X_mup (.inr rfl) rfl rfl rfl (awp_mono _ h ?_))
  rintro _ σ h
  refine Lp (V_move rfl rfl) rfl rfl ?_
  refine Lp (V_bld (vs := [(0, .map (some x1_1))]) (cs := #[.map (some x1_1)]) rfl Tryz.underlying128 ty128 pl128 rfl rfl) rfl rfl ?_
  refine Ls rfl rfl (X_new (A_box rfl rfl) fun x6_3 g1 g2 => ?_)
  replace h := h x6_3 g1 g2
  refine Lp (V_asg rfl rfl) rfl rfl ?_
  refine Lnil ?_
  refine thenN ?_
  refine AW.ret ?_
  exact bR1 Tryz.results30 rfl ⟨_, rfl, h⟩

def f_ztree_Tree_paths (B : World) (ro : AH) (a0 : Option Addr) (σ : AH) (Q : Sl → AH → Prop) : Prop :=
 ∃ p4_1 : Addr, a0 = some p4_1 ∧
 ∃ (x6_2 : Option Nat), acell ro σ p4_1 = some (.map x6_2) ∧
 c_maps_Keys_ztree_node B ro x6_2 σ fun x7_3 σ =>
 c_slices_Sorted_string B ro x7_3 σ fun x8_4 σ =>
 Q x8_4 σ

set_option maxRecDepth 100000 in
set_option maxHeartbeats 4000000 in
theorem ztree_Tree_paths_ok {B : World} {ro : AH} {a0 : Option Addr} {σ : AH} {Q : Sl → AH → Prop} (h : Sep ro σ → f_ztree_Tree_paths B ro a0 σ Q) : c_ztree_Tree_paths B ro a0 σ Q := by
  refine ACalls.of_sep fun hsep => ?_
  replace h := h hsep
  refine ACalls.of_body (args := [.pointer a0]) Tryz.func57 rfl (by rw [Tryz.ntmps57]; simp) ?_
  rw [Tryz.ntmps57]
  unfold f_ztree_Tree_paths at h
  refine AW.seq ?_
  refine AW.reg ?_
  refine Lp (V_asg rfl rfl) rfl rfl ?_
  refine Lnil ?_
  refine thenN ?_
  refine AW.seq ?_
  refine AW.reg ?_
  refine Lp (V_move rfl rfl) rfl rfl ?_
  obtain ⟨p4_1, hc, h⟩ := h
  refine Lp (V_nil rfl (by rw [← hc]; rfl)) rfl rfl ?_
  refine Lp (V_fld rfl Tryz.underlying128 rfl ty126 (by decide) rfl) rfl rfl ?_
  obtain ⟨x6_2, hc, h⟩ := h
  refine Ls rfl rfl (X_ld rfl Tryz.underlying126 rfl rfl hc ?_)
  refine Ls rfl rfl (X_call rfl Tryz.func109 rfl rfl rfl (ACalls.mono h ?_))
  rintro x7_3 σ ⟨_, rfl, h⟩
  refine Ls rfl rfl (X_call rfl Tryz.func108 rfl rfl rfl (ACalls.mono h ?_))
  rintro v σ ⟨x8_4, rfl, h⟩
  refine Lp (V_asg rfl rfl) rfl rfl ?_
  refine Lnil ?_
  refine thenN ?_
  refine AW.ret ?_
  exact bR1 Tryz.results57 rfl ⟨_, rfl, h⟩

def f_ztree_Tree_Paths_c1 (B : World) (ro : AH) (a0 : ByteArray) (a1 : Addr) (σ : AH) (Q : Bool → AH → Prop) : Prop :=
 ∃ (x7_1 : ByteArray), acell ro σ a1 = some (.string x7_1) ∧
 c_path_Under B ro x7_1 a0 σ fun x9_2 x9_3 σ =>
 Q (!x9_2) σ

set_option maxRecDepth 100000 in
set_option maxHeartbeats 4000000 in
theorem ztree_Tree_Paths_c1_ok {B : World} {ro : AH} {a0 : ByteArray} {a1 : Addr} {σ : AH} {Q : Bool → AH → Prop} (h : Sep ro σ → f_ztree_Tree_Paths_c1 B ro a0 a1 σ Q) : c_ztree_Tree_Paths_c1 B ro a0 a1 σ Q := by
  refine ACalls.of_sep fun hsep => ?_
  replace h := h hsep
  refine ACalls.of_body (args := [.string a0, .pointer (some a1)]) Tryz.func58 rfl (by rw [Tryz.ntmps58]; simp) ?_
  rw [Tryz.ntmps58]
  unfold f_ztree_Tree_Paths_c1 at h
  refine AW.seq ?_
  refine AW.reg ?_
  refine Lp (V_asg rfl rfl) rfl rfl ?_
  refine Lnil ?_
  refine thenN ?_
  refine AW.seq ?_
  refine AW.reg ?_
  obtain ⟨x7_1, hc, h⟩ := h
  refine Ls rfl rfl (X_ld rfl Tryz.underlying9 rfl rfl hc ?_)
  refine Lp (V_move rfl rfl) rfl rfl ?_
  refine Ls rfl rfl (X_call rfl Tryz.func59 rfl rfl rfl (ACalls.mono h ?_))
  rintro v σ ⟨x9_2, x9_3, rfl, h⟩
  refine Lp (V_move rfl rfl) rfl rfl ?_
  refine Lp (V_ext rfl rfl rfl) rfl rfl ?_
  refine Lp (V_ext rfl rfl rfl) rfl rfl ?_
  refine Lp (V_asg rfl rfl) rfl rfl ?_
  refine Lp (V_asg rfl rfl) rfl rfl ?_
  refine Lnil ?_
  refine thenN ?_
  refine AW.seq ?_
  refine AW.reg ?_
  refine Lp (V_move rfl rfl) rfl rfl ?_
  refine Lp (V_not rfl rfl) rfl rfl ?_
  refine Lp (V_asg rfl rfl) rfl rfl ?_
  refine Lnil ?_
  refine thenN ?_
  refine AW.ret ?_
  exact bR1 Tryz.results58 rfl ⟨_, rfl, h⟩

def f_ztree_Tree_find (B : World) (ro : AH) (a0 : Option Addr) (a1 : ByteArray) (σ : AH) (Q : Option Addr → Int → AH → Prop) : Prop :=
 c_path_Check B ro a1 σ fun x9_1 σ =>
 if ¬ (x9_1 = 0) then
  Q none x9_1 σ
 else
 ∃ p14_2 : Addr, a0 = some p14_2 ∧
 ∃ (x16_3 : Option Nat), acell ro σ p14_2 = some (.map x16_3) ∧
 awp Tryz.prog ro (Instr.lookup 126 (.map x16_3) (.string a1) false) (fun v σ =>
  (∃ (x18_4 : Option Addr), v = .pointer x18_4 ∧
   if x18_4 = none then
    Q none 70 σ
   else
   Q x18_4 0 σ)) σ

set_option maxRecDepth 100000 in
set_option maxHeartbeats 4000000 in
theorem ztree_Tree_find_ok {B : World} {ro : AH} {a0 : Option Addr} {a1 : ByteArray} {σ : AH} {Q : Option Addr → Int → AH → Prop} (h : Sep ro σ → f_ztree_Tree_find B ro a0 a1 σ Q) : c_ztree_Tree_find B ro a0 a1 σ Q := by
  refine ACalls.of_sep fun hsep => ?_
  replace h := h hsep
  refine ACalls.of_body (args := [.pointer a0, .string a1]) Tryz.func60 rfl (by rw [Tryz.ntmps60]; simp) ?_
  rw [Tryz.ntmps60]
  unfold f_ztree_Tree_find at h
  refine AW.seq ?_
  refine AW.reg ?_
  refine Lp (V_asg rfl rfl) rfl rfl ?_
  refine Lp (V_asg rfl rfl) rfl rfl ?_
  refine Lnil ?_
  refine thenN ?_
  refine AW.seq ?_
  refine AW.seq ?_
  refine AW.reg ?_
  refine Lp (V_move rfl rfl) rfl rfl ?_
  refine Ls rfl rfl (X_call rfl Tryz.func55 rfl rfl rfl (ACalls.mono h ?_))
  rintro v σ ⟨x9_1, rfl, h⟩
  refine Lp (V_asg rfl rfl) rfl rfl ?_
  refine Lnil ?_
  refine thenN ?_
  refine AW.seq ?_
  refine AW.reg ?_
  refine Lp (V_move rfl rfl) rfl rfl ?_
  refine Lp (V_neq rfl rfl rfl) rfl rfl ?_
  refine Lnil ?_
  refine thenN ?_
  refine AW.iff rfl (bnot_iff decide_eq_true_iff) h (fun h => ?_) (fun h => ?_)
  · refine AW.seq ?_
    refine AW.reg ?_
    refine Lp (V_move rfl rfl) rfl rfl ?_
    refine Lp (V_asg rfl rfl) rfl rfl ?_
    refine Lp (V_asg rfl rfl) rfl rfl ?_
    refine Lnil ?_
    refine thenN ?_
    refine AW.ret ?_
    refine thenR ?_
    exact bR2 Tryz.results60 rfl rfl ⟨_, _, rfl, h⟩
  refine AW.skip ?_
  refine thenN ?_
  refine AW.seq ?_
  refine AW.reg ?_
  refine Lp (V_move rfl rfl) rfl rfl ?_
  obtain ⟨p14_2, hc, h⟩ := h
  refine Lp (V_nil rfl (by rw [← hc]; rfl)) rfl rfl ?_
  refine Lp (V_fld rfl Tryz.underlying128 rfl ty126 (by decide) rfl) rfl rfl ?_
  obtain ⟨x16_3, hc, h⟩ := h
  refine Ls rfl rfl (X_ld rfl Tryz.underlying126 rfl rfl hc ?_)
  refine Lp (V_move rfl rfl) rfl rfl ?_
  refine Ls rfl rfl (X_lkp rfl rfl rfl (awp_mono _ h ?_))
  rintro v σ ⟨x18_4, rfl, h⟩
  refine Lp (V_asg rfl rfl) rfl rfl ?_
  refine Lnil ?_
  refine thenN ?_
  refine AW.seq ?_
  refine AW.seq ?_
  refine AW.reg ?_
  refine Lp (V_move rfl rfl) rfl rfl ?_
  refine Lp (V_eqP rfl Tryz.underlying129 rfl rfl) rfl rfl ?_
  refine Lnil ?_
  refine thenN ?_
  refine AW.iff rfl isNone_iff h (fun h => ?_) (fun h => ?_)
  · refine AW.seq ?_
    refine AW.reg ?_
    refine Lp (V_asg rfl rfl) rfl rfl ?_
    refine Lp (V_asg rfl rfl) rfl rfl ?_
    refine Lnil ?_
    refine thenN ?_
    refine AW.ret ?_
    refine thenR ?_
    exact bR2 Tryz.results60 rfl rfl ⟨_, _, rfl, h⟩
  refine AW.skip ?_
  refine thenN ?_
  refine AW.seq ?_
  refine AW.reg ?_
  refine Lp (V_move rfl rfl) rfl rfl ?_
  refine Lp (V_asg rfl rfl) rfl rfl ?_
  refine Lp (V_asg rfl rfl) rfl rfl ?_
  refine Lnil ?_
  refine thenN ?_
  refine AW.ret ?_
  exact bR2 Tryz.results60 rfl rfl ⟨_, _, rfl, h⟩

def j3_ztree_Tree_check (B : World) (ro : AH) (x15_1 : Option Addr) (x15_2 : Int) (Q : Option Addr → Int → AH → Prop) (x32_4 : Bool) (σ : AH) : Prop :=
 if x32_4 = true then
  Q none 72 σ
 else
 Q x15_1 x15_2 σ

def f_ztree_Tree_check (B : World) (ro : AH) (a0 : Option Addr) (a1 : ByteArray) (a2 : Int) (σ : AH) (Q : Option Addr → Int → AH → Prop) : Prop :=
 if a1 = (⟨#[47]⟩ : ByteArray) then
  Q none 20 σ
 else
 c_ztree_Tree_find B ro a0 a1 σ fun x15_1 x15_2 σ =>
 if (x15_2 = 0) ∧ (¬ (a2 = (-1))) then
  ∃ p27_5 : Addr, x15_1 = some p27_5 ∧
  ∃ (x30_6 : Int), acell ro σ p27_5 = some (.int .i64 x30_6) ∧
  j3_ztree_Tree_check B ro x15_1 x15_2 Q (!(decide (a2 = x30_6))) σ
 else
 j3_ztree_Tree_check B ro x15_1 x15_2 Q false σ

set_option maxRecDepth 100000 in
set_option maxHeartbeats 4000000 in
theorem ztree_Tree_check_ok {B : World} {ro : AH} {a0 : Option Addr} {a1 : ByteArray} {a2 : Int} {σ : AH} {Q : Option Addr → Int → AH → Prop} (h : Sep ro σ → f_ztree_Tree_check B ro a0 a1 a2 σ Q) : c_ztree_Tree_check B ro a0 a1 a2 σ Q := by
  refine ACalls.of_sep fun hsep => ?_
  replace h := h hsep
  refine ACalls.of_body (args := [.pointer a0, .string a1, .int .i64 a2]) Tryz.func73 rfl (by rw [Tryz.ntmps73]; simp) ?_
  rw [Tryz.ntmps73]
  unfold f_ztree_Tree_check at h
  refine AW.seq ?_
  refine AW.reg ?_
  refine Lp (V_asg rfl rfl) rfl rfl ?_
  refine Lp (V_asg rfl rfl) rfl rfl ?_
  refine Lnil ?_
  refine thenN ?_
  refine AW.seq ?_
  refine AW.seq ?_
  refine AW.reg ?_
  refine Lp (V_move rfl rfl) rfl rfl ?_
  refine Lp (V_eqlS rfl rfl rfl) rfl rfl ?_
  refine Lnil ?_
  refine thenN ?_
  refine AW.iff rfl decide_eq_true_iff h (fun h => ?_) (fun h => ?_)
  · refine AW.seq ?_
    refine AW.reg ?_
    refine Lp (V_asg rfl rfl) rfl rfl ?_
    refine Lp (V_asg rfl rfl) rfl rfl ?_
    refine Lnil ?_
    refine thenN ?_
    refine AW.ret ?_
    refine thenR ?_
    exact bR2 Tryz.results73 rfl rfl ⟨_, _, rfl, h⟩
  refine AW.skip ?_
  refine thenN ?_
  refine AW.seq ?_
  refine AW.reg ?_
  refine Lp (V_move rfl rfl) rfl rfl ?_
  refine Lp (V_move rfl rfl) rfl rfl ?_
  refine Ls rfl rfl (X_call rfl Tryz.func60 rfl rfl rfl (ACalls.mono h ?_))
  rintro v σ ⟨x15_1, x15_2, rfl, h⟩
  refine Lp (V_move rfl rfl) rfl rfl ?_
  refine Lp (V_ext rfl rfl rfl) rfl rfl ?_
  refine Lp (V_ext rfl rfl rfl) rfl rfl ?_
  refine Lp (V_asg rfl rfl) rfl rfl ?_
  refine Lp (V_asg rfl rfl) rfl rfl ?_
  refine Lnil ?_
  refine thenN ?_
  refine AW.seq ?_
  refine AW.seq ?_
  refine AW.reg ?_
  refine Lp (V_move rfl rfl) rfl rfl ?_
  refine Lp (V_eql rfl rfl rfl) rfl rfl ?_
  refine Lp (V_move rfl rfl) rfl rfl ?_
  refine Lsplit 3 (decide (x15_2 = 0)) [(2, .int .i64 a2), (8, .pointer x15_1), (9, .int .i64 x15_2), (23, .bool ((decide (x15_2 = 0)) && (!(decide (a2 = (-1))))))] ?_ ?_ ?_
  · intro e2 hk2
    refine Lypb (V_move rfl rfl) rfl rfl rfl rfl e2 ?_
    refine Lypb (V_neq rfl rfl rfl) rfl rfl rfl rfl e2 ?_
    refine Lp (V_pickT rfl (evb e2) rfl) rfl rfl ?_
    exact hk2 _ (FrLe.cons rfl (FrLe.cons rfl (FrLe.cons rfl (FrLe.cons (by rw [e2]; rfl) (FrLe.nil _)))))
  · intro e2 hk2
    refine Ln rfl rfl rfl rfl (.inl (by rw [e2]; rfl)) ?_
    refine Ln rfl rfl rfl rfl (.inl (by rw [e2]; rfl)) ?_
    refine Lp (V_pickF rfl (evb e2) rfl) rfl rfl ?_
    exact hk2 _ (FrLe.cons rfl (FrLe.cons rfl (FrLe.cons rfl (FrLe.cons (by rw [e2]; rfl) (FrLe.nil _)))))
  intro fr hl
  refine Lfr hl ?_
  refine Lp (V_move rfl rfl) rfl rfl ?_
  refine LsplitJ 8 ((decide (x15_2 = 0)) && (!(decide (a2 = (-1))))) (band_iff decide_eq_true_iff (bnot_iff decide_eq_true_iff)) h (fun fr σ => ∃ (x32_4 : Bool), FrLe [(8, .pointer x15_1), (9, .int .i64 x15_2), (32, .bool x32_4)] fr ∧ j3_ztree_Tree_check B ro x15_1 x15_2 Q x32_4 σ) ?_ ?_ ?_
  · intro h e6 hk6
    refine Lypb (V_move rfl rfl) rfl rfl rfl rfl e6 ?_
    refine Lypb (V_move rfl rfl) rfl rfl rfl rfl e6 ?_
    obtain ⟨p27_5, hc, h⟩ := h
    refine Lypb (V_nil rfl (by rw [← hc]; rfl)) rfl rfl rfl rfl e6 ?_
    refine Lypb (V_fld rfl Tryz.underlying133 rfl ty32 (by decide) rfl) rfl rfl rfl rfl e6 ?_
    refine Lypb (V_fld rfl Tryz.underlying32 rfl ty3 (by decide) rfl) rfl rfl rfl rfl e6 ?_
    obtain ⟨x30_6, hc, h⟩ := h
    refine Lyb rfl rfl rfl rfl e6 (X_ld rfl Tryz.underlying3 rfl rfl hc ?_)
    refine Lypb (V_neq rfl rfl rfl) rfl rfl rfl rfl e6 ?_
    refine Lp (V_pickT rfl (evb e6) rfl) rfl rfl ?_
    exact hk6 _ _ ⟨_, (FrLe.cons rfl (FrLe.cons rfl (FrLe.cons rfl (FrLe.nil _)))), h⟩
  · intro h e6 hk6
    refine Ln rfl rfl rfl rfl (.inl (by rw [e6]; rfl)) ?_
    refine Ln rfl rfl rfl rfl (.inl (by rw [e6]; rfl)) ?_
    refine Ln rfl rfl rfl rfl (.inl (by rw [e6]; rfl)) ?_
    refine Ln rfl rfl rfl rfl (.inl (by rw [e6]; rfl)) ?_
    refine Ln rfl rfl rfl rfl (.inl (by rw [e6]; rfl)) ?_
    refine Ln rfl rfl rfl rfl (.inl (by rw [e6]; rfl)) ?_
    refine Ln rfl rfl rfl rfl (.inl (by rw [e6]; rfl)) ?_
    refine Lp (V_pickF rfl (evb e6) rfl) rfl rfl ?_
    exact hk6 _ _ ⟨_, (FrLe.cons rfl (FrLe.cons rfl (FrLe.cons rfl (FrLe.nil _)))), h⟩
  rintro fr σ ⟨x32_4, hl, h⟩
  unfold j3_ztree_Tree_check at h
  refine Lfr hl ?_
  refine Lnil ?_
  refine thenN ?_
  refine AW.iff rfl Iff.rfl h (fun h => ?_) (fun h => ?_)
  · refine AW.seq ?_
    refine AW.reg ?_
    refine Lp (V_asg rfl rfl) rfl rfl ?_
    refine Lp (V_asg rfl rfl) rfl rfl ?_
    refine Lnil ?_
    refine thenN ?_
    refine AW.ret ?_
    refine thenR ?_
    exact bR2 Tryz.results73 rfl rfl ⟨_, _, rfl, h⟩
  refine AW.skip ?_
  refine thenN ?_
  refine AW.seq ?_
  refine AW.reg ?_
  refine Lp (V_move rfl rfl) rfl rfl ?_
  refine Lp (V_move rfl rfl) rfl rfl ?_
  refine Lp (V_asg rfl rfl) rfl rfl ?_
  refine Lp (V_asg rfl rfl) rfl rfl ?_
  refine Lnil ?_
  refine thenN ?_
  refine AW.ret ?_
  exact bR2 Tryz.results73 rfl rfl ⟨_, _, rfl, h⟩

def j14_ztree_Tree_lay (B : World) (ro : AH) (Q : Bool → AH → Prop) (x87_15 : Bool) (σ : AH) : Prop :=
 Q x87_15 σ

def j12_ztree_Tree_lay (B : World) (ro : AH) (a3 : Option Addr) (Q : Bool → AH → Prop) (x79_13 : Bool) (σ : AH) : Prop :=
 if x79_13 = true then
  ∃ p82_16 : Addr, a3 = some p82_16 ∧
  ∃ (x85_17 : Int), acell ro σ (p82_16.add 2) = some (.int .i64 x85_17) ∧
  j14_ztree_Tree_lay B ro Q (decide (x85_17 = 0)) σ
 else
 j14_ztree_Tree_lay B ro Q false σ

def j10_ztree_Tree_lay (B : World) (ro : AH) (a3 : Option Addr) (Q : Bool → AH → Prop) (x71_11 : Bool) (σ : AH) : Prop :=
 if x71_11 = true then
  ∃ p74_18 : Addr, a3 = some p74_18 ∧
  ∃ (x77_19 : Int), acell ro σ p74_18 = some (.int .i64 x77_19) ∧
  j12_ztree_Tree_lay B ro a3 Q (decide (x77_19 = 0)) σ
 else
 j12_ztree_Tree_lay B ro a3 Q false σ

def j27_ztree_Tree_lay (B : World) (ro : AH) (a0 : Option Addr) (a1 : ByteArray) (a3 : Option Addr) (x98_26 : Option Addr) (Q : Bool → AH → Prop) (x108_28 : Bool) (σ : AH) : Prop :=
 if x108_28 = true then
  Q false σ
 else
 ∃ p110_29 : Addr, x98_26 = some p110_29 ∧
 ∃ (x113_30 : Int), acell ro σ (p110_29.add 3) = some (.int .i64 x113_30) ∧
 ∃ p115_31 : Addr, x98_26 = some p115_31 ∧
 stN (p115_31.add 3) (fun σ =>
  ∃ p119_32 : Addr, a0 = some p119_32 ∧
  ∃ (x121_33 : Option Nat), acell ro σ p119_32 = some (.map x121_33) ∧
  awp Tryz.prog ro (Instr.mapUpdate 126 (.map x121_33) (.string a1) (.pointer a3)) (fun _ σ =>
   Q true σ) σ) [.int .i64 (IntKind.i64.wrap (x113_30 + 1))] 0 σ

def j6_ztree_Tree_lay (B : World) (ro : AH) (a0 : Option Addr) (a1 : ByteArray) (a2 : ByteArray) (a3 : Option Addr) (Q : Bool → AH → Prop) (x52_7 : Bool) (σ : AH) : Prop :=
 if x52_7 = true then
  Q false σ
 else
 if a2 = (⟨#[]⟩ : ByteArray) then
  ∃ p57_8 : Addr, a0 = some p57_8 ∧
  ∃ (x59_9 : Option Nat), acell ro σ p57_8 = some (.map x59_9) ∧
  awp Tryz.prog ro (Instr.mapUpdate 126 (.map x59_9) (.string a1) (.pointer a3)) (fun _ σ =>
   if a1 = (⟨#[47]⟩ : ByteArray) then
    ∃ p66_20 : Addr, a3 = some p66_20 ∧
    ∃ (x68_21 : Sl), acell ro σ (p66_20.add 4) = some (Sl.v x68_21) ∧
    j10_ztree_Tree_lay B ro a3 Q (decide ((x68_21.len : Int) = 0)) σ
   else
   j10_ztree_Tree_lay B ro a3 Q false σ) σ
 else
 c_path_Parent B ro a1 σ fun x90_22 x90_23 σ =>
 ∃ p94_24 : Addr, a0 = some p94_24 ∧
 ∃ (x96_25 : Option Nat), acell ro σ p94_24 = some (.map x96_25) ∧
 awp Tryz.prog ro (Instr.lookup 126 (.map x96_25) (.string x90_22) false) (fun v σ =>
  (∃ (x98_26 : Option Addr), v = .pointer x98_26 ∧
   if x98_26 = none then
    j27_ztree_Tree_lay B ro a0 a1 a3 x98_26 Q true σ
   else
   ∃ p103_34 : Addr, x98_26 = some p103_34 ∧
   ∃ (x106_35 : Int), acell ro σ (p103_34.add 2) = some (.int .i64 x106_35) ∧
   j27_ztree_Tree_lay B ro a0 a1 a3 x98_26 Q (!(decide (x106_35 = 0))) σ)) σ

def j38_ztree_Tree_lay (B : World) (ro : AH) (a0 : Option Addr) (a1 : ByteArray) (a2 : ByteArray) (a3 : Option Addr) (x36_5 : Bool) (Q : Bool → AH → Prop) (x51_39 : Bool) (σ : AH) : Prop :=
 j6_ztree_Tree_lay B ro a0 a1 a2 a3 Q x51_39 σ

def j4_ztree_Tree_lay (B : World) (ro : AH) (a0 : Option Addr) (a1 : ByteArray) (a2 : ByteArray) (a3 : Option Addr) (Q : Bool → AH → Prop) (x36_5 : Bool) (σ : AH) : Prop :=
 if x36_5 = true then
  j6_ztree_Tree_lay B ro a0 a1 a2 a3 Q true σ
 else
 ∃ p39_36 : Addr, a3 = some p39_36 ∧
 ∃ (x42_37 : Int), acell ro σ (p39_36.add 2) = some (.int .i64 x42_37) ∧
 if ¬ (x42_37 = 0) then
  ∃ p46_40 : Addr, a3 = some p46_40 ∧
  ∃ (x49_41 : Int), acell ro σ (p46_40.add 1) = some (.int .i64 x49_41) ∧
  j38_ztree_Tree_lay B ro a0 a1 a2 a3 x36_5 Q (decide (0 < x49_41)) σ
 else
 j38_ztree_Tree_lay B ro a0 a1 a2 a3 x36_5 Q false σ

def j2_ztree_Tree_lay (B : World) (ro : AH) (a0 : Option Addr) (a1 : ByteArray) (a2 : ByteArray) (a3 : Option Addr) (Q : Bool → AH → Prop) (x28_3 : Bool) (σ : AH) : Prop :=
 if x28_3 = true then
  j4_ztree_Tree_lay B ro a0 a1 a2 a3 Q true σ
 else
 ∃ p31_42 : Addr, a3 = some p31_42 ∧
 ∃ (x34_43 : Int), acell ro σ (p31_42.add 1) = some (.int .i64 x34_43) ∧
 j4_ztree_Tree_lay B ro a0 a1 a2 a3 Q (decide (10000000000 < x34_43)) σ

def f_ztree_Tree_lay (B : World) (ro : AH) (a0 : Option Addr) (a1 : ByteArray) (a2 : ByteArray) (a3 : Option Addr) (σ : AH) (Q : Bool → AH → Prop) : Prop :=
 c_path_Check B ro a1 σ fun x14_1 σ =>
 if (¬ (x14_1 = 0)) ∨ (((lessS a1 a2) = true) ∨ (a1 = a2)) then
  j2_ztree_Tree_lay B ro a0 a1 a2 a3 Q true σ
 else
 ∃ p23_44 : Addr, a3 = some p23_44 ∧
 ∃ (x25_45 : Sl), acell ro σ (p23_44.add 4) = some (Sl.v x25_45) ∧
 j2_ztree_Tree_lay B ro a0 a1 a2 a3 Q (decide (256 < (x25_45.len : Int))) σ

set_option maxRecDepth 100000 in
set_option maxHeartbeats 4000000 in
theorem ztree_Tree_lay_ok {B : World} {ro : AH} {a0 : Option Addr} {a1 : ByteArray} {a2 : ByteArray} {a3 : Option Addr} {σ : AH} {Q : Bool → AH → Prop} (h : Sep ro σ → f_ztree_Tree_lay B ro a0 a1 a2 a3 σ Q) : c_ztree_Tree_lay B ro a0 a1 a2 a3 σ Q := by
  refine ACalls.of_sep fun hsep => ?_
  replace h := h hsep
  refine ACalls.of_body (args := [.pointer a0, .string a1, .string a2, .pointer a3]) Tryz.func80 rfl (by rw [Tryz.ntmps80]; simp) ?_
  rw [Tryz.ntmps80]
  unfold f_ztree_Tree_lay at h
  refine AW.seq ?_
  refine AW.reg ?_
  refine Lp (V_asg rfl rfl) rfl rfl ?_
  refine Lnil ?_
  refine thenN ?_
  refine AW.seq ?_
  refine AW.block ?_
  refine AW.seq ?_
  refine AW.reg ?_
  refine Lp (V_move rfl rfl) rfl rfl ?_
  refine Ls rfl rfl (X_call rfl Tryz.func55 rfl rfl rfl (ACalls.mono h ?_))
  rintro v σ ⟨x14_1, rfl, h⟩
  refine Lp (V_neq rfl rfl rfl) rfl rfl ?_
  refine Lp (V_move rfl rfl) rfl rfl ?_
  refine Lsplit 4 (!(decide (x14_1 = 0))) [(0, .pointer a0), (1, .string a1), (2, .string a2), (3, .pointer a3), (20, .bool ((!(decide (x14_1 = 0))) || ((lessS a1 a2) || (decide (a1 = a2)))))] ?_ ?_ ?_
  · intro e3 hk3
    refine Ln rfl rfl rfl rfl (.inl (by rw [e3]; rfl)) ?_
    refine Ln rfl rfl rfl rfl (.inl (by rw [e3]; rfl)) ?_
    refine Ln rfl rfl rfl rfl (.inl (by rw [e3]; rfl)) ?_
    refine Lp (V_pickT rfl (evb e3) rfl) rfl rfl ?_
    exact hk3 _ (FrLe.cons rfl (FrLe.cons rfl (FrLe.cons rfl (FrLe.cons rfl (FrLe.cons (by rw [e3]; rfl) (FrLe.nil _))))))
  · intro e3 hk3
    refine Lypb (V_move rfl rfl) rfl rfl rfl rfl e3 ?_
    refine Lypb (V_move rfl rfl) rfl rfl rfl rfl e3 ?_
    refine Lypb (V_leqS rfl rfl rfl) rfl rfl rfl rfl e3 ?_
    refine Lp (V_pickF rfl (evb e3) rfl) rfl rfl ?_
    exact hk3 _ (FrLe.cons rfl (FrLe.cons rfl (FrLe.cons rfl (FrLe.cons rfl (FrLe.cons (by rw [e3]; rfl) (FrLe.nil _))))))
  intro fr hl
  refine Lfr hl ?_
  refine Lp (V_move rfl rfl) rfl rfl ?_
  refine LsplitJ 7 ((!(decide (x14_1 = 0))) || ((lessS a1 a2) || (decide (a1 = a2)))) (bor_iff (bnot_iff decide_eq_true_iff) (bor_iff Iff.rfl decide_eq_true_iff)) h (fun fr σ => ∃ (x28_3 : Bool), FrLe [(0, .pointer a0), (1, .string a1), (2, .string a2), (3, .pointer a3), (28, .bool x28_3)] fr ∧ j2_ztree_Tree_lay B ro a0 a1 a2 a3 Q x28_3 σ) ?_ ?_ ?_
  · intro h e8 hk8
    refine Ln rfl rfl rfl rfl (.inl (by rw [e8]; rfl)) ?_
    refine Ln rfl rfl rfl rfl (.inl (by rw [e8]; rfl)) ?_
    refine Ln rfl rfl rfl rfl (.inl (by rw [e8]; rfl)) ?_
    refine Ln rfl rfl rfl rfl (.inl (by rw [e8]; rfl)) ?_
    refine Ln rfl rfl rfl rfl (.inl (by rw [e8]; rfl)) ?_
    refine Ln rfl rfl rfl rfl (.inl (by rw [e8]; rfl)) ?_
    refine Lp (V_pickT rfl (evb e8) rfl) rfl rfl ?_
    exact hk8 _ _ ⟨_, (FrLe.cons rfl (FrLe.cons rfl (FrLe.cons rfl (FrLe.cons rfl (FrLe.cons rfl (FrLe.nil _)))))), h⟩
  · intro h e8 hk8
    refine Lypb (V_move rfl rfl) rfl rfl rfl rfl e8 ?_
    obtain ⟨p23_44, hc, h⟩ := h
    refine Lypb (V_nil rfl (by rw [← hc]; rfl)) rfl rfl rfl rfl e8 ?_
    refine Lypb (V_fld rfl Tryz.underlying133 rfl ty30 (by decide) rfl) rfl rfl rfl rfl e8 ?_
    obtain ⟨x25_45, hc, h⟩ := h
    refine Lyb rfl rfl rfl rfl e8 (X_ld rfl Tryz.underlying30 rfl rfl hc ?_)
    refine Lypb (V_lenL rfl rfl Tryz.underlying30 rfl rfl) rfl rfl rfl rfl e8 ?_
    refine Lypb (V_gtr rfl rfl rfl) rfl rfl rfl rfl e8 ?_
    refine Lp (V_pickF rfl (evb e8) rfl) rfl rfl ?_
    exact hk8 _ _ ⟨_, (FrLe.cons rfl (FrLe.cons rfl (FrLe.cons rfl (FrLe.cons rfl (FrLe.cons rfl (FrLe.nil _)))))), h⟩
  rintro fr σ ⟨x28_3, hl, h⟩
  unfold j2_ztree_Tree_lay at h
  refine Lfr hl ?_
  refine Lp (V_move rfl rfl) rfl rfl ?_
  refine LsplitJ 7 x28_3 Iff.rfl h (fun fr σ => ∃ (x36_5 : Bool), FrLe [(0, .pointer a0), (1, .string a1), (2, .string a2), (3, .pointer a3), (36, .bool x36_5)] fr ∧ j4_ztree_Tree_lay B ro a0 a1 a2 a3 Q x36_5 σ) ?_ ?_ ?_
  · intro h e16 hk16
    refine Ln rfl rfl rfl rfl (.inl (by rw [e16]; rfl)) ?_
    refine Ln rfl rfl rfl rfl (.inl (by rw [e16]; rfl)) ?_
    refine Ln rfl rfl rfl rfl (.inl (by rw [e16]; rfl)) ?_
    refine Ln rfl rfl rfl rfl (.inl (by rw [e16]; rfl)) ?_
    refine Ln rfl rfl rfl rfl (.inl (by rw [e16]; rfl)) ?_
    refine Ln rfl rfl rfl rfl (.inl (by rw [e16]; rfl)) ?_
    refine Lp (V_pickT rfl (evb e16) rfl) rfl rfl ?_
    exact hk16 _ _ ⟨_, (FrLe.cons rfl (FrLe.cons rfl (FrLe.cons rfl (FrLe.cons rfl (FrLe.cons rfl (FrLe.nil _)))))), h⟩
  · intro h e16 hk16
    refine Lypb (V_move rfl rfl) rfl rfl rfl rfl e16 ?_
    obtain ⟨p31_42, hc, h⟩ := h
    refine Lypb (V_nil rfl (by rw [← hc]; rfl)) rfl rfl rfl rfl e16 ?_
    refine Lypb (V_fld rfl Tryz.underlying133 rfl ty32 (by decide) rfl) rfl rfl rfl rfl e16 ?_
    refine Lypb (V_fld rfl Tryz.underlying32 rfl ty3 (by decide) rfl) rfl rfl rfl rfl e16 ?_
    obtain ⟨x34_43, hc, h⟩ := h
    refine Lyb rfl rfl rfl rfl e16 (X_ld rfl Tryz.underlying3 rfl rfl hc ?_)
    refine Lypb (V_gtr rfl rfl rfl) rfl rfl rfl rfl e16 ?_
    refine Lp (V_pickF rfl (evb e16) rfl) rfl rfl ?_
    exact hk16 _ _ ⟨_, (FrLe.cons rfl (FrLe.cons rfl (FrLe.cons rfl (FrLe.cons rfl (FrLe.cons rfl (FrLe.nil _)))))), h⟩
  rintro fr σ ⟨x36_5, hl, h⟩
  unfold j4_ztree_Tree_lay at h
  refine Lfr hl ?_
  refine Lp (V_move rfl rfl) rfl rfl ?_
  refine LsplitJ 15 x36_5 Iff.rfl h (fun fr σ => ∃ (x52_7 : Bool), FrLe [(0, .pointer a0), (1, .string a1), (2, .string a2), (3, .pointer a3), (52, .bool x52_7)] fr ∧ j6_ztree_Tree_lay B ro a0 a1 a2 a3 Q x52_7 σ) ?_ ?_ ?_
  · intro h e24 hk24
    refine Ln rfl rfl rfl rfl (.inl (by rw [e24]; rfl)) ?_
    refine Ln rfl rfl rfl rfl (.inl (by rw [e24]; rfl)) ?_
    refine Ln rfl rfl rfl rfl (.inl (by rw [e24]; rfl)) ?_
    refine Ln rfl rfl rfl rfl (.inl (by rw [e24]; rfl)) ?_
    refine Ln rfl rfl rfl rfl (.inl (by rw [e24]; rfl)) ?_
    refine Ln rfl rfl rfl rfl (.inl (by rw [e24]; rfl)) ?_
    refine Ln rfl rfl rfl rfl (.inl (by rw [e24]; rfl)) ?_
    refine Ln rfl rfl rfl rfl (.inr rfl) ?_
    refine Ln rfl rfl rfl rfl (.inr rfl) ?_
    refine Ln rfl rfl rfl rfl (.inr rfl) ?_
    refine Ln rfl rfl rfl rfl (.inr rfl) ?_
    refine Ln rfl rfl rfl rfl (.inr rfl) ?_
    refine Ln rfl rfl rfl rfl (.inr rfl) ?_
    refine Ln rfl rfl rfl rfl (.inl (by rw [e24]; rfl)) ?_
    refine Lp (V_pickT rfl (evb e24) rfl) rfl rfl ?_
    exact hk24 _ _ ⟨_, (FrLe.cons rfl (FrLe.cons rfl (FrLe.cons rfl (FrLe.cons rfl (FrLe.cons rfl (FrLe.nil _)))))), h⟩
  · intro h e24 hk24
    refine Lypb (V_move rfl rfl) rfl rfl rfl rfl e24 ?_
    obtain ⟨p39_36, hc, h⟩ := h
    refine Lypb (V_nil rfl (by rw [← hc]; rfl)) rfl rfl rfl rfl e24 ?_
    refine Lypb (V_fld rfl Tryz.underlying133 rfl ty32 (by decide) rfl) rfl rfl rfl rfl e24 ?_
    refine Lypb (V_fld rfl Tryz.underlying32 rfl ty3 (by decide) rfl) rfl rfl rfl rfl e24 ?_
    obtain ⟨x42_37, hc, h⟩ := h
    refine Lyb rfl rfl rfl rfl e24 (X_ld rfl Tryz.underlying3 rfl rfl hc ?_)
    refine Lypb (V_neq rfl rfl rfl) rfl rfl rfl rfl e24 ?_
    refine Lypb (V_move rfl rfl) rfl rfl rfl rfl e24 ?_
    refine LsplitJ 7 (!(decide (x42_37 = 0))) (bnot_iff decide_eq_true_iff) h (fun fr σ => ∃ (x51_39 : Bool), FrLe [(0, .pointer a0), (1, .string a1), (2, .string a2), (3, .pointer a3), (37, .bool x36_5), (51, .bool x51_39)] fr ∧ j38_ztree_Tree_lay B ro a0 a1 a2 a3 x36_5 Q x51_39 σ) ?_ ?_ ?_
    · intro h e31 hk31
      refine Lypb (V_move rfl rfl) rfl rfl rfl rfl e31 ?_
      obtain ⟨p46_40, hc, h⟩ := h
      refine Lypb (V_nil rfl (by rw [← hc]; rfl)) rfl rfl rfl rfl e31 ?_
      refine Lypb (V_fld rfl Tryz.underlying133 rfl ty32 (by decide) rfl) rfl rfl rfl rfl e31 ?_
      refine Lypb (V_fld rfl Tryz.underlying32 rfl ty3 (by decide) rfl) rfl rfl rfl rfl e31 ?_
      obtain ⟨x49_41, hc, h⟩ := h
      refine Lyb rfl rfl rfl rfl e31 (X_ld rfl Tryz.underlying3 rfl rfl hc ?_)
      refine Lypb (V_gtr rfl rfl rfl) rfl rfl rfl rfl e31 ?_
      refine Lypb (V_pickT rfl (evb e31) rfl) rfl rfl rfl rfl e24 ?_
      exact hk31 _ _ ⟨_, (FrLe.cons rfl (FrLe.cons rfl (FrLe.cons rfl (FrLe.cons rfl (FrLe.cons rfl (FrLe.cons rfl (FrLe.nil _))))))), h⟩
    · intro h e31 hk31
      refine Ln rfl rfl rfl rfl (.inl (by rw [e31]; rfl)) ?_
      refine Ln rfl rfl rfl rfl (.inl (by rw [e31]; rfl)) ?_
      refine Ln rfl rfl rfl rfl (.inl (by rw [e31]; rfl)) ?_
      refine Ln rfl rfl rfl rfl (.inl (by rw [e31]; rfl)) ?_
      refine Ln rfl rfl rfl rfl (.inl (by rw [e31]; rfl)) ?_
      refine Ln rfl rfl rfl rfl (.inl (by rw [e31]; rfl)) ?_
      refine Lypb (V_pickF rfl (evb e31) rfl) rfl rfl rfl rfl e24 ?_
      exact hk31 _ _ ⟨_, (FrLe.cons rfl (FrLe.cons rfl (FrLe.cons rfl (FrLe.cons rfl (FrLe.cons rfl (FrLe.cons rfl (FrLe.nil _))))))), h⟩
    rintro fr σ ⟨x51_39, hl, h⟩
    unfold j38_ztree_Tree_lay at h
    refine Lfr hl ?_
    refine Lp (V_pickF rfl (evb e24) rfl) rfl rfl ?_
    exact hk24 _ _ ⟨_, (FrLe.cons rfl (FrLe.cons rfl (FrLe.cons rfl (FrLe.cons rfl (FrLe.cons rfl (FrLe.nil _)))))), h⟩
  rintro fr σ ⟨x52_7, hl, h⟩
  unfold j6_ztree_Tree_lay at h
  refine Lfr hl ?_
  refine Lp (V_asg rfl rfl) rfl rfl ?_
  refine Lnil ?_
  refine thenN ?_
  refine AW.iff rfl Iff.rfl h (fun h => ?_) (fun h => ?_)
  · refine AW.seq ?_
    refine AW.reg ?_
    refine Lp (V_asg rfl rfl) rfl rfl ?_
    refine Lnil ?_
    refine thenN ?_
    refine AW.ret ?_
    refine blockR ?_
    refine thenR ?_
    exact bR1 Tryz.results80 rfl ⟨_, rfl, h⟩
  refine AW.seq ?_
  refine AW.reg ?_
  refine Lp (V_move rfl rfl) rfl rfl ?_
  refine Lp (V_eqlS rfl rfl rfl) rfl rfl ?_
  refine Lp (V_asg rfl rfl) rfl rfl ?_
  refine Lnil ?_
  refine thenN ?_
  refine AW.iff rfl decide_eq_true_iff h (fun h => ?_) (fun h => ?_)
  rotate_left
  · refine AW.skip ?_
    refine blockN ?_
    refine thenN ?_
    refine AW.seq ?_
    refine AW.reg ?_
    refine Lp (V_move rfl rfl) rfl rfl ?_
    refine Ls rfl rfl (X_call rfl Tryz.func62 rfl rfl rfl (ACalls.mono h ?_))
    rintro v σ ⟨x90_22, x90_23, rfl, h⟩
    refine Lp (V_move rfl rfl) rfl rfl ?_
    refine Lp (V_ext rfl rfl rfl) rfl rfl ?_
    refine Lp (V_ext rfl rfl rfl) rfl rfl ?_
    refine Lp (V_asg rfl rfl) rfl rfl ?_
    refine Lp (V_asg rfl rfl) rfl rfl ?_
    refine Lnil ?_
    refine thenN ?_
    refine AW.seq ?_
    refine AW.reg ?_
    refine Lp (V_move rfl rfl) rfl rfl ?_
    obtain ⟨p94_24, hc, h⟩ := h
    refine Lp (V_nil rfl (by rw [← hc]; rfl)) rfl rfl ?_
    refine Lp (V_fld rfl Tryz.underlying128 rfl ty126 (by decide) rfl) rfl rfl ?_
    obtain ⟨x96_25, hc, h⟩ := h
    refine Ls rfl rfl (X_ld rfl Tryz.underlying126 rfl rfl hc ?_)
    refine Lp (V_move rfl rfl) rfl rfl ?_
    refine Ls rfl rfl (X_lkp rfl rfl rfl (awp_mono _ h ?_))
    rintro v σ ⟨x98_26, rfl, h⟩
    refine Lp (V_asg rfl rfl) rfl rfl ?_
    refine Lnil ?_
    refine thenN ?_
    refine AW.seq ?_
    refine AW.seq ?_
    refine AW.reg ?_
    refine Lp (V_move rfl rfl) rfl rfl ?_
    refine Lp (V_eqP rfl Tryz.underlying129 rfl rfl) rfl rfl ?_
    refine Lp (V_move rfl rfl) rfl rfl ?_
    refine LsplitJ 7 x98_26.isNone isNone_iff h (fun fr σ => ∃ (x108_28 : Bool), FrLe [(0, .pointer a0), (1, .string a1), (3, .pointer a3), (11, .pointer x98_26), (108, .bool x108_28)] fr ∧ j27_ztree_Tree_lay B ro a0 a1 a3 x98_26 Q x108_28 σ) ?_ ?_ ?_
    · intro h e2 hk2
      refine Ln rfl rfl rfl rfl (.inl (by rw [e2]; rfl)) ?_
      refine Ln rfl rfl rfl rfl (.inl (by rw [e2]; rfl)) ?_
      refine Ln rfl rfl rfl rfl (.inl (by rw [e2]; rfl)) ?_
      refine Ln rfl rfl rfl rfl (.inl (by rw [e2]; rfl)) ?_
      refine Ln rfl rfl rfl rfl (.inl (by rw [e2]; rfl)) ?_
      refine Ln rfl rfl rfl rfl (.inl (by rw [e2]; rfl)) ?_
      refine Lp (V_pickT rfl (evb e2) rfl) rfl rfl ?_
      exact hk2 _ _ ⟨_, (FrLe.cons rfl (FrLe.cons rfl (FrLe.cons rfl (FrLe.cons rfl (FrLe.cons rfl (FrLe.nil _)))))), h⟩
    · intro h e2 hk2
      refine Lypb (V_move rfl rfl) rfl rfl rfl rfl e2 ?_
      obtain ⟨p103_34, hc, h⟩ := h
      refine Lypb (V_nil rfl (by rw [← hc]; rfl)) rfl rfl rfl rfl e2 ?_
      refine Lypb (V_fld rfl Tryz.underlying133 rfl ty32 (by decide) rfl) rfl rfl rfl rfl e2 ?_
      refine Lypb (V_fld rfl Tryz.underlying32 rfl ty3 (by decide) rfl) rfl rfl rfl rfl e2 ?_
      obtain ⟨x106_35, hc, h⟩ := h
      refine Lyb rfl rfl rfl rfl e2 (X_ld rfl Tryz.underlying3 rfl rfl hc ?_)
      refine Lypb (V_neq rfl rfl rfl) rfl rfl rfl rfl e2 ?_
      refine Lp (V_pickF rfl (evb e2) rfl) rfl rfl ?_
      exact hk2 _ _ ⟨_, (FrLe.cons rfl (FrLe.cons rfl (FrLe.cons rfl (FrLe.cons rfl (FrLe.cons rfl (FrLe.nil _)))))), h⟩
    rintro fr σ ⟨x108_28, hl, h⟩
    unfold j27_ztree_Tree_lay at h
    refine Lfr hl ?_
    refine Lnil ?_
    refine thenN ?_
    refine AW.iff rfl Iff.rfl h (fun h => ?_) (fun h => ?_)
    · refine AW.seq ?_
      refine AW.reg ?_
      refine Lp (V_asg rfl rfl) rfl rfl ?_
      refine Lnil ?_
      refine thenN ?_
      refine AW.ret ?_
      refine thenR ?_
      exact bR1 Tryz.results80 rfl ⟨_, rfl, h⟩
    refine AW.skip ?_
    refine thenN ?_
    refine AW.seq ?_
    refine AW.reg ?_
    refine Lp (V_move rfl rfl) rfl rfl ?_
    obtain ⟨p110_29, hc, h⟩ := h
    refine Lp (V_nil rfl (by rw [← hc]; rfl)) rfl rfl ?_
    refine Lp (V_fld rfl Tryz.underlying133 rfl ty32 (by decide) rfl) rfl rfl ?_
    refine Lp (V_fld rfl Tryz.underlying32 rfl ty3 (by decide) rfl) rfl rfl ?_
    obtain ⟨x113_30, hc, h⟩ := h
    refine Ls rfl rfl (X_ld rfl Tryz.underlying3 rfl rfl hc ?_)
    refine Lp (V_add rfl rfl rfl) rfl rfl ?_
    obtain ⟨p115_31, hc, h⟩ := h
    refine Lp (V_nil rfl (by rw [← hc]; rfl)) rfl rfl ?_
    refine Lp (V_fld rfl Tryz.underlying133 rfl ty32 (by decide) rfl) rfl rfl ?_
    refine Lp (V_fld rfl Tryz.underlying32 rfl ty3 (by decide) rfl) rfl rfl ?_
    refine Ls rfl rfl (X_st rfl ty3 rfl rfl rfl rfl (stN_mono h fun σ h => ?_))
    refine Lnil ?_
    refine thenN ?_
    refine AW.seq ?_
    refine AW.reg ?_
    refine Lp (V_move rfl rfl) rfl rfl ?_
    obtain ⟨p119_32, hc, h⟩ := h
    refine Lp (V_nil rfl (by rw [← hc]; rfl)) rfl rfl ?_
    refine Lp (V_fld rfl Tryz.underlying128 rfl ty126 (by decide) rfl) rfl rfl ?_
    obtain ⟨x121_33, hc, h⟩ := h
    refine Ls rfl rfl (X_ld rfl Tryz.underlying126 rfl rfl hc ?_)
    refine Lp (V_move rfl rfl) rfl rfl ?_
    refine Lp (V_move rfl rfl) rfl rfl ?_
    refine Ls rfl rfl (X_mup (.inl rfl) rfl rfl rfl (awp_mono _ h ?_))
    rintro _ σ h
    refine Lnil ?_
    refine thenN ?_
    refine AW.seq ?_
    refine AW.reg ?_
    refine Lp (V_asg rfl rfl) rfl rfl ?_
    refine Lnil ?_
    refine thenN ?_
    refine AW.ret ?_
    exact bR1 Tryz.results80 rfl ⟨_, rfl, h⟩
  refine AW.seq ?_
  refine AW.reg ?_
  refine Lp (V_move rfl rfl) rfl rfl ?_
  obtain ⟨p57_8, hc, h⟩ := h
  refine Lp (V_nil rfl (by rw [← hc]; rfl)) rfl rfl ?_
  refine Lp (V_fld rfl Tryz.underlying128 rfl ty126 (by decide) rfl) rfl rfl ?_
  obtain ⟨x59_9, hc, h⟩ := h
  refine Ls rfl rfl (X_ld rfl Tryz.underlying126 rfl rfl hc ?_)
  refine Lp (V_move rfl rfl) rfl rfl ?_
  refine Lp (V_move rfl rfl) rfl rfl ?_
  refine Ls rfl rfl (X_mup (.inl rfl) rfl rfl rfl (awp_mono _ h ?_))
  rintro _ σ h
  refine Lnil ?_
  refine thenN ?_
  refine AW.seq ?_
  refine AW.reg ?_
  refine Lp (V_move rfl rfl) rfl rfl ?_
  refine Lp (V_eqlS rfl rfl rfl) rfl rfl ?_
  refine Lp (V_move rfl rfl) rfl rfl ?_
  refine LsplitJ 7 (decide (a1 = (⟨#[47]⟩ : ByteArray))) decide_eq_true_iff h (fun fr σ => ∃ (x71_11 : Bool), FrLe [(3, .pointer a3), (71, .bool x71_11)] fr ∧ j10_ztree_Tree_lay B ro a3 Q x71_11 σ) ?_ ?_ ?_
  · intro h e2 hk2
    refine Lypb (V_move rfl rfl) rfl rfl rfl rfl e2 ?_
    obtain ⟨p66_20, hc, h⟩ := h
    refine Lypb (V_nil rfl (by rw [← hc]; rfl)) rfl rfl rfl rfl e2 ?_
    refine Lypb (V_fld rfl Tryz.underlying133 rfl ty30 (by decide) rfl) rfl rfl rfl rfl e2 ?_
    obtain ⟨x68_21, hc, h⟩ := h
    refine Lyb rfl rfl rfl rfl e2 (X_ld rfl Tryz.underlying30 rfl rfl hc ?_)
    refine Lypb (V_lenL rfl rfl Tryz.underlying30 rfl rfl) rfl rfl rfl rfl e2 ?_
    refine Lypb (V_eql rfl rfl rfl) rfl rfl rfl rfl e2 ?_
    refine Lp (V_pickT rfl (evb e2) rfl) rfl rfl ?_
    exact hk2 _ _ ⟨_, (FrLe.cons rfl (FrLe.cons rfl (FrLe.nil _))), h⟩
  · intro h e2 hk2
    refine Ln rfl rfl rfl rfl (.inl (by rw [e2]; rfl)) ?_
    refine Ln rfl rfl rfl rfl (.inl (by rw [e2]; rfl)) ?_
    refine Ln rfl rfl rfl rfl (.inl (by rw [e2]; rfl)) ?_
    refine Ln rfl rfl rfl rfl (.inl (by rw [e2]; rfl)) ?_
    refine Ln rfl rfl rfl rfl (.inl (by rw [e2]; rfl)) ?_
    refine Ln rfl rfl rfl rfl (.inl (by rw [e2]; rfl)) ?_
    refine Lp (V_pickF rfl (evb e2) rfl) rfl rfl ?_
    exact hk2 _ _ ⟨_, (FrLe.cons rfl (FrLe.cons rfl (FrLe.nil _))), h⟩
  rintro fr σ ⟨x71_11, hl, h⟩
  unfold j10_ztree_Tree_lay at h
  refine Lfr hl ?_
  refine Lp (V_move rfl rfl) rfl rfl ?_
  refine LsplitJ 7 x71_11 Iff.rfl h (fun fr σ => ∃ (x79_13 : Bool), FrLe [(3, .pointer a3), (79, .bool x79_13)] fr ∧ j12_ztree_Tree_lay B ro a3 Q x79_13 σ) ?_ ?_ ?_
  · intro h e10 hk10
    refine Lypb (V_move rfl rfl) rfl rfl rfl rfl e10 ?_
    obtain ⟨p74_18, hc, h⟩ := h
    refine Lypb (V_nil rfl (by rw [← hc]; rfl)) rfl rfl rfl rfl e10 ?_
    refine Lypb (V_fld rfl Tryz.underlying133 rfl ty32 (by decide) rfl) rfl rfl rfl rfl e10 ?_
    refine Lypb (V_fld rfl Tryz.underlying32 rfl ty3 (by decide) rfl) rfl rfl rfl rfl e10 ?_
    obtain ⟨x77_19, hc, h⟩ := h
    refine Lyb rfl rfl rfl rfl e10 (X_ld rfl Tryz.underlying3 rfl rfl hc ?_)
    refine Lypb (V_eql rfl rfl rfl) rfl rfl rfl rfl e10 ?_
    refine Lp (V_pickT rfl (evb e10) rfl) rfl rfl ?_
    exact hk10 _ _ ⟨_, (FrLe.cons rfl (FrLe.cons rfl (FrLe.nil _))), h⟩
  · intro h e10 hk10
    refine Ln rfl rfl rfl rfl (.inl (by rw [e10]; rfl)) ?_
    refine Ln rfl rfl rfl rfl (.inl (by rw [e10]; rfl)) ?_
    refine Ln rfl rfl rfl rfl (.inl (by rw [e10]; rfl)) ?_
    refine Ln rfl rfl rfl rfl (.inl (by rw [e10]; rfl)) ?_
    refine Ln rfl rfl rfl rfl (.inl (by rw [e10]; rfl)) ?_
    refine Ln rfl rfl rfl rfl (.inl (by rw [e10]; rfl)) ?_
    refine Lp (V_pickF rfl (evb e10) rfl) rfl rfl ?_
    exact hk10 _ _ ⟨_, (FrLe.cons rfl (FrLe.cons rfl (FrLe.nil _))), h⟩
  rintro fr σ ⟨x79_13, hl, h⟩
  unfold j12_ztree_Tree_lay at h
  refine Lfr hl ?_
  refine Lp (V_move rfl rfl) rfl rfl ?_
  refine LsplitJ 7 x79_13 Iff.rfl h (fun fr σ => ∃ (x87_15 : Bool), FrLe [(87, .bool x87_15)] fr ∧ j14_ztree_Tree_lay B ro Q x87_15 σ) ?_ ?_ ?_
  · intro h e18 hk18
    refine Lypb (V_move rfl rfl) rfl rfl rfl rfl e18 ?_
    obtain ⟨p82_16, hc, h⟩ := h
    refine Lypb (V_nil rfl (by rw [← hc]; rfl)) rfl rfl rfl rfl e18 ?_
    refine Lypb (V_fld rfl Tryz.underlying133 rfl ty32 (by decide) rfl) rfl rfl rfl rfl e18 ?_
    refine Lypb (V_fld rfl Tryz.underlying32 rfl ty3 (by decide) rfl) rfl rfl rfl rfl e18 ?_
    obtain ⟨x85_17, hc, h⟩ := h
    refine Lyb rfl rfl rfl rfl e18 (X_ld rfl Tryz.underlying3 rfl rfl hc ?_)
    refine Lypb (V_eql rfl rfl rfl) rfl rfl rfl rfl e18 ?_
    refine Lp (V_pickT rfl (evb e18) rfl) rfl rfl ?_
    exact hk18 _ _ ⟨_, (FrLe.cons rfl (FrLe.nil _)), h⟩
  · intro h e18 hk18
    refine Ln rfl rfl rfl rfl (.inl (by rw [e18]; rfl)) ?_
    refine Ln rfl rfl rfl rfl (.inl (by rw [e18]; rfl)) ?_
    refine Ln rfl rfl rfl rfl (.inl (by rw [e18]; rfl)) ?_
    refine Ln rfl rfl rfl rfl (.inl (by rw [e18]; rfl)) ?_
    refine Ln rfl rfl rfl rfl (.inl (by rw [e18]; rfl)) ?_
    refine Ln rfl rfl rfl rfl (.inl (by rw [e18]; rfl)) ?_
    refine Lp (V_pickF rfl (evb e18) rfl) rfl rfl ?_
    exact hk18 _ _ ⟨_, (FrLe.cons rfl (FrLe.nil _)), h⟩
  rintro fr σ ⟨x87_15, hl, h⟩
  unfold j14_ztree_Tree_lay at h
  refine Lfr hl ?_
  refine Lp (V_asg rfl rfl) rfl rfl ?_
  refine Lnil ?_
  refine thenN ?_
  refine AW.ret ?_
  refine blockR ?_
  refine thenR ?_
  exact bR1 Tryz.results80 rfl ⟨_, rfl, h⟩

def j1_ztree_Tree_Owned (B : World) (ro : AH) (Q : Sl → AH → Prop) (x5_2 : Sl) (σ : AH) : Prop :=
 Q x5_2 σ

def j7_ztree_Tree_Owned (B : World) (ro : AH) (a0 : Option Addr) (a1 : Sl) (x10_3 : Sl) (x12_6 : Int) (Q : Sl → AH → Prop) (Y4 : (Sl × Int) → AH → Prop) (x5_8 : Sl) (σ : AH) : Prop :=
 Y4 (x5_8, IntKind.i64.wrap (x12_6 + 1)) σ

def j16_ztree_Tree_Owned (B : World) (ro : AH) (a0 : Option Addr) (a1 : Sl) (x5_5 : Sl) (x10_3 : Sl) (x12_6 : Int) (x15_10 : ByteArray) (Q : Sl → AH → Prop) (Y4 : (Sl × Int) → AH → Prop) (x32_17 : Bool) (σ : AH) : Prop :=
 if x32_17 = true then
  nw ro σ (.cells #[.string x15_10] 9) fun x35_18 σ =>
  awp Tryz.prog ro (Builtin.append_ #[25, 25] 25 #[Sl.v x5_5, Sl.v (⟨some ⟨x35_18, 0, none⟩, 1, 1⟩ : Sl)]) (fun v σ => ∃ (x36_19 : Sl), v = Sl.v x36_19 ∧
   j7_ztree_Tree_Owned B ro a0 a1 x10_3 x12_6 Q Y4 x36_19 σ) σ
 else
 j7_ztree_Tree_Owned B ro a0 a1 x10_3 x12_6 Q Y4 x5_5 σ

def l4_ztree_Tree_Owned (B : World) (ro : AH) (a0 : Option Addr) (a1 : Sl) (x10_3 : Sl) (Q : Sl → AH → Prop) : (Sl × Int) → AH → ((Sl × Int) → AH → Prop) → Prop := fun ⟨x5_5, x12_6⟩ σ Y4 =>
 if x12_6 < (x10_3.len : Int) then
  ∃ p14_9 : Addr, x10_3.a = some p14_9 ∧ (0 : Int) ≤ x12_6 ∧ x12_6 < (x10_3.len : Int) ∧
  ∃ (x15_10 : ByteArray), acell ro σ (p14_9.add (Int.toNat x12_6 * 1)) = some (.string x15_10) ∧
  ∃ p17_11 : Addr, a0 = some p17_11 ∧
  ∃ (x19_12 : Option Nat), acell ro σ p17_11 = some (.map x19_12) ∧
  awp Tryz.prog ro (Instr.lookup 126 (.map x19_12) (.string x15_10) false) (fun v σ =>
   (∃ (x21_13 : Option Addr), v = .pointer x21_13 ∧
    ∃ p22_14 : Addr, x21_13 = some p22_14 ∧
    ∃ (x25_15 : Int), acell ro σ (p22_14.add 2) = some (.int .i64 x25_15) ∧
    if ¬ (x25_15 = 0) then
     c_slices_Contains_int_int B ro a1 x25_15 σ fun x31_20 σ =>
     j16_ztree_Tree_Owned B ro a0 a1 x5_5 x10_3 x12_6 x15_10 Q Y4 x31_20 σ
    else
    j16_ztree_Tree_Owned B ro a0 a1 x5_5 x10_3 x12_6 x15_10 Q Y4 false σ)) σ
 else
 j1_ztree_Tree_Owned B ro Q x5_5 σ

def f_ztree_Tree_Owned (B : World) (ro : AH) (a0 : Option Addr) (a1 : Sl) (σ : AH) (Q : Sl → AH → Prop) : Prop :=
 c_ztree_Tree_paths B ro a0 σ fun x10_3 σ =>
 lfpD (l4_ztree_Tree_Owned B ro a0 a1 x10_3 Q ) ((⟨none, 0, 0⟩ : Sl), 0) σ

set_option maxRecDepth 100000 in
set_option maxHeartbeats 4000000 in
theorem ztree_Tree_Owned_ok {B : World} {ro : AH} {a0 : Option Addr} {a1 : Sl} {σ : AH} {Q : Sl → AH → Prop} (h : Sep ro σ → f_ztree_Tree_Owned B ro a0 a1 σ Q) : c_ztree_Tree_Owned B ro a0 a1 σ Q := by
  refine ACalls.of_sep fun hsep => ?_
  replace h := h hsep
  refine ACalls.of_body (args := [.pointer a0, Sl.v a1]) Tryz.func87 rfl (by rw [Tryz.ntmps87]; simp) ?_
  rw [Tryz.ntmps87]
  unfold f_ztree_Tree_Owned at h
  refine AW.seq ?_
  refine AW.reg ?_
  refine Lp (V_asg rfl rfl) rfl rfl ?_
  refine Lnil ?_
  refine thenN ?_
  refine AW.seq ?_
  refine AW.reg ?_
  refine Lp (V_asg rfl rfl) rfl rfl ?_
  refine Lnil ?_
  refine thenN ?_
  refine AW.seqJ (fun fr σ => ∃ (x5_2 : Sl), FrLe [(5, Sl.v x5_2)] fr ∧ j1_ztree_Tree_Owned B ro Q x5_2 σ) ?_ ?_
  · rintro fr σ ⟨x5_2, hl, h⟩
    refine AW.weaken ?_ hl (HLe.refl _)
    unfold j1_ztree_Tree_Owned at h
    refine AW.seq ?_
    refine AW.reg ?_
    refine Lp (V_move rfl rfl) rfl rfl ?_
    refine Lp (V_asg rfl rfl) rfl rfl ?_
    refine Lnil ?_
    refine thenN ?_
    refine AW.ret ?_
    exact bR1 Tryz.results87 rfl ⟨_, rfl, h⟩
  refine AW.seq ?_
  refine AW.reg ?_
  refine Lp (V_move rfl rfl) rfl rfl ?_
  refine Ls rfl rfl (X_call rfl Tryz.func57 rfl rfl rfl (ACalls.mono h ?_))
  rintro v σ ⟨x10_3, rfl, h⟩
  refine Lp (V_lenL rfl rfl Tryz.underlying25 rfl rfl) rfl rfl ?_
  refine Lp (V_move rfl rfl) rfl rfl ?_
  refine Lnil ?_
  refine thenN ?_
  refine AW.block ?_
  refine ARound.loop (fr' := [(0, .pointer a0), (1, Sl.v a1), (10, Sl.v x10_3), (11, .int .i64 (x10_3.len : Int)), (5, Sl.v (⟨none, 0, 0⟩ : Sl)), (12, .int .i64 0)]) ?_ (FrLe.cons rfl (FrLe.cons rfl (FrLe.cons rfl (FrLe.cons rfl (FrLe.cons rfl (FrLe.cons rfl (FrLe.nil _)))))))
  refine h (fun ⟨x5_5, x12_6⟩ σ => ARound _ _ _ _ _ _ [(0, .pointer a0), (1, Sl.v a1), (10, Sl.v x10_3), (11, .int .i64 (x10_3.len : Int)), (5, Sl.v x5_5), (12, .int .i64 x12_6)] σ) ?_
  rintro ⟨x5_5, x12_6⟩ σ Y4 hY4 h
  show AW _ _ _ _ _ _ _ _
  unfold l4_ztree_Tree_Owned at h
  dsimp only at h
  refine AW.seq ?_
  refine AW.reg ?_
  refine Lp (V_lss rfl rfl rfl) rfl rfl ?_
  refine Lnil ?_
  refine thenN ?_
  refine AW.seq ?_
  refine AW.iff rfl decide_eq_true_iff h (fun h => ?_) (fun h => ?_)
  rotate_left
  · refine AW.exit ?_
    refine thenE ?_
    refine thenE ?_
    refine blockE ?_
    refine thenN ?_
    exact ⟨_, (FrLe.cons rfl (FrLe.nil _)), h⟩
  refine AW.skip ?_
  refine thenN ?_
  refine AW.seqJ (fun fr σ => ∃ (x5_8 : Sl), FrLe [(0, .pointer a0), (1, Sl.v a1), (10, Sl.v x10_3), (11, .int .i64 (x10_3.len : Int)), (12, .int .i64 x12_6), (5, Sl.v x5_8)] fr ∧ j7_ztree_Tree_Owned B ro a0 a1 x10_3 x12_6 Q Y4 x5_8 σ) ?_ ?_
  · rintro fr σ ⟨x5_8, hl, h⟩
    refine AW.weaken ?_ hl (HLe.refl _)
    unfold j7_ztree_Tree_Owned at h
    refine AW.reg ?_
    refine Lp (V_add rfl rfl rfl) rfl rfl ?_
    refine Lp (V_move rfl rfl) rfl rfl ?_
    refine Lnil ?_
    refine thenN ?_
    refine ARound.head (fr' := [(0, .pointer a0), (1, Sl.v a1), (10, Sl.v x10_3), (11, .int .i64 (x10_3.len : Int)), (5, Sl.v x5_8), (12, .int .i64 (IntKind.i64.wrap (x12_6 + 1)))]) ?_ (FrLe.cons rfl (FrLe.cons rfl (FrLe.cons rfl (FrLe.cons rfl (FrLe.cons rfl (FrLe.cons rfl (FrLe.nil _)))))))
    exact hY4 _ _ h
  refine AW.block ?_
  refine AW.seq ?_
  refine AW.reg ?_
  obtain ⟨p14_9, ha, h0, h1, h⟩ := h
  refine Lp (V_ixA rfl Tryz.underlying25 ty9 (ixL rfl ha) rfl h0 h1) rfl rfl ?_
  obtain ⟨x15_10, hc, h⟩ := h
  refine Ls rfl rfl (X_ld rfl Tryz.underlying9 rfl rfl hc ?_)
  refine Lp (V_asg rfl rfl) rfl rfl ?_
  refine Lnil ?_
  refine thenN ?_
  refine AW.seq ?_
  refine AW.reg ?_
  refine Lp (V_move rfl rfl) rfl rfl ?_
  obtain ⟨p17_11, hc, h⟩ := h
  refine Lp (V_nil rfl (by rw [← hc]; rfl)) rfl rfl ?_
  refine Lp (V_fld rfl Tryz.underlying128 rfl ty126 (by decide) rfl) rfl rfl ?_
  obtain ⟨x19_12, hc, h⟩ := h
  refine Ls rfl rfl (X_ld rfl Tryz.underlying126 rfl rfl hc ?_)
  refine Lp (V_move rfl rfl) rfl rfl ?_
  refine Ls rfl rfl (X_lkp rfl rfl rfl (awp_mono _ h ?_))
  rintro v σ ⟨x21_13, rfl, h⟩
  obtain ⟨p22_14, hc, h⟩ := h
  refine Lp (V_nil rfl (by rw [← hc]; rfl)) rfl rfl ?_
  refine Lp (V_fld rfl Tryz.underlying133 rfl ty32 (by decide) rfl) rfl rfl ?_
  refine Lp (V_fld rfl Tryz.underlying32 rfl ty3 (by decide) rfl) rfl rfl ?_
  obtain ⟨x25_15, hc, h⟩ := h
  refine Ls rfl rfl (X_ld rfl Tryz.underlying3 rfl rfl hc ?_)
  refine Lp (V_asg rfl rfl) rfl rfl ?_
  refine Lnil ?_
  refine thenN ?_
  refine AW.seq ?_
  refine AW.reg ?_
  refine Lp (V_move rfl rfl) rfl rfl ?_
  refine Lp (V_neq rfl rfl rfl) rfl rfl ?_
  refine Lp (V_move rfl rfl) rfl rfl ?_
  refine LsplitJ 4 (!(decide (x25_15 = 0))) (bnot_iff decide_eq_true_iff) h (fun fr σ => ∃ (x32_17 : Bool), FrLe [(0, .pointer a0), (1, Sl.v a1), (5, Sl.v x5_5), (7, .string x15_10), (10, Sl.v x10_3), (11, .int .i64 (x10_3.len : Int)), (12, .int .i64 x12_6), (32, .bool x32_17)] fr ∧ j16_ztree_Tree_Owned B ro a0 a1 x5_5 x10_3 x12_6 x15_10 Q Y4 x32_17 σ) ?_ ?_ ?_
  · intro h e2 hk2
    refine Lypb (V_move rfl rfl) rfl rfl rfl rfl e2 ?_
    refine Lypb (V_move rfl rfl) rfl rfl rfl rfl e2 ?_
    refine Lyb rfl rfl rfl rfl e2 (X_call rfl Tryz.func121 rfl rfl rfl (ACalls.mono h ?_))
    rintro v σ ⟨x31_20, rfl, h⟩
    refine Lp (V_pickT rfl (evb e2) rfl) rfl rfl ?_
    exact hk2 _ _ ⟨_, (FrLe.cons rfl (FrLe.cons rfl (FrLe.cons rfl (FrLe.cons rfl (FrLe.cons rfl (FrLe.cons rfl (FrLe.cons rfl (FrLe.cons rfl (FrLe.nil _))))))))), h⟩
  · intro h e2 hk2
    refine Ln rfl rfl rfl rfl (.inl (by rw [e2]; rfl)) ?_
    refine Ln rfl rfl rfl rfl (.inl (by rw [e2]; rfl)) ?_
    refine Ln rfl rfl rfl rfl (.inl (by rw [e2]; rfl)) ?_
    refine Lp (V_pickF rfl (evb e2) rfl) rfl rfl ?_
    exact hk2 _ _ ⟨_, (FrLe.cons rfl (FrLe.cons rfl (FrLe.cons rfl (FrLe.cons rfl (FrLe.cons rfl (FrLe.cons rfl (FrLe.cons rfl (FrLe.cons rfl (FrLe.nil _))))))))), h⟩
  rintro fr σ ⟨x32_17, hl, h⟩
  unfold j16_ztree_Tree_Owned at h
  refine Lfr hl ?_
  refine Lnil ?_
  refine thenN ?_
  refine AW.iff rfl Iff.rfl h (fun h => ?_) (fun h => ?_)
  rotate_left
  · refine AW.skip ?_
    refine blockN ?_
    refine thenN ?_
    exact ⟨_, (FrLe.cons rfl (FrLe.cons rfl (FrLe.cons rfl (FrLe.cons rfl (FrLe.cons rfl (FrLe.cons rfl (FrLe.nil _))))))), h⟩
  refine AW.reg ?_
  refine Lp (V_move rfl rfl) rfl rfl ?_
  refine Lp (V_move rfl rfl) rfl rfl ?_
  refine Ls rfl rfl (X_new (A_bsl (vs := [(0, .string x15_10)]) (cs := #[.string x15_10]) rfl Tryz.underlying25 ty9 (by decide) rfl rfl) fun x35_18 g1 g2 => ?_)
  replace h := h x35_18 g1 g2
  refine Ls rfl rfl (X_bi (s := Builtin.append_ #[25, 25] 25 #[Sl.v x5_5, Sl.v (⟨some ⟨x35_18, 0, none⟩, 1, 1⟩ : Sl)]) rfl rfl (fun _ => rfl) (awp_mono _ h ?_))
  rintro v σ ⟨x36_19, rfl, h⟩
  refine Lp (V_asg rfl rfl) rfl rfl ?_
  refine Lnil ?_
  refine blockN ?_
  refine thenN ?_
  exact ⟨_, (FrLe.cons rfl (FrLe.cons rfl (FrLe.cons rfl (FrLe.cons rfl (FrLe.cons rfl (FrLe.cons rfl (FrLe.nil _))))))), h⟩

end Go.Proofs.YthfpmipeejjogaaGreatDoor.G
