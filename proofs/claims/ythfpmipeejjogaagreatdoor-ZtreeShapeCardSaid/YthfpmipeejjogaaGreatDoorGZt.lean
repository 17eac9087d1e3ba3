/- Functions as predicate transformers, and the proofs that the code does what they tell: printed by wip/tools/gen.py. -/
import Derived.Test.YthfpmipeejjogaaGreatDoorGC
namespace Go.Proofs.YthfpmipeejjogaaGreatDoor.G
open Go Go.Proofs.YthfpmipeejjogaaGreatDoor.SL
set_option linter.unusedVariables false
set_option linter.unusedSimpArgs false

def f_ztree_Tree_Paths (B : World) (ro : AH) (a0 : Option Addr) (a1 : ByteArray) (σ : AH) (Q : Sl → Int → AH → Prop) : Prop :=
 nw ro σ (.cells #[.string a1] 9) fun x3_1 σ =>
 ∃ (x7_2 : ByteArray), acell ro σ ⟨x3_1, 0, none⟩ = some (.string x7_2) ∧
 c_path_Check B ro x7_2 σ fun x8_3 σ =>
 if ¬ (x8_3 = 0) then
  Q (⟨none, 0, 0⟩ : Sl) x8_3 σ
 else
 c_ztree_Tree_paths B ro a0 σ fun x13_4 σ =>
 c_slices_DeleteFunc_string_string B ro x13_4 (.func (.func 58) #[] #[.pointer (some ⟨x3_1, 0, none⟩)]) σ fun x15_5 σ =>
 Q x15_5 0 σ

set_option maxRecDepth 100000 in
set_option maxHeartbeats 4000000 in
theorem ztree_Tree_Paths_ok {B : World} {ro : AH} {a0 : Option Addr} {a1 : ByteArray} {σ : AH} {Q : Sl → Int → AH → Prop} (h : Sep ro σ → f_ztree_Tree_Paths B ro a0 a1 σ Q) : c_ztree_Tree_Paths B ro a0 a1 σ Q := by
  refine ACalls.of_sep fun hsep => ?_
  replace h := h hsep
  refine ACalls.of_body (args := [.pointer a0, .string a1]) Tryz.func15 rfl (by rw [Tryz.ntmps15]; simp) ?_
  rw [Tryz.ntmps15]
  unfold f_ztree_Tree_Paths at h
  refine AW.seq ?_
  refine AW.reg ?_
  refine Ls rfl rfl (X_new (A_box rfl rfl) fun x3_1 g1 g2 => ?_)
  replace h := h x3_1 g1 g2
  refine Lp (V_asg rfl rfl) rfl rfl ?_
  refine Lp (V_asg rfl rfl) rfl rfl ?_
  refine Lnil ?_
  refine thenN ?_
  refine AW.seq ?_
  refine AW.seq ?_
  refine AW.reg ?_
  obtain ⟨x7_2, hc, h⟩ := h
  refine Ls rfl rfl (X_ld rfl Tryz.underlying9 rfl rfl hc ?_)
  refine Ls rfl rfl (X_call rfl Tryz.func55 rfl rfl rfl (ACalls.mono h ?_))
  rintro v σ ⟨x8_3, rfl, h⟩
  refine Lp (V_asg rfl rfl) rfl rfl ?_
  refine Lnil ?_
  refine thenN ?_
  refine AW.seq ?_
  refine AW.reg ?_
  refine Lp (V_move rfl rfl) rfl rfl ?_
  refine Lp (V_neq rfl rfl rfl) rfl rfl ?_
  refine Lnil ?_
  refine thenN ?_
  refine AW.iff rfl (bnot_iff decide_eq_true_iff) h (fun h => ?_) (fun h => ?_)
  · refine AW.seq ?_
    refine AW.reg ?_
    refine Lp (V_move rfl rfl) rfl rfl ?_
    refine Lp (V_asg rfl rfl) rfl rfl ?_
    refine Lp (V_asg rfl rfl) rfl rfl ?_
    refine Lnil ?_
    refine thenN ?_
    refine AW.ret ?_
    refine thenR ?_
    exact bR2 Tryz.results15 rfl rfl ⟨_, _, rfl, h⟩
  refine AW.skip ?_
  refine thenN ?_
  refine AW.seq ?_
  refine AW.reg ?_
  refine Lp (V_move rfl rfl) rfl rfl ?_
  refine Ls rfl rfl (X_call rfl Tryz.func57 rfl rfl rfl (ACalls.mono h ?_))
  rintro v σ ⟨x13_4, rfl, h⟩
  refine Lp (V_mkf rfl rfl rfl) rfl rfl ?_
  refine Ls rfl rfl (X_call rfl Tryz.func56 rfl rfl rfl (ACalls.mono h ?_))
  rintro v σ ⟨x15_5, rfl, h⟩
  refine Lp (V_asg rfl rfl) rfl rfl ?_
  refine Lp (V_asg rfl rfl) rfl rfl ?_
  refine Lnil ?_
  refine thenN ?_
  refine AW.ret ?_
  exact bR2 Tryz.results15 rfl rfl ⟨_, _, rfl, h⟩

def f_ztree_Tree_Size (B : World) (ro : AH) (a0 : Option Addr) (σ : AH) (Q : Int → AH → Prop) : Prop :=
 ∃ p4_1 : Addr, a0 = some p4_1 ∧
 ∃ (x6_2 : Option Nat), acell ro σ p4_1 = some (.map x6_2) ∧
 awp Tryz.prog ro (Builtin.len_ #[126] 3 #[.map x6_2]) (fun v σ => ∃ (x7_3 : Int), v = .int .i64 x7_3 ∧
  Q x7_3 σ) σ

set_option maxRecDepth 100000 in
set_option maxHeartbeats 4000000 in
theorem ztree_Tree_Size_ok {B : World} {ro : AH} {a0 : Option Addr} {σ : AH} {Q : Int → AH → Prop} (h : Sep ro σ → f_ztree_Tree_Size B ro a0 σ Q) : c_ztree_Tree_Size B ro a0 σ Q := by
  refine ACalls.of_sep fun hsep => ?_
  replace h := h hsep
  refine ACalls.of_body (args := [.pointer a0]) Tryz.func16 rfl (by rw [Tryz.ntmps16]; simp) ?_
  rw [Tryz.ntmps16]
  unfold f_ztree_Tree_Size at h
  refine AW.seq ?_
  refine AW.reg ?_
  refine Lp (V_asg rfl rfl) rfl rfl ?_
  refine Lnil ?_
  refine thenN ?_
  refine AW.seq ?_
  refine AW.reg ?_
  refine Lp (V_move rfl rfl) rfl rfl ?_
  obtain ⟨p4_1, hc, h⟩ := h
  refine Lp (V_nil rfl (by rw [← hc]; rfl)) rfl rfl ?_
  refine Lp (V_fld rfl Tryz.underlying128 rfl ty126 (by decide) rfl) rfl rfl ?_
  obtain ⟨x6_2, hc, h⟩ := h
  refine Ls rfl rfl (X_ld rfl Tryz.underlying126 rfl rfl hc ?_)
  refine Ls rfl rfl (X_bi (s := Builtin.len_ #[126] 3 #[.map x6_2]) rfl rfl (fun _ => rfl) (awp_mono _ h ?_))
  rintro v σ ⟨x7_3, rfl, h⟩
  refine Lp (V_asg rfl rfl) rfl rfl ?_
  refine Lnil ?_
  refine thenN ?_
  refine AW.ret ?_
  exact bR1 Tryz.results16 rfl ⟨_, rfl, h⟩

def f_ztree_Tree_Get (B : World) (ro : AH) (a0 : Option Addr) (a1 : ByteArray) (σ : AH) (Q : Sl → Int → Int → Int → Int → Int → AH → Prop) : Prop :=
 nw ro σ (.cells #[.int .i64 0, .int .i64 0, .int .i64 0, .int .i64 0] 32) fun x5_1 σ =>
 c_ztree_Tree_find B ro a0 a1 σ fun x12_2 x12_3 σ =>
 if ¬ (x12_3 = 0) then
  stN ⟨x5_1, 0, none⟩ (fun σ =>
   ∃ (x5_4a : Int) (x5_4b : Int) (x5_4c : Int) (x5_4d : Int), cellsAt ro σ ⟨x5_1, 0, none⟩ 0 [.int .i64 x5_4a, .int .i64 x5_4b, .int .i64 x5_4c, .int .i64 x5_4d] ∧
   Q (⟨none, 0, 0⟩ : Sl) x5_4a x5_4b x5_4c x5_4d x12_3 σ) [.int .i64 0, .int .i64 0, .int .i64 0, .int .i64 0] 0 σ
 else
 lent σ fun ψ σ =>
  ∃ p20_5 : Addr, x12_2 = some p20_5 ∧
  ∃ p25_6 : Addr, x12_2 = some p25_6 ∧
  ∃ (x27_7a : Int) (x27_7b : Int) (x27_7c : Int) (x27_7d : Int), cellsAt (join ro ψ) (fun _ => none) p25_6 0 [.int .i64 x27_7a, .int .i64 x27_7b, .int .i64 x27_7c, .int .i64 x27_7d] ∧
  ∃ (x22_8 : Sl), acell (join ro ψ) σ (p20_5.add 4) = some (Sl.v x22_8) ∧
  c_bytes_Clone B (join ro ψ) x22_8 σ fun x23_9 σ =>
  stN ⟨x5_1, 0, none⟩ (fun σ =>
   (Disj ψ σ → (fun σ => 
    ∃ (x5_10a : Int) (x5_10b : Int) (x5_10c : Int) (x5_10d : Int), cellsAt ro σ ⟨x5_1, 0, none⟩ 0 [.int .i64 x5_10a, .int .i64 x5_10b, .int .i64 x5_10c, .int .i64 x5_10d] ∧
    Q x23_9 x5_10a x5_10b x5_10c x5_10d 0 σ) (join ψ σ))) [.int .i64 x27_7a, .int .i64 x27_7b, .int .i64 x27_7c, .int .i64 x27_7d] 0 σ

set_option maxRecDepth 100000 in
set_option maxHeartbeats 4000000 in
theorem ztree_Tree_Get_ok {B : World} {ro : AH} {a0 : Option Addr} {a1 : ByteArray} {σ : AH} {Q : Sl → Int → Int → Int → Int → Int → AH → Prop} (h : Sep ro σ → f_ztree_Tree_Get B ro a0 a1 σ Q) : c_ztree_Tree_Get B ro a0 a1 σ Q := by
  refine ACalls.of_sep fun hsep => ?_
  replace h := h hsep
  refine ACalls.of_body (args := [.pointer a0, .string a1]) Tryz.func17 rfl (by rw [Tryz.ntmps17]; simp) ?_
  rw [Tryz.ntmps17]
  unfold f_ztree_Tree_Get at h
  refine AW.seq ?_
  refine AW.reg ?_
  refine Lp (V_asg rfl rfl) rfl rfl ?_
  refine Ls rfl rfl (X_new (A_alloc rfl ty32) fun x5_1 g1 g2 => ?_)
  replace h := h x5_1 g1 g2
  refine Lp (V_asg rfl rfl) rfl rfl ?_
  refine Lnil ?_
  refine thenN ?_
  refine AW.seq ?_
  refine AW.reg ?_
  refine Lp (V_move rfl rfl) rfl rfl ?_
  refine Lp (V_move rfl rfl) rfl rfl ?_
  refine Ls rfl rfl (X_call rfl Tryz.func60 rfl rfl rfl (ACalls.mono h ?_))
  rintro v σ ⟨x12_2, x12_3, rfl, h⟩
  refine Lp (V_move rfl rfl) rfl rfl ?_
  refine Lp (V_ext rfl rfl rfl) rfl rfl ?_
  refine Lp (V_ext rfl rfl rfl) rfl rfl ?_
  refine Lp (V_asg rfl rfl) rfl rfl ?_
  refine Lp (V_asg rfl rfl) rfl rfl ?_
  refine Lnil ?_
  refine thenN ?_
  refine AW.seq ?_
  refine AW.seq ?_
  refine AW.reg ?_
  refine Lp (V_move rfl rfl) rfl rfl ?_
  refine Lp (V_neq rfl rfl rfl) rfl rfl ?_
  refine Lnil ?_
  refine thenN ?_
  refine AW.iff rfl (bnot_iff decide_eq_true_iff) h (fun h => ?_) (fun h => ?_)
  · refine AW.seq ?_
    refine AW.reg ?_
    refine Lp (V_bld (vs := []) (cs := #[.int .i64 0, .int .i64 0, .int .i64 0, .int .i64 0]) rfl Tryz.underlying32 ty32 pl32 rfl rfl) rfl rfl ?_
    refine Lp (V_move rfl rfl) rfl rfl ?_
    refine Lp (V_asg rfl rfl) rfl rfl ?_
    refine Ls rfl rfl (X_st rfl ty32 rfl rfl rfl rfl (stN_mono h fun σ h => ?_))
    refine Lp (V_asg rfl rfl) rfl rfl ?_
    refine Lnil ?_
    refine thenN ?_
    refine AW.ret ?_
    refine thenR ?_
    obtain ⟨x5_4a, x5_4b, x5_4c, x5_4d, hc1, h⟩ := h
    exact bRM Tryz.results17 (rCons (rTmp rfl) (rCons (rAgg rfl Tryz.underlying32 rfl ty32 hc1) (rCons (rTmp rfl) rNil))) ⟨_, _, _, _, _, _, rfl, h⟩
  refine AW.skip ?_
  refine thenN ?_
  refine AW.seq ?_
  refine AW.drawnL (fun i => ([0, 0, 0, 3, 2, 0, 0, 0, 0, 0, 2, 0] : List Nat).getD i 2) [] [0, 1, 2, 5, 6, 7, 8, 3, 4, 9, 10, 11] Tryz.mixed h (by decide +kernel) ?_
  clear h
  intro ψ σ h
  refine Dp rfl rfl rfl rfl (V_move rfl rfl) ?_
  obtain ⟨p20_5, hc, h⟩ := h
  refine Dp rfl rfl rfl rfl (V_nil rfl (by rw [← hc]; rfl)) ?_
  refine Dp rfl rfl rfl rfl (V_fld rfl Tryz.underlying133 rfl ty30 (by decide) rfl) ?_
  refine Dp rfl rfl rfl rfl (V_move rfl rfl) ?_
  obtain ⟨p25_6, hc, h⟩ := h
  refine Dp rfl rfl rfl rfl (V_nil rfl (by rw [← hc]; rfl)) ?_
  refine Dp rfl rfl rfl rfl (V_fld rfl Tryz.underlying133 rfl ty32 (by decide) rfl) ?_
  obtain ⟨x27_7a, x27_7b, x27_7c, x27_7d, hc, h⟩ := h
  refine Dp rfl rfl rfl rfl (V_lda rfl Tryz.underlying32 rfl ty32 rfl hc) ?_
  obtain ⟨x22_8, hc, h⟩ := h
  refine Dr rfl rfl rfl rfl (R_ld rfl Tryz.underlying30 rfl rfl hc) ?_
  refine Dg rfl rfl rfl rfl (X_call rfl Tryz.func61 rfl rfl rfl (ACalls.mono h ?_))
  rintro v σ ⟨x23_9, rfl, h⟩
  refine Dp rfl rfl rfl rfl (V_asg rfl rfl) ?_
  refine Dg rfl rfl rfl rfl (X_st rfl ty32 rfl rfl rfl rfl (stN_mono h fun σ h => ?_))
  refine Dp rfl rfl rfl rfl (V_asg rfl rfl) ?_
  refine ⟨_, FrEq.refl _, fun hdj => ?_⟩
  replace h := h hdj
  refine thenN ?_
  refine AW.ret ?_
  obtain ⟨x5_10a, x5_10b, x5_10c, x5_10d, hc1, h⟩ := h
  exact bRM Tryz.results17 (rCons (rTmp rfl) (rCons (rAgg rfl Tryz.underlying32 rfl ty32 hc1) (rCons (rTmp rfl) rNil))) ⟨_, _, _, _, _, _, rfl, h⟩

def j3_ztree_Tree_Children (B : World) (ro : AH) (Q : Sl → Int → AH → Prop) (x8_4 : Sl) (σ : AH) : Prop :=
 Q x8_4 0 σ

def j9_ztree_Tree_Children (B : World) (ro : AH) (a1 : ByteArray) (x25_5 : Sl) (x27_8 : Int) (Q : Sl → Int → AH → Prop) (Y6 : (Sl × Int) → AH → Prop) (x8_10 : Sl) (σ : AH) : Prop :=
 Y6 (x8_10, IntKind.i64.wrap (x27_8 + 1)) σ

def l6_ztree_Tree_Children (B : World) (ro : AH) (a1 : ByteArray) (x25_5 : Sl) (Q : Sl → Int → AH → Prop) : (Sl × Int) → AH → ((Sl × Int) → AH → Prop) → Prop := fun ⟨x8_7, x27_8⟩ σ Y6 =>
 if x27_8 < (x25_5.len : Int) then
  ∃ p29_11 : Addr, x25_5.a = some p29_11 ∧ (0 : Int) ≤ x27_8 ∧ x27_8 < (x25_5.len : Int) ∧
  ∃ (x30_12 : ByteArray), acell ro σ (p29_11.add (Int.toNat x27_8 * 1)) = some (.string x30_12) ∧
  c_path_Parent B ro x30_12 σ fun x33_13 x33_14 σ =>
  if (x33_14 = 0) ∧ (x33_13 = a1) then
   c_path_Base B ro x30_12 σ fun x45_15 x45_16 σ =>
   nw ro σ (.cells #[.string x45_15] 9) fun x50_17 σ =>
   awp Tryz.prog ro (Builtin.append_ #[25, 25] 25 #[Sl.v x8_7, Sl.v (⟨some ⟨x50_17, 0, none⟩, 1, 1⟩ : Sl)]) (fun v σ => ∃ (x51_18 : Sl), v = Sl.v x51_18 ∧
    j9_ztree_Tree_Children B ro a1 x25_5 x27_8 Q Y6 x51_18 σ) σ
  else
  j9_ztree_Tree_Children B ro a1 x25_5 x27_8 Q Y6 x8_7 σ
 else
 j3_ztree_Tree_Children B ro Q x8_7 σ

def f_ztree_Tree_Children (B : World) (ro : AH) (a0 : Option Addr) (a1 : ByteArray) (σ : AH) (Q : Sl → Int → AH → Prop) : Prop :=
 c_ztree_Tree_find B ro a0 a1 σ fun x18_1 x18_2 σ =>
 if ¬ (x18_2 = 0) then
  Q (⟨none, 0, 0⟩ : Sl) x18_2 σ
 else
 c_ztree_Tree_paths B ro a0 σ fun x25_5 σ =>
 lfpD (l6_ztree_Tree_Children B ro a1 x25_5 Q ) ((⟨none, 0, 0⟩ : Sl), 0) σ

set_option maxRecDepth 100000 in
set_option maxHeartbeats 4000000 in
theorem ztree_Tree_Children_ok {B : World} {ro : AH} {a0 : Option Addr} {a1 : ByteArray} {σ : AH} {Q : Sl → Int → AH → Prop} (h : Sep ro σ → f_ztree_Tree_Children B ro a0 a1 σ Q) : c_ztree_Tree_Children B ro a0 a1 σ Q := by
  refine ACalls.of_sep fun hsep => ?_
  replace h := h hsep
  refine ACalls.of_body (args := [.pointer a0, .string a1]) Tryz.func18 rfl (by rw [Tryz.ntmps18]; simp) ?_
  rw [Tryz.ntmps18]
  unfold f_ztree_Tree_Children at h
  refine AW.seq ?_
  refine AW.reg ?_
  refine Lp (V_asg rfl rfl) rfl rfl ?_
  refine Lp (V_asg rfl rfl) rfl rfl ?_
  refine Lnil ?_
  refine thenN ?_
  refine AW.seq ?_
  refine AW.seq ?_
  refine AW.reg ?_
  refine Lp (V_move rfl rfl) rfl rfl ?_
  refine Lp (V_move rfl rfl) rfl rfl ?_
  refine Ls rfl rfl (X_call rfl Tryz.func60 rfl rfl rfl (ACalls.mono h ?_))
  rintro v σ ⟨x18_1, x18_2, rfl, h⟩
  refine Lp (V_move rfl rfl) rfl rfl ?_
  refine Lp (V_ext rfl rfl rfl) rfl rfl ?_
  refine Lp (V_ext rfl rfl rfl) rfl rfl ?_
  refine Lp (V_asg rfl rfl) rfl rfl ?_
  refine Lp (V_asg rfl rfl) rfl rfl ?_
  refine Lnil ?_
  refine thenN ?_
  refine AW.seq ?_
  refine AW.reg ?_
  refine Lp (V_move rfl rfl) rfl rfl ?_
  refine Lp (V_neq rfl rfl rfl) rfl rfl ?_
  refine Lnil ?_
  refine thenN ?_
  refine AW.iff rfl (bnot_iff decide_eq_true_iff) h (fun h => ?_) (fun h => ?_)
  · refine AW.seq ?_
    refine AW.reg ?_
    refine Lp (V_move rfl rfl) rfl rfl ?_
    refine Lp (V_asg rfl rfl) rfl rfl ?_
    refine Lp (V_asg rfl rfl) rfl rfl ?_
    refine Lnil ?_
    refine thenN ?_
    refine AW.ret ?_
    refine thenR ?_
    exact bR2 Tryz.results18 rfl rfl ⟨_, _, rfl, h⟩
  refine AW.skip ?_
  refine thenN ?_
  refine AW.seq ?_
  refine AW.reg ?_
  refine Lp (V_asg rfl rfl) rfl rfl ?_
  refine Lnil ?_
  refine thenN ?_
  refine AW.seqJ (fun fr σ => ∃ (x8_4 : Sl), FrLe [(8, Sl.v x8_4)] fr ∧ j3_ztree_Tree_Children B ro Q x8_4 σ) ?_ ?_
  · rintro fr σ ⟨x8_4, hl, h⟩
    refine AW.weaken ?_ hl (HLe.refl _)
    unfold j3_ztree_Tree_Children at h
    refine AW.seq ?_
    refine AW.reg ?_
    refine Lp (V_move rfl rfl) rfl rfl ?_
    refine Lp (V_asg rfl rfl) rfl rfl ?_
    refine Lp (V_asg rfl rfl) rfl rfl ?_
    refine Lnil ?_
    refine thenN ?_
    refine AW.ret ?_
    exact bR2 Tryz.results18 rfl rfl ⟨_, _, rfl, h⟩
  refine AW.seq ?_
  refine AW.reg ?_
  refine Lp (V_move rfl rfl) rfl rfl ?_
  refine Ls rfl rfl (X_call rfl Tryz.func57 rfl rfl rfl (ACalls.mono h ?_))
  rintro v σ ⟨x25_5, rfl, h⟩
  refine Lp (V_lenL rfl rfl Tryz.underlying25 rfl rfl) rfl rfl ?_
  refine Lp (V_move rfl rfl) rfl rfl ?_
  refine Lnil ?_
  refine thenN ?_
  refine AW.block ?_
  refine ARound.loop (fr' := [(1, .string a1), (25, Sl.v x25_5), (26, .int .i64 (x25_5.len : Int)), (8, Sl.v (⟨none, 0, 0⟩ : Sl)), (27, .int .i64 0)]) ?_ (FrLe.cons rfl (FrLe.cons rfl (FrLe.cons rfl (FrLe.cons rfl (FrLe.cons rfl (FrLe.nil _))))))
  refine h (fun ⟨x8_7, x27_8⟩ σ => ARound _ _ _ _ _ _ [(1, .string a1), (25, Sl.v x25_5), (26, .int .i64 (x25_5.len : Int)), (8, Sl.v x8_7), (27, .int .i64 x27_8)] σ) ?_
  rintro ⟨x8_7, x27_8⟩ σ Y6 hY6 h
  show AW _ _ _ _ _ _ _ _
  unfold l6_ztree_Tree_Children at h
  dsimp only at h
  refine AW.seq ?_
  refine AW.reg ?_
  refine Lp (V_lss rfl rfl rfl) rfl rfl ?_
  refine Lnil ?_
  refine thenN ?_
  refine AW.seq ?_
  refine AW.iff rfl decide_eq_true_iff h (fun h => ?_) (fun h => ?_)
  rotate_left
  · refine AW.exit ?_
    refine thenE ?_
    refine thenE ?_
    refine blockE ?_
    refine thenN ?_
    exact ⟨_, (FrLe.cons rfl (FrLe.nil _)), h⟩
  refine AW.skip ?_
  refine thenN ?_
  refine AW.seqJ (fun fr σ => ∃ (x8_10 : Sl), FrLe [(1, .string a1), (25, Sl.v x25_5), (26, .int .i64 (x25_5.len : Int)), (27, .int .i64 x27_8), (8, Sl.v x8_10)] fr ∧ j9_ztree_Tree_Children B ro a1 x25_5 x27_8 Q Y6 x8_10 σ) ?_ ?_
  · rintro fr σ ⟨x8_10, hl, h⟩
    refine AW.weaken ?_ hl (HLe.refl _)
    unfold j9_ztree_Tree_Children at h
    refine AW.reg ?_
    refine Lp (V_add rfl rfl rfl) rfl rfl ?_
    refine Lp (V_move rfl rfl) rfl rfl ?_
    refine Lnil ?_
    refine thenN ?_
    refine ARound.head (fr' := [(1, .string a1), (25, Sl.v x25_5), (26, .int .i64 (x25_5.len : Int)), (8, Sl.v x8_10), (27, .int .i64 (IntKind.i64.wrap (x27_8 + 1)))]) ?_ (FrLe.cons rfl (FrLe.cons rfl (FrLe.cons rfl (FrLe.cons rfl (FrLe.cons rfl (FrLe.nil _))))))
    exact hY6 _ _ h
  refine AW.block ?_
  refine AW.seq ?_
  refine AW.reg ?_
  obtain ⟨p29_11, ha, h0, h1, h⟩ := h
  refine Lp (V_ixA rfl Tryz.underlying25 ty9 (ixL rfl ha) rfl h0 h1) rfl rfl ?_
  obtain ⟨x30_12, hc, h⟩ := h
  refine Ls rfl rfl (X_ld rfl Tryz.underlying9 rfl rfl hc ?_)
  refine Lp (V_asg rfl rfl) rfl rfl ?_
  refine Lnil ?_
  refine thenN ?_
  refine AW.seq ?_
  refine AW.reg ?_
  refine Lp (V_move rfl rfl) rfl rfl ?_
  refine Ls rfl rfl (X_call rfl Tryz.func62 rfl rfl rfl (ACalls.mono h ?_))
  rintro v σ ⟨x33_13, x33_14, rfl, h⟩
  refine Lp (V_move rfl rfl) rfl rfl ?_
  refine Lp (V_ext rfl rfl rfl) rfl rfl ?_
  refine Lp (V_ext rfl rfl rfl) rfl rfl ?_
  refine Lp (V_asg rfl rfl) rfl rfl ?_
  refine Lp (V_asg rfl rfl) rfl rfl ?_
  refine Lnil ?_
  refine thenN ?_
  refine AW.seq ?_
  refine AW.reg ?_
  refine Lp (V_move rfl rfl) rfl rfl ?_
  refine Lp (V_eql rfl rfl rfl) rfl rfl ?_
  refine Lp (V_move rfl rfl) rfl rfl ?_
  refine Lsplit 4 (decide (x33_14 = 0)) [(1, .string a1), (8, Sl.v x8_7), (10, .string x30_12), (25, Sl.v x25_5), (26, .int .i64 (x25_5.len : Int)), (27, .int .i64 x27_8), (42, .bool ((decide (x33_14 = 0)) && (decide (x33_13 = a1))))] ?_ ?_ ?_
  · intro e2 hk2
    refine Lypb (V_move rfl rfl) rfl rfl rfl rfl e2 ?_
    refine Lypb (V_move rfl rfl) rfl rfl rfl rfl e2 ?_
    refine Lypb (V_eqlS rfl rfl rfl) rfl rfl rfl rfl e2 ?_
    refine Lp (V_pickT rfl (evb e2) rfl) rfl rfl ?_
    exact hk2 _ (FrLe.cons rfl (FrLe.cons rfl (FrLe.cons rfl (FrLe.cons rfl (FrLe.cons rfl (FrLe.cons rfl (FrLe.cons (by rw [e2]; rfl) (FrLe.nil _))))))))
  · intro e2 hk2
    refine Ln rfl rfl rfl rfl (.inl (by rw [e2]; rfl)) ?_
    refine Ln rfl rfl rfl rfl (.inl (by rw [e2]; rfl)) ?_
    refine Ln rfl rfl rfl rfl (.inl (by rw [e2]; rfl)) ?_
    refine Lp (V_pickF rfl (evb e2) rfl) rfl rfl ?_
    exact hk2 _ (FrLe.cons rfl (FrLe.cons rfl (FrLe.cons rfl (FrLe.cons rfl (FrLe.cons rfl (FrLe.cons rfl (FrLe.cons (by rw [e2]; rfl) (FrLe.nil _))))))))
  intro fr hl
  refine Lfr hl ?_
  refine Lnil ?_
  refine thenN ?_
  refine AW.iff rfl (band_iff decide_eq_true_iff decide_eq_true_iff) h (fun h => ?_) (fun h => ?_)
  rotate_left
  · refine AW.skip ?_
    refine blockN ?_
    refine thenN ?_
    exact ⟨_, (FrLe.cons rfl (FrLe.cons rfl (FrLe.cons rfl (FrLe.cons rfl (FrLe.cons rfl (FrLe.nil _)))))), h⟩
  refine AW.seq ?_
  refine AW.reg ?_
  refine Lp (V_move rfl rfl) rfl rfl ?_
  refine Ls rfl rfl (X_call rfl Tryz.func63 rfl rfl rfl (ACalls.mono h ?_))
  rintro v σ ⟨x45_15, x45_16, rfl, h⟩
  refine Lp (V_move rfl rfl) rfl rfl ?_
  refine Lp (V_ext rfl rfl rfl) rfl rfl ?_
  refine Lp (V_ext rfl rfl rfl) rfl rfl ?_
  refine Lp (V_asg rfl rfl) rfl rfl ?_
  refine Lp (V_asg rfl rfl) rfl rfl ?_
  refine Lnil ?_
  refine thenN ?_
  refine AW.reg ?_
  refine Lp (V_move rfl rfl) rfl rfl ?_
  refine Lp (V_move rfl rfl) rfl rfl ?_
  refine Ls rfl rfl (X_new (A_bsl (vs := [(0, .string x45_15)]) (cs := #[.string x45_15]) rfl Tryz.underlying25 ty9 (by decide) rfl rfl) fun x50_17 g1 g2 => ?_)
  replace h := h x50_17 g1 g2
  refine Ls rfl rfl (X_bi (s := Builtin.append_ #[25, 25] 25 #[Sl.v x8_7, Sl.v (⟨some ⟨x50_17, 0, none⟩, 1, 1⟩ : Sl)]) rfl rfl (fun _ => rfl) (awp_mono _ h ?_))
  rintro v σ ⟨x51_18, rfl, h⟩
  refine Lp (V_asg rfl rfl) rfl rfl ?_
  refine Lnil ?_
  refine blockN ?_
  refine thenN ?_
  exact ⟨_, (FrLe.cons rfl (FrLe.cons rfl (FrLe.cons rfl (FrLe.cons rfl (FrLe.cons rfl (FrLe.nil _)))))), h⟩

def j10_ztree_Tree_Create (B : World) (ro : AH) (a0 : Option Addr) (a2 : Sl) (a3 : Int) (x40_5 : Option Addr) (Q : ByteArray → Int → AH → Prop) (x1_11 : ByteArray) (σ : AH) : Prop :=
 ∃ p73_12 : Addr, a0 = some p73_12 ∧
 ∃ (x75_13 : Option Nat), acell ro σ p73_12 = some (.map x75_13) ∧
 awp Tryz.prog ro (Instr.lookup 126 (.map x75_13) (.string x1_11) false) (fun v σ =>
  (∃ (x77_14 : Option Addr), v = .pointer x77_14 ∧
   if ¬ (x77_14 = none) then
    Q (⟨#[]⟩ : ByteArray) 71 σ
   else
   lent σ fun ψ σ =>
    ∃ p80_15 : Addr, a0 = some p80_15 ∧
    ∃ (x82_16 : Option Nat), acell (join ro ψ) (fun _ => none) p80_15 = some (.map x82_16) ∧
    c_bytes_Clone B (join ro ψ) a2 σ fun x87_17 σ =>
    nw (join ro ψ) σ (.cells #[.int .i64 0, .int .i64 0, .int .i64 a3, .int .i64 0, Sl.v x87_17] 133) fun x89_18 σ =>
    awp Tryz.prog (join ro ψ) (Instr.mapUpdate 126 (.map x82_16) (.string x1_11) (.pointer (some ⟨x89_18, 0, none⟩))) (fun _ σ =>
     (Disj ψ σ → (fun σ => 
      ∃ p91_19 : Addr, x40_5 = some p91_19 ∧
      ∃ (x94_20 : Int), acell ro σ (p91_19.add 1) = some (.int .i64 x94_20) ∧
      ∃ p96_21 : Addr, x40_5 = some p96_21 ∧
      stN (p96_21.add 1) (fun σ =>
       ∃ p100_22 : Addr, x40_5 = some p100_22 ∧
       ∃ (x103_23 : Int), acell ro σ (p100_22.add 3) = some (.int .i64 x103_23) ∧
       ∃ p105_24 : Addr, x40_5 = some p105_24 ∧
       stN (p105_24.add 3) (fun σ =>
        Q x1_11 0 σ) [.int .i64 (IntKind.i64.wrap (x103_23 + 1))] 0 σ) [.int .i64 (IntKind.i64.wrap (x94_20 + 1))] 0 σ) (join ψ σ))) σ)) σ

def f_ztree_Tree_Create (B : World) (ro : AH) (a0 : Option Addr) (a1 : ByteArray) (a2 : Sl) (a3 : Int) (a4 : Bool) (σ : AH) (Q : ByteArray → Int → AH → Prop) : Prop :=
 c_path_Parent B ro a1 σ fun x17_1 x17_2 σ =>
 if ¬ (x17_2 = 0) then
  Q (⟨#[]⟩ : ByteArray) x17_2 σ
 else
 if 256 < (a2.len : Int) then
  Q (⟨#[]⟩ : ByteArray) 75 σ
 else
 if (a3 < 0) ∨ (4611686018427387903 < a3) then
  Q (⟨#[]⟩ : ByteArray) 10 σ
 else
 ∃ p36_3 : Addr, a0 = some p36_3 ∧
 ∃ (x38_4 : Option Nat), acell ro σ p36_3 = some (.map x38_4) ∧
 awp Tryz.prog ro (Instr.lookup 126 (.map x38_4) (.string x17_1) false) (fun v σ =>
  (∃ (x40_5 : Option Addr), v = .pointer x40_5 ∧
   if x40_5 = none then
    Q (⟨#[]⟩ : ByteArray) 70 σ
   else
   ∃ p46_6 : Addr, x40_5 = some p46_6 ∧
   ∃ (x49_7 : Int), acell ro σ (p46_6.add 2) = some (.int .i64 x49_7) ∧
   if ¬ (x49_7 = 0) then
    Q (⟨#[]⟩ : ByteArray) 74 σ
   else
   ∃ p53_8 : Addr, x40_5 = some p53_8 ∧
   ∃ (x56_9 : Int), acell ro σ (p53_8.add 1) = some (.int .i64 x56_9) ∧
   if 9999999999 < x56_9 then
    Q (⟨#[]⟩ : ByteArray) 76 σ
   else
   if a4 = true then
    ∃ p62_25 : Addr, x40_5 = some p62_25 ∧
    ∃ (x65_26 : Int), acell ro σ (p62_25.add 1) = some (.int .i64 x65_26) ∧
    c_path_Suffix B ro a1 x65_26 σ fun x66_27 x66_28 σ =>
    if ¬ (x66_28 = 0) then
     Q (⟨#[]⟩ : ByteArray) x66_28 σ
    else
    j10_ztree_Tree_Create B ro a0 a2 a3 x40_5 Q x66_27 σ
   else
   j10_ztree_Tree_Create B ro a0 a2 a3 x40_5 Q a1 σ)) σ

set_option maxRecDepth 100000 in
set_option maxHeartbeats 4000000 in
theorem ztree_Tree_Create_ok {B : World} {ro : AH} {a0 : Option Addr} {a1 : ByteArray} {a2 : Sl} {a3 : Int} {a4 : Bool} {σ : AH} {Q : ByteArray → Int → AH → Prop} (h : Sep ro σ → f_ztree_Tree_Create B ro a0 a1 a2 a3 a4 σ Q) : c_ztree_Tree_Create B ro a0 a1 a2 a3 a4 σ Q := by
  refine ACalls.of_sep fun hsep => ?_
  replace h := h hsep
  refine ACalls.of_body (args := [.pointer a0, .string a1, Sl.v a2, .int .i64 a3, .bool a4]) Tryz.func22 rfl (by rw [Tryz.ntmps22]; simp) ?_
  rw [Tryz.ntmps22]
  unfold f_ztree_Tree_Create at h
  refine AW.seq ?_
  refine AW.reg ?_
  refine Lp (V_asg rfl rfl) rfl rfl ?_
  refine Lp (V_asg rfl rfl) rfl rfl ?_
  refine Lnil ?_
  refine thenN ?_
  refine AW.seq ?_
  refine AW.reg ?_
  refine Lp (V_move rfl rfl) rfl rfl ?_
  refine Ls rfl rfl (X_call rfl Tryz.func62 rfl rfl rfl (ACalls.mono h ?_))
  rintro v σ ⟨x17_1, x17_2, rfl, h⟩
  refine Lp (V_move rfl rfl) rfl rfl ?_
  refine Lp (V_ext rfl rfl rfl) rfl rfl ?_
  refine Lp (V_ext rfl rfl rfl) rfl rfl ?_
  refine Lp (V_asg rfl rfl) rfl rfl ?_
  refine Lp (V_asg rfl rfl) rfl rfl ?_
  refine Lnil ?_
  refine thenN ?_
  refine AW.seq ?_
  refine AW.block ?_
  refine AW.seq ?_
  refine AW.reg ?_
  refine Lp (V_move rfl rfl) rfl rfl ?_
  refine Lp (V_neq rfl rfl rfl) rfl rfl ?_
  refine Lp (V_asg rfl rfl) rfl rfl ?_
  refine Lnil ?_
  refine thenN ?_
  refine AW.iff rfl (bnot_iff decide_eq_true_iff) h (fun h => ?_) (fun h => ?_)
  · refine AW.seq ?_
    refine AW.reg ?_
    refine Lp (V_move rfl rfl) rfl rfl ?_
    refine Lp (V_asg rfl rfl) rfl rfl ?_
    refine Lp (V_asg rfl rfl) rfl rfl ?_
    refine Lnil ?_
    refine thenN ?_
    refine AW.ret ?_
    refine blockR ?_
    refine thenR ?_
    exact bR2 Tryz.results22 rfl rfl ⟨_, _, rfl, h⟩
  refine AW.seq ?_
  refine AW.reg ?_
  refine Lp (V_move rfl rfl) rfl rfl ?_
  refine Lp (V_lenL rfl rfl Tryz.underlying30 rfl rfl) rfl rfl ?_
  refine Lp (V_gtr rfl rfl rfl) rfl rfl ?_
  refine Lp (V_asg rfl rfl) rfl rfl ?_
  refine Lnil ?_
  refine thenN ?_
  refine AW.iff rfl decide_eq_true_iff h (fun h => ?_) (fun h => ?_)
  · refine AW.seq ?_
    refine AW.reg ?_
    refine Lp (V_asg rfl rfl) rfl rfl ?_
    refine Lp (V_asg rfl rfl) rfl rfl ?_
    refine Lnil ?_
    refine thenN ?_
    refine AW.ret ?_
    refine blockR ?_
    refine thenR ?_
    exact bR2 Tryz.results22 rfl rfl ⟨_, _, rfl, h⟩
  refine AW.seq ?_
  refine AW.reg ?_
  refine Lp (V_move rfl rfl) rfl rfl ?_
  refine Lp (V_lss rfl rfl rfl) rfl rfl ?_
  refine Lp (V_move rfl rfl) rfl rfl ?_
  refine Lsplit 3 (decide (a3 < 0)) [(0, .pointer a0), (1, .string a1), (2, Sl.v a2), (3, .int .i64 a3), (4, .bool a4), (12, .string x17_1), (34, .bool ((decide (a3 < 0)) || (decide (4611686018427387903 < a3))))] ?_ ?_ ?_
  · intro e2 hk2
    refine Ln rfl rfl rfl rfl (.inl (by rw [e2]; rfl)) ?_
    refine Ln rfl rfl rfl rfl (.inl (by rw [e2]; rfl)) ?_
    refine Lp (V_pickT rfl (evb e2) rfl) rfl rfl ?_
    exact hk2 _ (FrLe.cons rfl (FrLe.cons rfl (FrLe.cons rfl (FrLe.cons rfl (FrLe.cons rfl (FrLe.cons rfl (FrLe.cons (by rw [e2]; rfl) (FrLe.nil _))))))))
  · intro e2 hk2
    refine Lypb (V_move rfl rfl) rfl rfl rfl rfl e2 ?_
    refine Lypb (V_gtr rfl rfl rfl) rfl rfl rfl rfl e2 ?_
    refine Lp (V_pickF rfl (evb e2) rfl) rfl rfl ?_
    exact hk2 _ (FrLe.cons rfl (FrLe.cons rfl (FrLe.cons rfl (FrLe.cons rfl (FrLe.cons rfl (FrLe.cons rfl (FrLe.cons (by rw [e2]; rfl) (FrLe.nil _))))))))
  intro fr hl
  refine Lfr hl ?_
  refine Lp (V_asg rfl rfl) rfl rfl ?_
  refine Lnil ?_
  refine thenN ?_
  refine AW.iff rfl (bor_iff decide_eq_true_iff decide_eq_true_iff) h (fun h => ?_) (fun h => ?_)
  · refine AW.seq ?_
    refine AW.reg ?_
    refine Lp (V_asg rfl rfl) rfl rfl ?_
    refine Lp (V_asg rfl rfl) rfl rfl ?_
    refine Lnil ?_
    refine thenN ?_
    refine AW.ret ?_
    refine blockR ?_
    refine thenR ?_
    exact bR2 Tryz.results22 rfl rfl ⟨_, _, rfl, h⟩
  refine AW.skip ?_
  refine blockN ?_
  refine thenN ?_
  refine AW.seq ?_
  refine AW.reg ?_
  refine Lp (V_move rfl rfl) rfl rfl ?_
  obtain ⟨p36_3, hc, h⟩ := h
  refine Lp (V_nil rfl (by rw [← hc]; rfl)) rfl rfl ?_
  refine Lp (V_fld rfl Tryz.underlying128 rfl ty126 (by decide) rfl) rfl rfl ?_
  obtain ⟨x38_4, hc, h⟩ := h
  refine Ls rfl rfl (X_ld rfl Tryz.underlying126 rfl rfl hc ?_)
  refine Lp (V_move rfl rfl) rfl rfl ?_
  refine Ls rfl rfl (X_lkp rfl rfl rfl (awp_mono _ h ?_))
  rintro v σ ⟨x40_5, rfl, h⟩
  refine Lp (V_asg rfl rfl) rfl rfl ?_
  refine Lnil ?_
  refine thenN ?_
  refine AW.seq ?_
  refine AW.block ?_
  refine AW.seq ?_
  refine AW.reg ?_
  refine Lp (V_move rfl rfl) rfl rfl ?_
  refine Lp (V_eqP rfl Tryz.underlying129 rfl rfl) rfl rfl ?_
  refine Lp (V_asg rfl rfl) rfl rfl ?_
  refine Lnil ?_
  refine thenN ?_
  refine AW.iff rfl isNone_iff h (fun h => ?_) (fun h => ?_)
  · refine AW.seq ?_
    refine AW.reg ?_
    refine Lp (V_asg rfl rfl) rfl rfl ?_
    refine Lp (V_asg rfl rfl) rfl rfl ?_
    refine Lnil ?_
    refine thenN ?_
    refine AW.ret ?_
    refine blockR ?_
    refine thenR ?_
    exact bR2 Tryz.results22 rfl rfl ⟨_, _, rfl, h⟩
  refine AW.seq ?_
  refine AW.reg ?_
  refine Lp (V_move rfl rfl) rfl rfl ?_
  obtain ⟨p46_6, hc, h⟩ := h
  refine Lp (V_nil rfl (by rw [← hc]; rfl)) rfl rfl ?_
  refine Lp (V_fld rfl Tryz.underlying133 rfl ty32 (by decide) rfl) rfl rfl ?_
  refine Lp (V_fld rfl Tryz.underlying32 rfl ty3 (by decide) rfl) rfl rfl ?_
  obtain ⟨x49_7, hc, h⟩ := h
  refine Ls rfl rfl (X_ld rfl Tryz.underlying3 rfl rfl hc ?_)
  refine Lp (V_neq rfl rfl rfl) rfl rfl ?_
  refine Lp (V_asg rfl rfl) rfl rfl ?_
  refine Lnil ?_
  refine thenN ?_
  refine AW.iff rfl (bnot_iff decide_eq_true_iff) h (fun h => ?_) (fun h => ?_)
  · refine AW.seq ?_
    refine AW.reg ?_
    refine Lp (V_asg rfl rfl) rfl rfl ?_
    refine Lp (V_asg rfl rfl) rfl rfl ?_
    refine Lnil ?_
    refine thenN ?_
    refine AW.ret ?_
    refine blockR ?_
    refine thenR ?_
    exact bR2 Tryz.results22 rfl rfl ⟨_, _, rfl, h⟩
  refine AW.seq ?_
  refine AW.reg ?_
  refine Lp (V_move rfl rfl) rfl rfl ?_
  obtain ⟨p53_8, hc, h⟩ := h
  refine Lp (V_nil rfl (by rw [← hc]; rfl)) rfl rfl ?_
  refine Lp (V_fld rfl Tryz.underlying133 rfl ty32 (by decide) rfl) rfl rfl ?_
  refine Lp (V_fld rfl Tryz.underlying32 rfl ty3 (by decide) rfl) rfl rfl ?_
  obtain ⟨x56_9, hc, h⟩ := h
  refine Ls rfl rfl (X_ld rfl Tryz.underlying3 rfl rfl hc ?_)
  refine Lp (V_gtr rfl rfl rfl) rfl rfl ?_
  refine Lp (V_asg rfl rfl) rfl rfl ?_
  refine Lnil ?_
  refine thenN ?_
  refine AW.iff rfl decide_eq_true_iff h (fun h => ?_) (fun h => ?_)
  · refine AW.seq ?_
    refine AW.reg ?_
    refine Lp (V_asg rfl rfl) rfl rfl ?_
    refine Lp (V_asg rfl rfl) rfl rfl ?_
    refine Lnil ?_
    refine thenN ?_
    refine AW.ret ?_
    refine blockR ?_
    refine thenR ?_
    exact bR2 Tryz.results22 rfl rfl ⟨_, _, rfl, h⟩
  refine AW.skip ?_
  refine blockN ?_
  refine thenN ?_
  refine AW.seqJ (fun fr σ => ∃ (x1_11 : ByteArray), FrLe [(0, .pointer a0), (2, Sl.v a2), (3, .int .i64 a3), (14, .pointer x40_5), (1, .string x1_11)] fr ∧ j10_ztree_Tree_Create B ro a0 a2 a3 x40_5 Q x1_11 σ) ?_ ?_
  rotate_left
  · refine AW.seq ?_
    refine AW.reg ?_
    refine Lp (V_move rfl rfl) rfl rfl ?_
    refine Lnil ?_
    refine thenN ?_
    refine AW.iff rfl Iff.rfl h (fun h => ?_) (fun h => ?_)
    rotate_left
    · refine AW.skip ?_
      refine thenN ?_
      exact ⟨_, (FrLe.cons rfl (FrLe.cons rfl (FrLe.cons rfl (FrLe.cons rfl (FrLe.cons rfl (FrLe.nil _)))))), h⟩
    refine AW.seq ?_
    refine AW.reg ?_
    refine Lp (V_move rfl rfl) rfl rfl ?_
    refine Lp (V_move rfl rfl) rfl rfl ?_
    obtain ⟨p62_25, hc, h⟩ := h
    refine Lp (V_nil rfl (by rw [← hc]; rfl)) rfl rfl ?_
    refine Lp (V_fld rfl Tryz.underlying133 rfl ty32 (by decide) rfl) rfl rfl ?_
    refine Lp (V_fld rfl Tryz.underlying32 rfl ty3 (by decide) rfl) rfl rfl ?_
    obtain ⟨x65_26, hc, h⟩ := h
    refine Ls rfl rfl (X_ld rfl Tryz.underlying3 rfl rfl hc ?_)
    refine Ls rfl rfl (X_call rfl Tryz.func71 rfl rfl rfl (ACalls.mono h ?_))
    rintro v σ ⟨x66_27, x66_28, rfl, h⟩
    refine Lp (V_move rfl rfl) rfl rfl ?_
    refine Lp (V_ext rfl rfl rfl) rfl rfl ?_
    refine Lp (V_ext rfl rfl rfl) rfl rfl ?_
    refine Lp (V_asg rfl rfl) rfl rfl ?_
    refine Lp (V_asg rfl rfl) rfl rfl ?_
    refine Lnil ?_
    refine thenN ?_
    refine AW.seq ?_
    refine AW.reg ?_
    refine Lp (V_move rfl rfl) rfl rfl ?_
    refine Lp (V_neq rfl rfl rfl) rfl rfl ?_
    refine Lnil ?_
    refine thenN ?_
    refine AW.iff rfl (bnot_iff decide_eq_true_iff) h (fun h => ?_) (fun h => ?_)
    rotate_left
    · refine AW.skip ?_
      refine thenN ?_
      exact ⟨_, (FrLe.cons rfl (FrLe.cons rfl (FrLe.cons rfl (FrLe.cons rfl (FrLe.cons rfl (FrLe.nil _)))))), h⟩
    refine AW.seq ?_
    refine AW.reg ?_
    refine Lp (V_move rfl rfl) rfl rfl ?_
    refine Lp (V_asg rfl rfl) rfl rfl ?_
    refine Lp (V_asg rfl rfl) rfl rfl ?_
    refine Lnil ?_
    refine thenN ?_
    refine AW.ret ?_
    refine thenR ?_
    exact bR2 Tryz.results22 rfl rfl ⟨_, _, rfl, h⟩
  rintro fr σ ⟨x1_11, hl, h⟩
  refine AW.weaken ?_ hl (HLe.refl _)
  unfold j10_ztree_Tree_Create at h
  refine AW.seq ?_
  refine AW.seq ?_
  refine AW.reg ?_
  refine Lp (V_move rfl rfl) rfl rfl ?_
  obtain ⟨p73_12, hc, h⟩ := h
  refine Lp (V_nil rfl (by rw [← hc]; rfl)) rfl rfl ?_
  refine Lp (V_fld rfl Tryz.underlying128 rfl ty126 (by decide) rfl) rfl rfl ?_
  obtain ⟨x75_13, hc, h⟩ := h
  refine Ls rfl rfl (X_ld rfl Tryz.underlying126 rfl rfl hc ?_)
  refine Lp (V_move rfl rfl) rfl rfl ?_
  refine Ls rfl rfl (X_lkp rfl rfl rfl (awp_mono _ h ?_))
  rintro v σ ⟨x77_14, rfl, h⟩
  refine Lp (V_neP rfl Tryz.underlying129 rfl rfl) rfl rfl ?_
  refine Lnil ?_
  refine thenN ?_
  refine AW.iff rfl (bnot_iff isNone_iff) h (fun h => ?_) (fun h => ?_)
  · refine AW.seq ?_
    refine AW.reg ?_
    refine Lp (V_asg rfl rfl) rfl rfl ?_
    refine Lp (V_asg rfl rfl) rfl rfl ?_
    refine Lnil ?_
    refine thenN ?_
    refine AW.ret ?_
    refine thenR ?_
    exact bR2 Tryz.results22 rfl rfl ⟨_, _, rfl, h⟩
  refine AW.skip ?_
  refine thenN ?_
  refine AW.seq ?_
  refine AW.drawnL (fun i => ([0, 0, 0, 0, 0, 0, 0, 0, 2, 0, 1, 2] : List Nat).getD i 2) [] [0, 1, 2, 3, 4, 5, 6, 7, 8, 9, 10, 11] Tryz.mixed h (by decide +kernel) ?_
  clear h
  intro ψ σ h
  refine Dp rfl rfl rfl rfl (V_move rfl rfl) ?_
  obtain ⟨p80_15, hc, h⟩ := h
  refine Dp rfl rfl rfl rfl (V_nil rfl (by rw [← hc]; rfl)) ?_
  refine Dp rfl rfl rfl rfl (V_fld rfl Tryz.underlying128 rfl ty126 (by decide) rfl) ?_
  obtain ⟨x82_16, hc, h⟩ := h
  refine Dp rfl rfl rfl rfl (V_ld rfl Tryz.underlying126 rfl rfl hc) ?_
  refine Dp rfl rfl rfl rfl (V_move rfl rfl) ?_
  refine Dp rfl rfl rfl rfl (V_move rfl rfl) ?_
  refine Dp rfl rfl rfl rfl (V_bld (vs := [(2, .int .i64 a3)]) (cs := #[.int .i64 0, .int .i64 0, .int .i64 a3, .int .i64 0]) rfl Tryz.underlying32 ty32 pl32 rfl rfl) ?_
  refine Dp rfl rfl rfl rfl (V_move rfl rfl) ?_
  refine Dg rfl rfl rfl rfl (X_call rfl Tryz.func61 rfl rfl rfl (ACalls.mono h ?_))
  rintro v σ ⟨x87_17, rfl, h⟩
  refine Dp rfl rfl rfl rfl (V_bld (vs := [(0, .agg #[.int .i64 0, .int .i64 0, .int .i64 a3, .int .i64 0]), (1, Sl.v x87_17)]) (cs := #[.int .i64 0, .int .i64 0, .int .i64 a3, .int .i64 0, Sl.v x87_17]) rfl Tryz.underlying133 ty133 pl133 rfl rfl) ?_
  refine Da rfl rfl rfl rfl (A_box rfl rfl) fun x89_18 g1 g2 => ?_
  replace h := h x89_18 g1 g2
  refine Dg rfl rfl rfl rfl (X_mup (.inl rfl) rfl rfl rfl (awp_mono _ h ?_))
  rintro _ σ h
  refine ⟨_, FrEq.refl _, fun hdj => ?_⟩
  replace h := h hdj
  refine thenN ?_
  refine AW.seq ?_
  refine AW.reg ?_
  refine Lp (V_move rfl rfl) rfl rfl ?_
  obtain ⟨p91_19, hc, h⟩ := h
  refine Lp (V_nil rfl (by rw [← hc]; rfl)) rfl rfl ?_
  refine Lp (V_fld rfl Tryz.underlying133 rfl ty32 (by decide) rfl) rfl rfl ?_
  refine Lp (V_fld rfl Tryz.underlying32 rfl ty3 (by decide) rfl) rfl rfl ?_
  obtain ⟨x94_20, hc, h⟩ := h
  refine Ls rfl rfl (X_ld rfl Tryz.underlying3 rfl rfl hc ?_)
  refine Lp (V_add rfl rfl rfl) rfl rfl ?_
  obtain ⟨p96_21, hc, h⟩ := h
  refine Lp (V_nil rfl (by rw [← hc]; rfl)) rfl rfl ?_
  refine Lp (V_fld rfl Tryz.underlying133 rfl ty32 (by decide) rfl) rfl rfl ?_
  refine Lp (V_fld rfl Tryz.underlying32 rfl ty3 (by decide) rfl) rfl rfl ?_
  refine Ls rfl rfl (X_st rfl ty3 rfl rfl rfl rfl (stN_mono h fun σ h => ?_))
  refine Lnil ?_
  refine thenN ?_
  refine AW.seq ?_
  refine AW.reg ?_
  refine Lp (V_move rfl rfl) rfl rfl ?_
  obtain ⟨p100_22, hc, h⟩ := h
  refine Lp (V_nil rfl (by rw [← hc]; rfl)) rfl rfl ?_
  refine Lp (V_fld rfl Tryz.underlying133 rfl ty32 (by decide) rfl) rfl rfl ?_
  refine Lp (V_fld rfl Tryz.underlying32 rfl ty3 (by decide) rfl) rfl rfl ?_
  obtain ⟨x103_23, hc, h⟩ := h
  refine Ls rfl rfl (X_ld rfl Tryz.underlying3 rfl rfl hc ?_)
  refine Lp (V_add rfl rfl rfl) rfl rfl ?_
  obtain ⟨p105_24, hc, h⟩ := h
  refine Lp (V_nil rfl (by rw [← hc]; rfl)) rfl rfl ?_
  refine Lp (V_fld rfl Tryz.underlying133 rfl ty32 (by decide) rfl) rfl rfl ?_
  refine Lp (V_fld rfl Tryz.underlying32 rfl ty3 (by decide) rfl) rfl rfl ?_
  refine Ls rfl rfl (X_st rfl ty3 rfl rfl rfl rfl (stN_mono h fun σ h => ?_))
  refine Lnil ?_
  refine thenN ?_
  refine AW.seq ?_
  refine AW.reg ?_
  refine Lp (V_move rfl rfl) rfl rfl ?_
  refine Lp (V_asg rfl rfl) rfl rfl ?_
  refine Lp (V_asg rfl rfl) rfl rfl ?_
  refine Lnil ?_
  refine thenN ?_
  refine AW.ret ?_
  exact bR2 Tryz.results22 rfl rfl ⟨_, _, rfl, h⟩

def f_ztree_Tree_Delete (B : World) (ro : AH) (a0 : Option Addr) (a1 : ByteArray) (a2 : Int) (σ : AH) (Q : Int → AH → Prop) : Prop :=
 c_ztree_Tree_check B ro a0 a1 a2 σ fun x15_1 x15_2 σ =>
 if ¬ (x15_2 = 0) then
  Q x15_2 σ
 else
 ∃ p24_3 : Addr, x15_1 = some p24_3 ∧
 ∃ (x27_4 : Int), acell ro σ (p24_3.add 3) = some (.int .i64 x27_4) ∧
 if 0 < x27_4 then
  Q 73 σ
 else
 c_path_Parent B ro a1 σ fun x31_5 x31_6 σ =>
 ∃ p35_7 : Addr, a0 = some p35_7 ∧
 ∃ (x37_8 : Option Nat), acell ro σ p35_7 = some (.map x37_8) ∧
 awp Tryz.prog ro (Instr.lookup 126 (.map x37_8) (.string x31_5) false) (fun v σ =>
  (∃ (x39_9 : Option Addr), v = .pointer x39_9 ∧
   ∃ p40_10 : Addr, x39_9 = some p40_10 ∧
   ∃ (x43_11 : Int), acell ro σ (p40_10.add 3) = some (.int .i64 x43_11) ∧
   ∃ p45_12 : Addr, x39_9 = some p45_12 ∧
   stN (p45_12.add 3) (fun σ =>
    ∃ p49_13 : Addr, a0 = some p49_13 ∧
    ∃ (x51_14 : Option Nat), acell ro σ p49_13 = some (.map x51_14) ∧
    awp Tryz.prog ro (Builtin.delete_ #[126, 9] 0 #[.map x51_14, .string a1]) (fun v σ => v = .tuple #[] ∧
     Q 0 σ) σ) [.int .i64 (IntKind.i64.wrap (x43_11 - 1))] 0 σ)) σ

set_option maxRecDepth 100000 in
set_option maxHeartbeats 4000000 in
theorem ztree_Tree_Delete_ok {B : World} {ro : AH} {a0 : Option Addr} {a1 : ByteArray} {a2 : Int} {σ : AH} {Q : Int → AH → Prop} (h : Sep ro σ → f_ztree_Tree_Delete B ro a0 a1 a2 σ Q) : c_ztree_Tree_Delete B ro a0 a1 a2 σ Q := by
  refine ACalls.of_sep fun hsep => ?_
  replace h := h hsep
  refine ACalls.of_body (args := [.pointer a0, .string a1, .int .i64 a2]) Tryz.func24 rfl (by rw [Tryz.ntmps24]; simp) ?_
  rw [Tryz.ntmps24]
  unfold f_ztree_Tree_Delete at h
  refine AW.seq ?_
  refine AW.reg ?_
  refine Lp (V_asg rfl rfl) rfl rfl ?_
  refine Lnil ?_
  refine thenN ?_
  refine AW.seq ?_
  refine AW.reg ?_
  refine Lp (V_move rfl rfl) rfl rfl ?_
  refine Lp (V_move rfl rfl) rfl rfl ?_
  refine Lp (V_move rfl rfl) rfl rfl ?_
  refine Ls rfl rfl (X_call rfl Tryz.func73 rfl rfl rfl (ACalls.mono h ?_))
  rintro v σ ⟨x15_1, x15_2, rfl, h⟩
  refine Lp (V_move rfl rfl) rfl rfl ?_
  refine Lp (V_ext rfl rfl rfl) rfl rfl ?_
  refine Lp (V_ext rfl rfl rfl) rfl rfl ?_
  refine Lp (V_asg rfl rfl) rfl rfl ?_
  refine Lp (V_asg rfl rfl) rfl rfl ?_
  refine Lnil ?_
  refine thenN ?_
  refine AW.seq ?_
  refine AW.block ?_
  refine AW.seq ?_
  refine AW.reg ?_
  refine Lp (V_move rfl rfl) rfl rfl ?_
  refine Lp (V_neq rfl rfl rfl) rfl rfl ?_
  refine Lp (V_asg rfl rfl) rfl rfl ?_
  refine Lnil ?_
  refine thenN ?_
  refine AW.iff rfl (bnot_iff decide_eq_true_iff) h (fun h => ?_) (fun h => ?_)
  · refine AW.seq ?_
    refine AW.reg ?_
    refine Lp (V_move rfl rfl) rfl rfl ?_
    refine Lp (V_asg rfl rfl) rfl rfl ?_
    refine Lnil ?_
    refine thenN ?_
    refine AW.ret ?_
    refine blockR ?_
    refine thenR ?_
    exact bR1 Tryz.results24 rfl ⟨_, rfl, h⟩
  refine AW.seq ?_
  refine AW.reg ?_
  refine Lp (V_move rfl rfl) rfl rfl ?_
  obtain ⟨p24_3, hc, h⟩ := h
  refine Lp (V_nil rfl (by rw [← hc]; rfl)) rfl rfl ?_
  refine Lp (V_fld rfl Tryz.underlying133 rfl ty32 (by decide) rfl) rfl rfl ?_
  refine Lp (V_fld rfl Tryz.underlying32 rfl ty3 (by decide) rfl) rfl rfl ?_
  obtain ⟨x27_4, hc, h⟩ := h
  refine Ls rfl rfl (X_ld rfl Tryz.underlying3 rfl rfl hc ?_)
  refine Lp (V_gtr rfl rfl rfl) rfl rfl ?_
  refine Lp (V_asg rfl rfl) rfl rfl ?_
  refine Lnil ?_
  refine thenN ?_
  refine AW.iff rfl decide_eq_true_iff h (fun h => ?_) (fun h => ?_)
  · refine AW.seq ?_
    refine AW.reg ?_
    refine Lp (V_asg rfl rfl) rfl rfl ?_
    refine Lnil ?_
    refine thenN ?_
    refine AW.ret ?_
    refine blockR ?_
    refine thenR ?_
    exact bR1 Tryz.results24 rfl ⟨_, rfl, h⟩
  refine AW.skip ?_
  refine blockN ?_
  refine thenN ?_
  refine AW.seq ?_
  refine AW.reg ?_
  refine Lp (V_move rfl rfl) rfl rfl ?_
  refine Ls rfl rfl (X_call rfl Tryz.func62 rfl rfl rfl (ACalls.mono h ?_))
  rintro v σ ⟨x31_5, x31_6, rfl, h⟩
  refine Lp (V_move rfl rfl) rfl rfl ?_
  refine Lp (V_ext rfl rfl rfl) rfl rfl ?_
  refine Lp (V_ext rfl rfl rfl) rfl rfl ?_
  refine Lp (V_asg rfl rfl) rfl rfl ?_
  refine Lp (V_asg rfl rfl) rfl rfl ?_
  refine Lnil ?_
  refine thenN ?_
  refine AW.seq ?_
  refine AW.reg ?_
  refine Lp (V_move rfl rfl) rfl rfl ?_
  obtain ⟨p35_7, hc, h⟩ := h
  refine Lp (V_nil rfl (by rw [← hc]; rfl)) rfl rfl ?_
  refine Lp (V_fld rfl Tryz.underlying128 rfl ty126 (by decide) rfl) rfl rfl ?_
  obtain ⟨x37_8, hc, h⟩ := h
  refine Ls rfl rfl (X_ld rfl Tryz.underlying126 rfl rfl hc ?_)
  refine Lp (V_move rfl rfl) rfl rfl ?_
  refine Ls rfl rfl (X_lkp rfl rfl rfl (awp_mono _ h ?_))
  rintro v σ ⟨x39_9, rfl, h⟩
  obtain ⟨p40_10, hc, h⟩ := h
  refine Lp (V_nil rfl (by rw [← hc]; rfl)) rfl rfl ?_
  refine Lp (V_fld rfl Tryz.underlying133 rfl ty32 (by decide) rfl) rfl rfl ?_
  refine Lp (V_fld rfl Tryz.underlying32 rfl ty3 (by decide) rfl) rfl rfl ?_
  obtain ⟨x43_11, hc, h⟩ := h
  refine Ls rfl rfl (X_ld rfl Tryz.underlying3 rfl rfl hc ?_)
  refine Lp (V_sub rfl rfl rfl) rfl rfl ?_
  obtain ⟨p45_12, hc, h⟩ := h
  refine Lp (V_nil rfl (by rw [← hc]; rfl)) rfl rfl ?_
  refine Lp (V_fld rfl Tryz.underlying133 rfl ty32 (by decide) rfl) rfl rfl ?_
  refine Lp (V_fld rfl Tryz.underlying32 rfl ty3 (by decide) rfl) rfl rfl ?_
  refine Ls rfl rfl (X_st rfl ty3 rfl rfl rfl rfl (stN_mono h fun σ h => ?_))
  refine Lnil ?_
  refine thenN ?_
  refine AW.seq ?_
  refine AW.reg ?_
  refine Lp (V_move rfl rfl) rfl rfl ?_
  obtain ⟨p49_13, hc, h⟩ := h
  refine Lp (V_nil rfl (by rw [← hc]; rfl)) rfl rfl ?_
  refine Lp (V_fld rfl Tryz.underlying128 rfl ty126 (by decide) rfl) rfl rfl ?_
  obtain ⟨x51_14, hc, h⟩ := h
  refine Ls rfl rfl (X_ld rfl Tryz.underlying126 rfl rfl hc ?_)
  refine Lp (V_move rfl rfl) rfl rfl ?_
  refine Ls rfl rfl (X_bi (s := Builtin.delete_ #[126, 9] 0 #[.map x51_14, .string a1]) rfl rfl (fun _ => rfl) (awp_mono _ h ?_))
  rintro v σ ⟨rfl, h⟩
  refine Lnil ?_
  refine thenN ?_
  refine AW.seq ?_
  refine AW.reg ?_
  refine Lp (V_asg rfl rfl) rfl rfl ?_
  refine Lnil ?_
  refine thenN ?_
  refine AW.ret ?_
  exact bR1 Tryz.results24 rfl ⟨_, rfl, h⟩

def j1_ztree_Tree_Set (B : World) (ro : AH) (a0 : Option Addr) (a1 : ByteArray) (a2 : Sl) (a3 : Int) (Q : Int → Int → AH → Prop) (x18_2 : Bool) (σ : AH) : Prop :=
 if x18_2 = true then
  Q 0 20 σ
 else
 if 256 < (a2.len : Int) then
  Q 0 75 σ
 else
 c_ztree_Tree_check B ro a0 a1 a3 σ fun x26_3 x26_4 σ =>
 if ¬ (x26_4 = 0) then
  Q 0 x26_4 σ
 else
 c_bytes_Clone B ro a2 σ fun x34_5 σ =>
 ∃ p35_6 : Addr, x26_3 = some p35_6 ∧
 stN (p35_6.add 4) (fun σ =>
  ∃ p38_7 : Addr, x26_3 = some p38_7 ∧
  ∃ (x41_8 : Int), acell ro σ p38_7 = some (.int .i64 x41_8) ∧
  ∃ p43_9 : Addr, x26_3 = some p43_9 ∧
  stN p43_9 (fun σ =>
   ∃ p47_10 : Addr, x26_3 = some p47_10 ∧
   ∃ (x50_11 : Int), acell ro σ p47_10 = some (.int .i64 x50_11) ∧
   Q x50_11 0 σ) [.int .i64 (IntKind.i64.wrap (x41_8 + 1))] 0 σ) [Sl.v x34_5] 0 σ

def f_ztree_Tree_Set (B : World) (ro : AH) (a0 : Option Addr) (a1 : ByteArray) (a2 : Sl) (a3 : Int) (σ : AH) (Q : Int → Int → AH → Prop) : Prop :=
 if a1 = (⟨#[47]⟩ : ByteArray) then
  j1_ztree_Tree_Set B ro a0 a1 a2 a3 Q true σ
 else
 c_path_Check B ro a1 σ fun x16_12 σ =>
 j1_ztree_Tree_Set B ro a0 a1 a2 a3 Q (!(decide (x16_12 = 0))) σ

set_option maxRecDepth 100000 in
set_option maxHeartbeats 4000000 in
theorem ztree_Tree_Set_ok {B : World} {ro : AH} {a0 : Option Addr} {a1 : ByteArray} {a2 : Sl} {a3 : Int} {σ : AH} {Q : Int → Int → AH → Prop} (h : Sep ro σ → f_ztree_Tree_Set B ro a0 a1 a2 a3 σ Q) : c_ztree_Tree_Set B ro a0 a1 a2 a3 σ Q := by
  refine ACalls.of_sep fun hsep => ?_
  replace h := h hsep
  refine ACalls.of_body (args := [.pointer a0, .string a1, Sl.v a2, .int .i64 a3]) Tryz.func25 rfl (by rw [Tryz.ntmps25]; simp) ?_
  rw [Tryz.ntmps25]
  unfold f_ztree_Tree_Set at h
  refine AW.seq ?_
  refine AW.reg ?_
  refine Lp (V_asg rfl rfl) rfl rfl ?_
  refine Lp (V_asg rfl rfl) rfl rfl ?_
  refine Lnil ?_
  refine thenN ?_
  refine AW.seq ?_
  refine AW.seq ?_
  refine AW.reg ?_
  refine Lp (V_move rfl rfl) rfl rfl ?_
  refine Lp (V_eqlS rfl rfl rfl) rfl rfl ?_
  refine Lp (V_move rfl rfl) rfl rfl ?_
  refine LsplitJ 4 (decide (a1 = (⟨#[47]⟩ : ByteArray))) decide_eq_true_iff h (fun fr σ => ∃ (x18_2 : Bool), FrLe [(0, .pointer a0), (1, .string a1), (2, Sl.v a2), (3, .int .i64 a3), (18, .bool x18_2)] fr ∧ j1_ztree_Tree_Set B ro a0 a1 a2 a3 Q x18_2 σ) ?_ ?_ ?_
  · intro h e2 hk2
    refine Ln rfl rfl rfl rfl (.inl (by rw [e2]; rfl)) ?_
    refine Ln rfl rfl rfl rfl (.inl (by rw [e2]; rfl)) ?_
    refine Ln rfl rfl rfl rfl (.inl (by rw [e2]; rfl)) ?_
    refine Lp (V_pickT rfl (evb e2) rfl) rfl rfl ?_
    exact hk2 _ _ ⟨_, (FrLe.cons rfl (FrLe.cons rfl (FrLe.cons rfl (FrLe.cons rfl (FrLe.cons rfl (FrLe.nil _)))))), h⟩
  · intro h e2 hk2
    refine Lypb (V_move rfl rfl) rfl rfl rfl rfl e2 ?_
    refine Lyb rfl rfl rfl rfl e2 (X_call rfl Tryz.func55 rfl rfl rfl (ACalls.mono h ?_))
    rintro v σ ⟨x16_12, rfl, h⟩
    refine Lypb (V_neq rfl rfl rfl) rfl rfl rfl rfl e2 ?_
    refine Lp (V_pickF rfl (evb e2) rfl) rfl rfl ?_
    exact hk2 _ _ ⟨_, (FrLe.cons rfl (FrLe.cons rfl (FrLe.cons rfl (FrLe.cons rfl (FrLe.cons rfl (FrLe.nil _)))))), h⟩
  rintro fr σ ⟨x18_2, hl, h⟩
  unfold j1_ztree_Tree_Set at h
  refine Lfr hl ?_
  refine Lnil ?_
  refine thenN ?_
  refine AW.iff rfl Iff.rfl h (fun h => ?_) (fun h => ?_)
  · refine AW.seq ?_
    refine AW.reg ?_
    refine Lp (V_asg rfl rfl) rfl rfl ?_
    refine Lp (V_asg rfl rfl) rfl rfl ?_
    refine Lnil ?_
    refine thenN ?_
    refine AW.ret ?_
    refine thenR ?_
    exact bR2 Tryz.results25 rfl rfl ⟨_, _, rfl, h⟩
  refine AW.skip ?_
  refine thenN ?_
  refine AW.seq ?_
  refine AW.seq ?_
  refine AW.reg ?_
  refine Lp (V_move rfl rfl) rfl rfl ?_
  refine Lp (V_lenL rfl rfl Tryz.underlying30 rfl rfl) rfl rfl ?_
  refine Lp (V_gtr rfl rfl rfl) rfl rfl ?_
  refine Lnil ?_
  refine thenN ?_
  refine AW.iff rfl decide_eq_true_iff h (fun h => ?_) (fun h => ?_)
  · refine AW.seq ?_
    refine AW.reg ?_
    refine Lp (V_asg rfl rfl) rfl rfl ?_
    refine Lp (V_asg rfl rfl) rfl rfl ?_
    refine Lnil ?_
    refine thenN ?_
    refine AW.ret ?_
    refine thenR ?_
    exact bR2 Tryz.results25 rfl rfl ⟨_, _, rfl, h⟩
  refine AW.skip ?_
  refine thenN ?_
  refine AW.seq ?_
  refine AW.reg ?_
  refine Lp (V_move rfl rfl) rfl rfl ?_
  refine Lp (V_move rfl rfl) rfl rfl ?_
  refine Lp (V_move rfl rfl) rfl rfl ?_
  refine Ls rfl rfl (X_call rfl Tryz.func73 rfl rfl rfl (ACalls.mono h ?_))
  rintro v σ ⟨x26_3, x26_4, rfl, h⟩
  refine Lp (V_move rfl rfl) rfl rfl ?_
  refine Lp (V_ext rfl rfl rfl) rfl rfl ?_
  refine Lp (V_ext rfl rfl rfl) rfl rfl ?_
  refine Lp (V_asg rfl rfl) rfl rfl ?_
  refine Lp (V_asg rfl rfl) rfl rfl ?_
  refine Lnil ?_
  refine thenN ?_
  refine AW.seq ?_
  refine AW.seq ?_
  refine AW.reg ?_
  refine Lp (V_move rfl rfl) rfl rfl ?_
  refine Lp (V_neq rfl rfl rfl) rfl rfl ?_
  refine Lnil ?_
  refine thenN ?_
  refine AW.iff rfl (bnot_iff decide_eq_true_iff) h (fun h => ?_) (fun h => ?_)
  · refine AW.seq ?_
    refine AW.reg ?_
    refine Lp (V_move rfl rfl) rfl rfl ?_
    refine Lp (V_asg rfl rfl) rfl rfl ?_
    refine Lp (V_asg rfl rfl) rfl rfl ?_
    refine Lnil ?_
    refine thenN ?_
    refine AW.ret ?_
    refine thenR ?_
    exact bR2 Tryz.results25 rfl rfl ⟨_, _, rfl, h⟩
  refine AW.skip ?_
  refine thenN ?_
  refine AW.seq ?_
  refine AW.reg ?_
  refine Lp (V_move rfl rfl) rfl rfl ?_
  refine Lp (V_move rfl rfl) rfl rfl ?_
  refine Ls rfl rfl (X_call rfl Tryz.func61 rfl rfl rfl (ACalls.mono h ?_))
  rintro v σ ⟨x34_5, rfl, h⟩
  obtain ⟨p35_6, hc, h⟩ := h
  refine Lp (V_nil rfl (by rw [← hc]; rfl)) rfl rfl ?_
  refine Lp (V_fld rfl Tryz.underlying133 rfl ty30 (by decide) rfl) rfl rfl ?_
  refine Ls rfl rfl (X_st rfl ty30 rfl rfl rfl rfl (stN_mono h fun σ h => ?_))
  refine Lnil ?_
  refine thenN ?_
  refine AW.seq ?_
  refine AW.reg ?_
  refine Lp (V_move rfl rfl) rfl rfl ?_
  obtain ⟨p38_7, hc, h⟩ := h
  refine Lp (V_nil rfl (by rw [← hc]; rfl)) rfl rfl ?_
  refine Lp (V_fld rfl Tryz.underlying133 rfl ty32 (by decide) rfl) rfl rfl ?_
  refine Lp (V_fld rfl Tryz.underlying32 rfl ty3 (by decide) rfl) rfl rfl ?_
  obtain ⟨x41_8, hc, h⟩ := h
  refine Ls rfl rfl (X_ld rfl Tryz.underlying3 rfl rfl hc ?_)
  refine Lp (V_add rfl rfl rfl) rfl rfl ?_
  obtain ⟨p43_9, hc, h⟩ := h
  refine Lp (V_nil rfl (by rw [← hc]; rfl)) rfl rfl ?_
  refine Lp (V_fld rfl Tryz.underlying133 rfl ty32 (by decide) rfl) rfl rfl ?_
  refine Lp (V_fld rfl Tryz.underlying32 rfl ty3 (by decide) rfl) rfl rfl ?_
  refine Ls rfl rfl (X_st rfl ty3 rfl rfl rfl rfl (stN_mono h fun σ h => ?_))
  refine Lnil ?_
  refine thenN ?_
  refine AW.seq ?_
  refine AW.reg ?_
  refine Lp (V_move rfl rfl) rfl rfl ?_
  obtain ⟨p47_10, hc, h⟩ := h
  refine Lp (V_nil rfl (by rw [← hc]; rfl)) rfl rfl ?_
  refine Lp (V_fld rfl Tryz.underlying133 rfl ty32 (by decide) rfl) rfl rfl ?_
  refine Lp (V_fld rfl Tryz.underlying32 rfl ty3 (by decide) rfl) rfl rfl ?_
  obtain ⟨x50_11, hc, h⟩ := h
  refine Ls rfl rfl (X_ld rfl Tryz.underlying3 rfl rfl hc ?_)
  refine Lp (V_asg rfl rfl) rfl rfl ?_
  refine Lp (V_asg rfl rfl) rfl rfl ?_
  refine Lnil ?_
  refine thenN ?_
  refine AW.ret ?_
  exact bR2 Tryz.results25 rfl rfl ⟨_, _, rfl, h⟩

def f_ztree_New (B : World) (ro : AH) (σ : AH) (Q : Option Addr → AH → Prop) : Prop :=
 nw ro σ (.map #[] 0) fun x1_1 σ =>
 nw ro σ (.cells #[.int .i64 0, .int .i64 0, .int .i64 0, .int .i64 0, Sl.v (⟨none, 0, 0⟩ : Sl)] 133) fun x3_2 σ =>
 awp Tryz.prog ro (Instr.mapUpdate 126 (.map (some x1_1)) (.string (⟨#[47]⟩ : ByteArray)) (.pointer (some ⟨x3_2, 0, none⟩))) (fun _ σ =>
  nw ro σ (.cells #[.map (some x1_1)] 128) fun x6_3 σ =>
  Q (some ⟨x6_3, 0, none⟩) σ) σ

set_option maxRecDepth 100000 in
set_option maxHeartbeats 4000000 in
theorem ztree_New_ok {B : World} {ro : AH} {σ : AH} {Q : Option Addr → AH → Prop} (h : Sep ro σ → f_ztree_New B ro σ Q) : c_ztree_New B ro σ Q := by
  refine ACalls.of_sep fun hsep => ?_
  replace h := h hsep
  refine ACalls.of_body (args := []) Tryz.func30 rfl (by rw [Tryz.ntmps30]; simp) ?_
  rw [Tryz.ntmps30]
  unfold f_ztree_New at h
  refine AW.seq ?_
  refine AW.reg ?_
  refine Lp (V_asg rfl rfl) rfl rfl ?_
  refine Lnil ?_
  refine thenN ?_
  refine AW.seq ?_
  refine AW.reg ?_
  refine Ls rfl rfl (X_new (A_map0 rfl) fun x1_1 g1 g2 => ?_)
  replace h := h x1_1 g1 g2
  refine Lp (V_bld (vs := []) (cs := #[.int .i64 0, .int .i64 0, .int .i64 0, .int .i64 0, Sl.v (⟨none, 0, 0⟩ : Sl)]) rfl Tryz.underlying133 ty133 pl133 rfl rfl) rfl rfl ?_
  refine Ls rfl rfl (X_new (A_box rfl rfl) fun x3_2 g1 g2 => ?_)
  replace h := h x3_2 g1 g2
  refine Ls rfl rfl (X_mup (.inr rfl) rfl rfl rfl (awp_mono _ h ?_))
  rintro _ σ h
  refine Lp (V_move rfl rfl) rfl rfl ?_
  refine Lp (V_bld (vs := [(0, .map (some x1_1))]) (cs := #[.map (some x1_1)]) rfl Tryz.underlying128 ty128 pl128 rfl rfl) rfl rfl ?_
  refine Ls rfl rfl (X_new (A_box rfl rfl) fun x6_3 g1 g2 => ?_)
  replace h := h x6_3 g1 g2
  refine Lp (V_asg rfl rfl) rfl rfl ?_
  refine Lnil ?_
  refine thenN ?_
  refine AW.ret ?_
  exact bR1 Tryz.results30 rfl ⟨_, rfl, h⟩

def f_ztree_Tree_paths (B : World) (ro : AH) (a0 : Option Addr) (σ : AH) (Q : Sl → AH → Prop) : Prop :=
 ∃ p4_1 : Addr, a0 = some p4_1 ∧
 ∃ (x6_2 : Option Nat), acell ro σ p4_1 = some (.map x6_2) ∧
 c_maps_Keys_ztree_node B ro x6_2 σ fun x7_3 σ =>
 c_slices_Sorted_string B ro x7_3 σ fun x8_4 σ =>
 Q x8_4 σ

set_option maxRecDepth 100000 in
set_option maxHeartbeats 4000000 in
theorem ztree_Tree_paths_ok {B : World} {ro : AH} {a0 : Option Addr} {σ : AH} {Q : Sl → AH → Prop} (h : Sep ro σ → f_ztree_Tree_paths B ro a0 σ Q) : c_ztree_Tree_paths B ro a0 σ Q := by
  refine ACalls.of_sep fun hsep => ?_
  replace h := h hsep
  refine ACalls.of_body (args := [.pointer a0]) Tryz.func57 rfl (by rw [Tryz.ntmps57]; simp) ?_
  rw [Tryz.ntmps57]
  unfold f_ztree_Tree_paths at h
  refine AW.seq ?_
  refine AW.reg ?_
  refine Lp (V_asg rfl rfl) rfl rfl ?_
  refine Lnil ?_
  refine thenN ?_
  refine AW.seq ?_
  refine AW.reg ?_
  refine Lp (V_move rfl rfl) rfl rfl ?_
  obtain ⟨p4_1, hc, h⟩ := h
  refine Lp (V_nil rfl (by rw [← hc]; rfl)) rfl rfl ?_
  refine Lp (V_fld rfl Tryz.underlying128 rfl ty126 (by decide) rfl) rfl rfl ?_
  obtain ⟨x6_2, hc, h⟩ := h
  refine Ls rfl rfl (X_ld rfl Tryz.underlying126 rfl rfl hc ?_)
  refine Ls rfl rfl (X_call rfl Tryz.func109 rfl rfl rfl (ACalls.mono h ?_))
  rintro x7_3 σ ⟨_, rfl, h⟩
  refine Ls rfl rfl (X_call rfl Tryz.func108 rfl rfl rfl (ACalls.mono h ?_))
  rintro v σ ⟨x8_4, rfl, h⟩
  refine Lp (V_asg rfl rfl) rfl rfl ?_
  refine Lnil ?_
  refine thenN ?_
  refine AW.ret ?_
  exact bR1 Tryz.results57 rfl ⟨_, rfl, h⟩

def f_ztree_Tree_Paths_c1 (B : World) (ro : AH) (a0 : ByteArray) (a1 : Addr) (σ : AH) (Q : Bool → AH → Prop) : Prop :=
 ∃ (x7_1 : ByteArray), acell ro σ a1 = some (.string x7_1) ∧
 c_path_Under B ro x7_1 a0 σ fun x9_2 x9_3 σ =>
 Q (!x9_2) σ

set_option maxRecDepth 100000 in
set_option maxHeartbeats 4000000 in
theorem ztree_Tree_Paths_c1_ok {B : World} {ro : AH} {a0 : ByteArray} {a1 : Addr} {σ : AH} {Q : Bool → AH → Prop} (h : Sep ro σ → f_ztree_Tree_Paths_c1 B ro a0 a1 σ Q) : c_ztree_Tree_Paths_c1 B ro a0 a1 σ Q := by
  refine ACalls.of_sep fun hsep => ?_
  replace h := h hsep
  refine ACalls.of_body (args := [.string a0, .pointer (some a1)]) Tryz.func58 rfl (by rw [Tryz.ntmps58]; simp) ?_
  rw [Tryz.ntmps58]
  unfold f_ztree_Tree_Paths_c1 at h
  refine AW.seq ?_
  refine AW.reg ?_
  refine Lp (V_asg rfl rfl) rfl rfl ?_
  refine Lnil ?_
  refine thenN ?_
  refine AW.seq ?_
  refine AW.reg ?_
  obtain ⟨x7_1, hc, h⟩ := h
  refine Ls rfl rfl (X_ld rfl Tryz.underlying9 rfl rfl hc ?_)
  refine Lp (V_move rfl rfl) rfl rfl ?_
  refine Ls rfl rfl (X_call rfl Tryz.func59 rfl rfl rfl (ACalls.mono h ?_))
  rintro v σ ⟨x9_2, x9_3, rfl, h⟩
  refine Lp (V_move rfl rfl) rfl rfl ?_
  refine Lp (V_ext rfl rfl rfl) rfl rfl ?_
  refine Lp (V_ext rfl rfl rfl) rfl rfl ?_
  refine Lp (V_asg rfl rfl) rfl rfl ?_
  refine Lp (V_asg rfl rfl) rfl rfl ?_
  refine Lnil ?_
  refine thenN ?_
  refine AW.seq ?_
  refine AW.reg ?_
  refine Lp (V_move rfl rfl) rfl rfl ?_
  refine Lp (V_not rfl rfl) rfl rfl ?_
  refine Lp (V_asg rfl rfl) rfl rfl ?_
  refine Lnil ?_
  refine thenN ?_
  refine AW.ret ?_
  exact bR1 Tryz.results58 rfl ⟨_, rfl, h⟩

def f_ztree_Tree_find (B : World) (ro : AH) (a0 : Option Addr) (a1 : ByteArray) (σ : AH) (Q : Option Addr → Int → AH → Prop) : Prop :=
 c_path_Check B ro a1 σ fun x9_1 σ =>
 if ¬ (x9_1 = 0) then
  Q none x9_1 σ
 else
 ∃ p14_2 : Addr, a0 = some p14_2 ∧
 ∃ (x16_3 : Option Nat), acell ro σ p14_2 = some (.map x16_3) ∧
 awp Tryz.prog ro (Instr.lookup 126 (.map x16_3) (.string a1) false) (fun v σ =>
  (∃ (x18_4 : Option Addr), v = .pointer x18_4 ∧
   if x18_4 = none then
    Q none 70 σ
   else
   Q x18_4 0 σ)) σ

set_option maxRecDepth 100000 in
set_option maxHeartbeats 4000000 in
theorem ztree_Tree_find_ok {B : World} {ro : AH} {a0 : Option Addr} {a1 : ByteArray} {σ : AH} {Q : Option Addr → Int → AH → Prop} (h : Sep ro σ → f_ztree_Tree_find B ro a0 a1 σ Q) : c_ztree_Tree_find B ro a0 a1 σ Q := by
  refine ACalls.of_sep fun hsep => ?_
  replace h := h hsep
  refine ACalls.of_body (args := [.pointer a0, .string a1]) Tryz.func60 rfl (by rw [Tryz.ntmps60]; simp) ?_
  rw [Tryz.ntmps60]
  unfold f_ztree_Tree_find at h
  refine AW.seq ?_
  refine AW.reg ?_
  refine Lp (V_asg rfl rfl) rfl rfl ?_
  refine Lp (V_asg rfl rfl) rfl rfl ?_
  refine Lnil ?_
  refine thenN ?_
  refine AW.seq ?_
  refine AW.seq ?_
  refine AW.reg ?_
  refine Lp (V_move rfl rfl) rfl rfl ?_
  refine Ls rfl rfl (X_call rfl Tryz.func55 rfl rfl rfl (ACalls.mono h ?_))
  rintro v σ ⟨x9_1, rfl, h⟩
  refine Lp (V_asg rfl rfl) rfl rfl ?_
  refine Lnil ?_
  refine thenN ?_
  refine AW.seq ?_
  refine AW.reg ?_
  refine Lp (V_move rfl rfl) rfl rfl ?_
  refine Lp (V_neq rfl rfl rfl) rfl rfl ?_
  refine Lnil ?_
  refine thenN ?_
  refine AW.iff rfl (bnot_iff decide_eq_true_iff) h (fun h => ?_) (fun h => ?_)
  · refine AW.seq ?_
    refine AW.reg ?_
    refine Lp (V_move rfl rfl) rfl rfl ?_
    refine Lp (V_asg rfl rfl) rfl rfl ?_
    refine Lp (V_asg rfl rfl) rfl rfl ?_
    refine Lnil ?_
    refine thenN ?_
    refine AW.ret ?_
    refine thenR ?_
    exact bR2 Tryz.results60 rfl rfl ⟨_, _, rfl, h⟩
  refine AW.skip ?_
  refine thenN ?_
  refine AW.seq ?_
  refine AW.reg ?_
  refine Lp (V_move rfl rfl) rfl rfl ?_
  obtain ⟨p14_2, hc, h⟩ := h
  refine Lp (V_nil rfl (by rw [← hc]; rfl)) rfl rfl ?_
  refine Lp (V_fld rfl Tryz.underlying128 rfl ty126 (by decide) rfl) rfl rfl ?_
  obtain ⟨x16_3, hc, h⟩ := h
  refine Ls rfl rfl (X_ld rfl Tryz.underlying126 rfl rfl hc ?_)
  refine Lp (V_move rfl rfl) rfl rfl ?_
  refine Ls rfl rfl (X_lkp rfl rfl rfl (awp_mono _ h ?_))
  rintro v σ ⟨x18_4, rfl, h⟩
  refine Lp (V_asg rfl rfl) rfl rfl ?_
  refine Lnil ?_
  refine thenN ?_
  refine AW.seq ?_
  refine AW.seq ?_
  refine AW.reg ?_
  refine Lp (V_move rfl rfl) rfl rfl ?_
  refine Lp (V_eqP rfl Tryz.underlying129 rfl rfl) rfl rfl ?_
  refine Lnil ?_
  refine thenN ?_
  refine AW.iff rfl isNone_iff h (fun h => ?_) (fun h => ?_)
  · refine AW.seq ?_
    refine AW.reg ?_
    refine Lp (V_asg rfl rfl) rfl rfl ?_
    refine Lp (V_asg rfl rfl) rfl rfl ?_
    refine Lnil ?_
    refine thenN ?_
    refine AW.ret ?_
    refine thenR ?_
    exact bR2 Tryz.results60 rfl rfl ⟨_, _, rfl, h⟩
  refine AW.skip ?_
  refine thenN ?_
  refine AW.seq ?_
  refine AW.reg ?_
  refine Lp (V_move rfl rfl) rfl rfl ?_
  refine Lp (V_asg rfl rfl) rfl rfl ?_
  refine Lp (V_asg rfl rfl) rfl rfl ?_
  refine Lnil ?_
  refine thenN ?_
  refine AW.ret ?_
  exact bR2 Tryz.results60 rfl rfl ⟨_, _, rfl, h⟩

def j3_ztree_Tree_check (B : World) (ro : AH) (x15_1 : Option Addr) (x15_2 : Int) (Q : Option Addr → Int → AH → Prop) (x32_4 : Bool) (σ : AH) : Prop :=
 if x32_4 = true then
  Q none 72 σ
 else
 Q x15_1 x15_2 σ

def f_ztree_Tree_check (B : World) (ro : AH) (a0 : Option Addr) (a1 : ByteArray) (a2 : Int) (σ : AH) (Q : Option Addr → Int → AH → Prop) : Prop :=
 if a1 = (⟨#[47]⟩ : ByteArray) then
  Q none 20 σ
 else
 c_ztree_Tree_find B ro a0 a1 σ fun x15_1 x15_2 σ =>
 if (x15_2 = 0) ∧ (¬ (a2 = (-1))) then
  ∃ p27_5 : Addr, x15_1 = some p27_5 ∧
  ∃ (x30_6 : Int), acell ro σ p27_5 = some (.int .i64 x30_6) ∧
  j3_ztree_Tree_check B ro x15_1 x15_2 Q (!(decide (a2 = x30_6))) σ
 else
 j3_ztree_Tree_check B ro x15_1 x15_2 Q false σ

set_option maxRecDepth 100000 in
set_option maxHeartbeats 4000000 in
theorem ztree_Tree_check_ok {B : World} {ro : AH} {a0 : Option Addr} {a1 : ByteArray} {a2 : Int} {σ : AH} {Q : Option Addr → Int → AH → Prop} (h : Sep ro σ → f_ztree_Tree_check B ro a0 a1 a2 σ Q) : c_ztree_Tree_check B ro a0 a1 a2 σ Q := by
  refine ACalls.of_sep fun hsep => ?_
  replace h := h hsep
  refine ACalls.of_body (args := [.pointer a0, .string a1, .int .i64 a2]) Tryz.func73 rfl (by rw [Tryz.ntmps73]; simp) ?_
  rw [Tryz.ntmps73]
  unfold f_ztree_Tree_check at h
  refine AW.seq ?_
  refine AW.reg ?_
  refine Lp (V_asg rfl rfl) rfl rfl ?_
  refine Lp (V_asg rfl rfl) rfl rfl ?_
  refine Lnil ?_
  refine thenN ?_
  refine AW.seq ?_
  refine AW.seq ?_
  refine AW.reg ?_
  refine Lp (V_move rfl rfl) rfl rfl ?_
  refine Lp (V_eqlS rfl rfl rfl) rfl rfl ?_
  refine Lnil ?_
  refine thenN ?_
  refine AW.iff rfl decide_eq_true_iff h (fun h => ?_) (fun h => ?_)
  · refine AW.seq ?_
    refine AW.reg ?_
    refine Lp (V_asg rfl rfl) rfl rfl ?_
    refine Lp (V_asg rfl rfl) rfl rfl ?_
    refine Lnil ?_
    refine thenN ?_
    refine AW.ret ?_
    refine thenR ?_
    exact bR2 Tryz.results73 rfl rfl ⟨_, _, rfl, h⟩
  refine AW.skip ?_
  refine thenN ?_
  refine AW.seq ?_
  refine AW.reg ?_
  refine Lp (V_move rfl rfl) rfl rfl ?_
  refine Lp (V_move rfl rfl) rfl rfl ?_
  refine Ls rfl rfl (X_call rfl Tryz.func60 rfl rfl rfl (ACalls.mono h ?_))
  rintro v σ ⟨x15_1, x15_2, rfl, h⟩
  refine Lp (V_move rfl rfl) rfl rfl ?_
  refine Lp (V_ext rfl rfl rfl) rfl rfl ?_
  refine Lp (V_ext rfl rfl rfl) rfl rfl ?_
  refine Lp (V_asg rfl rfl) rfl rfl ?_
  refine Lp (V_asg rfl rfl) rfl rfl ?_
  refine Lnil ?_
  refine thenN ?_
  refine AW.seq ?_
  refine AW.seq ?_
  refine AW.reg ?_
  refine Lp (V_move rfl rfl) rfl rfl ?_
  refine Lp (V_eql rfl rfl rfl) rfl rfl ?_
  refine Lp (V_move rfl rfl) rfl rfl ?_
  refine Lsplit 3 (decide (x15_2 = 0)) [(2, .int .i64 a2), (8, .pointer x15_1), (9, .int .i64 x15_2), (23, .bool ((decide (x15_2 = 0)) && (!(decide (a2 = (-1))))))] ?_ ?_ ?_
  · intro e2 hk2
    refine Lypb (V_move rfl rfl) rfl rfl rfl rfl e2 ?_
    refine Lypb (V_neq rfl rfl rfl) rfl rfl rfl rfl e2 ?_
    refine Lp (V_pickT rfl (evb e2) rfl) rfl rfl ?_
    exact hk2 _ (FrLe.cons rfl (FrLe.cons rfl (FrLe.cons rfl (FrLe.cons (by rw [e2]; rfl) (FrLe.nil _)))))
  · intro e2 hk2
    refine Ln rfl rfl rfl rfl (.inl (by rw [e2]; rfl)) ?_
    refine Ln rfl rfl rfl rfl (.inl (by rw [e2]; rfl)) ?_
    refine Lp (V_pickF rfl (evb e2) rfl) rfl rfl ?_
    exact hk2 _ (FrLe.cons rfl (FrLe.cons rfl (FrLe.cons rfl (FrLe.cons (by rw [e2]; rfl) (FrLe.nil _)))))
  intro fr hl
  refine Lfr hl ?_
  refine Lp (V_move rfl rfl) rfl rfl ?_
  refine LsplitJ 8 ((decide (x15_2 = 0)) && (!(decide (a2 = (-1))))) (band_iff decide_eq_true_iff (bnot_iff decide_eq_true_iff)) h (fun fr σ => ∃ (x32_4 : Bool), FrLe [(8, .pointer x15_1), (9, .int .i64 x15_2), (32, .bool x32_4)] fr ∧ j3_ztree_Tree_check B ro x15_1 x15_2 Q x32_4 σ) ?_ ?_ ?_
  · intro h e6 hk6
    refine Lypb (V_move rfl rfl) rfl rfl rfl rfl e6 ?_
    refine Lypb (V_move rfl rfl) rfl rfl rfl rfl e6 ?_
    obtain ⟨p27_5, hc, h⟩ := h
    refine Lypb (V_nil rfl (by rw [← hc]; rfl)) rfl rfl rfl rfl e6 ?_
    refine Lypb (V_fld rfl Tryz.underlying133 rfl ty32 (by decide) rfl) rfl rfl rfl rfl e6 ?_
    refine Lypb (V_fld rfl Tryz.underlying32 rfl ty3 (by decide) rfl) rfl rfl rfl rfl e6 ?_
    obtain ⟨x30_6, hc, h⟩ := h
    refine Lyb rfl rfl rfl rfl e6 (X_ld rfl Tryz.underlying3 rfl rfl hc ?_)
    refine Lypb (V_neq rfl rfl rfl) rfl rfl rfl rfl e6 ?_
    refine Lp (V_pickT rfl (evb e6) rfl) rfl rfl ?_
    exact hk6 _ _ ⟨_, (FrLe.cons rfl (FrLe.cons rfl (FrLe.cons rfl (FrLe.nil _)))), h⟩
  · intro h e6 hk6
    refine Ln rfl rfl rfl rfl (.inl (by rw [e6]; rfl)) ?_
    refine Ln rfl rfl rfl rfl (.inl (by rw [e6]; rfl)) ?_
    refine Ln rfl rfl rfl rfl (.inl (by rw [e6]; rfl)) ?_
    refine Ln rfl rfl rfl rfl (.inl (by rw [e6]; rfl)) ?_
    refine Ln rfl rfl rfl rfl (.inl (by rw [e6]; rfl)) ?_
    refine Ln rfl rfl rfl rfl (.inl (by rw [e6]; rfl)) ?_
    refine Ln rfl rfl rfl rfl (.inl (by rw [e6]; rfl)) ?_
    refine Lp (V_pickF rfl (evb e6) rfl) rfl rfl ?_
    exact hk6 _ _ ⟨_, (FrLe.cons rfl (FrLe.cons rfl (FrLe.cons rfl (FrLe.nil _)))), h⟩
  rintro fr σ ⟨x32_4, hl, h⟩
  unfold j3_ztree_Tree_check at h
  refine Lfr hl ?_
  refine Lnil ?_
  refine thenN ?_
  refine AW.iff rfl Iff.rfl h (fun h => ?_) (fun h => ?_)
  · refine AW.seq ?_
    refine AW.reg ?_
    refine Lp (V_asg rfl rfl) rfl rfl ?_
    refine Lp (V_asg rfl rfl) rfl rfl ?_
    refine Lnil ?_
    refine thenN ?_
    refine AW.ret ?_
    refine thenR ?_
    exact bR2 Tryz.results73 rfl rfl ⟨_, _, rfl, h⟩
  refine AW.skip ?_
  refine thenN ?_
  refine AW.seq ?_
  refine AW.reg ?_
  refine Lp (V_move rfl rfl) rfl rfl ?_
  refine Lp (V_move rfl rfl) rfl rfl ?_
  refine Lp (V_asg rfl rfl) rfl rfl ?_
  refine Lp (V_asg rfl rfl) rfl rfl ?_
  refine Lnil ?_
  refine thenN ?_
  refine AW.ret ?_
  exact bR2 Tryz.results73 rfl rfl ⟨_, _, rfl, h⟩

end Go.Proofs.YthfpmipeejjogaaGreatDoor.G
