/- GL7, GR1, ZtL, ZtV, ZtS, Mem3, Mem4 -/
import Derived.Test.YthfpmipeejjogaaGreatDoorXF
/- Functions as predicate transformers, and the proofs that the code does what they tell: printed by wip/tools/gen.py. -/
namespace Go.Proofs.YthfpmipeejjogaaGreatDoor.G
open Go Go.Proofs.YthfpmipeejjogaaGreatDoor.SL
set_option linter.unusedVariables false
set_option linter.unusedSimpArgs false

def j9_law07_ZtreeBack (B : World) (ro : AH) (Q : Bool → AH → Prop) (x133_10 : Bool) (σ : AH) : Prop :=
 Q x133_10 σ

def j5_law07_ZtreeBack (B : World) (ro : AH) (x19_1 : Option Addr) (x25_3 : Option Addr) (Q : Bool → AH → Prop) (σ : AH) : Prop :=
 c_ztree_Tree_Encode B ro x19_1 σ fun x127_6 σ =>
 c_ztree_Tree_Encode B ro x25_3 σ fun x129_7 σ =>
 c_ref01_Same B ro x127_6 x129_7 σ fun x130_8 σ =>
 if x130_8 = true then
  c_law07_awake B ro σ fun x132_11 σ =>
  j9_law07_ZtreeBack B ro Q x132_11 σ
 else
 j9_law07_ZtreeBack B ro Q false σ

def j14_law07_ZtreeBack (B : World) (ro : AH) (a1 : Sl) (x19_1 : Option Addr) (x25_3 : Option Addr) (x36_13 : Int) (Q : Bool → AH → Prop) (Y12 : (Int) → AH → Prop) (σ : AH) : Prop :=
 Y12 (IntKind.i64.wrap (x36_13 + 1)) σ

def l12_law07_ZtreeBack (B : World) (ro : AH) (a1 : Sl) (x19_1 : Option Addr) (x25_3 : Option Addr) (Q : Bool → AH → Prop) : (Int) → AH → ((Int) → AH → Prop) → Prop := fun x36_13 σ Y12 =>
 if x36_13 < (a1.len : Int) then
  ∃ p38_15 : Addr, a1.a = some p38_15 ∧ (0 : Int) ≤ x36_13 ∧ x36_13 < (a1.len : Int) ∧
  ∃ (x39_16a : Int) (x39_16b : Int) (x39_16c : ByteArray) (x39_16d : Sl) (x39_16e : Bool), cellsAt ro σ (p38_15.add (Int.toNat x36_13 * 5)) 0 [.int .i64 x39_16a, .int .i64 x39_16b, .string x39_16c, Sl.v x39_16d, .bool x39_16e] ∧
  nw ro σ (.cells #[.int .i64 0, .int .i64 0, .string ByteArray.empty, Sl.v (⟨none, 0, 0⟩ : Sl), .bool false] 40) fun x9_17 σ =>
  stN ⟨x9_17, 0, none⟩ (fun σ =>
   ∃ (x41_18 : Int), acell ro σ ⟨x9_17, 0, none⟩ = some (.int .i64 x41_18) ∧
   if x41_18 = 1 then
    ∃ (x47_19 : ByteArray), acell ro σ ((⟨x9_17, 0, none⟩ : Addr).add 2) = some (.string x47_19) ∧
    ∃ (x49_20 : Sl), acell ro σ ((⟨x9_17, 0, none⟩ : Addr).add 3) = some (Sl.v x49_20) ∧
    ∃ (x51_21 : Int), acell ro σ ((⟨x9_17, 0, none⟩ : Addr).add 1) = some (.int .i64 x51_21) ∧
    ∃ (x53_22 : Bool), acell ro σ ((⟨x9_17, 0, none⟩ : Addr).add 4) = some (.bool x53_22) ∧
    c_ztree_Tree_Create B ro x19_1 x47_19 x49_20 x51_21 x53_22 σ fun x54_23 x54_24 σ =>
    ∃ (x60_25 : ByteArray), acell ro σ ((⟨x9_17, 0, none⟩ : Addr).add 2) = some (.string x60_25) ∧
    ∃ (x62_26 : Sl), acell ro σ ((⟨x9_17, 0, none⟩ : Addr).add 3) = some (Sl.v x62_26) ∧
    ∃ (x64_27 : Int), acell ro σ ((⟨x9_17, 0, none⟩ : Addr).add 1) = some (.int .i64 x64_27) ∧
    ∃ (x66_28 : Bool), acell ro σ ((⟨x9_17, 0, none⟩ : Addr).add 4) = some (.bool x66_28) ∧
    c_ztree_Tree_Create B ro x25_3 x60_25 x62_26 x64_27 x66_28 σ fun x67_29 x67_30 σ =>
    if (¬ (x54_23 = x67_29)) ∨ (¬ (x54_24 = x67_30)) then
     Q false σ
    else
    j14_law07_ZtreeBack B ro a1 x19_1 x25_3 x36_13 Q Y12 σ
   else
   if x41_18 = 2 then
    lent σ fun ψ σ =>
     ∃ (x88_31 : ByteArray), acell (join ro ψ) (fun _ => none) ((⟨x9_17, 0, none⟩ : Addr).add 2) = some (.string x88_31) ∧
     ∃ (x90_32 : Int), acell (join ro ψ) (fun _ => none) ((⟨x9_17, 0, none⟩ : Addr).add 1) = some (.int .i64 x90_32) ∧
     ∃ (x82_33 : ByteArray), acell (join ro ψ) σ ((⟨x9_17, 0, none⟩ : Addr).add 2) = some (.string x82_33) ∧
     ∃ (x84_34 : Int), acell (join ro ψ) σ ((⟨x9_17, 0, none⟩ : Addr).add 1) = some (.int .i64 x84_34) ∧
     c_ztree_Tree_Delete B (join ro ψ) x19_1 x82_33 x84_34 σ fun x85_35 σ =>
     c_ztree_Tree_Delete B (join ro ψ) x25_3 x88_31 x90_32 σ fun x91_36 σ =>
     (Disj ψ σ → (fun σ => 
      if ¬ (x85_35 = x91_36) then
       Q false σ
      else
      j14_law07_ZtreeBack B ro a1 x19_1 x25_3 x36_13 Q Y12 σ) (join ψ σ))
   else
   if x41_18 = 3 then
    ∃ (x98_37 : ByteArray), acell ro σ ((⟨x9_17, 0, none⟩ : Addr).add 2) = some (.string x98_37) ∧
    ∃ (x100_38 : Sl), acell ro σ ((⟨x9_17, 0, none⟩ : Addr).add 3) = some (Sl.v x100_38) ∧
    ∃ (x102_39 : Int), acell ro σ ((⟨x9_17, 0, none⟩ : Addr).add 1) = some (.int .i64 x102_39) ∧
    c_ztree_Tree_Set B ro x19_1 x98_37 x100_38 x102_39 σ fun x103_40 x103_41 σ =>
    ∃ (x109_42 : ByteArray), acell ro σ ((⟨x9_17, 0, none⟩ : Addr).add 2) = some (.string x109_42) ∧
    ∃ (x111_43 : Sl), acell ro σ ((⟨x9_17, 0, none⟩ : Addr).add 3) = some (Sl.v x111_43) ∧
    ∃ (x113_44 : Int), acell ro σ ((⟨x9_17, 0, none⟩ : Addr).add 1) = some (.int .i64 x113_44) ∧
    c_ztree_Tree_Set B ro x25_3 x109_42 x111_43 x113_44 σ fun x114_45 x114_46 σ =>
    if (¬ (x103_40 = x114_45)) ∨ (¬ (x103_41 = x114_46)) then
     Q false σ
    else
    j14_law07_ZtreeBack B ro a1 x19_1 x25_3 x36_13 Q Y12 σ
   else
   j14_law07_ZtreeBack B ro a1 x19_1 x25_3 x36_13 Q Y12 σ) [.int .i64 x39_16a, .int .i64 x39_16b, .string x39_16c, Sl.v x39_16d, .bool x39_16e] 0 σ
 else
 j5_law07_ZtreeBack B ro x19_1 x25_3 Q σ

def f_law07_ZtreeBack (B : World) (ro : AH) (a0 : Sl) (a1 : Sl) (σ : AH) (Q : Bool → AH → Prop) : Prop :=
 c_law07_made B ro a0 σ fun x19_1 σ =>
 if x19_1 = none then
  Q false σ
 else
 c_ztree_Tree_Encode B ro x19_1 σ fun x24_2 σ =>
 c_ztree_Decode B ro x24_2 σ fun x25_3 x25_4 σ =>
 if (x25_3 = none) ∨ (¬ (x25_4 = 0)) then
  Q false σ
 else
 lfpD (l12_law07_ZtreeBack B ro a1 x19_1 x25_3 Q ) (0) σ

set_option maxRecDepth 100000 in
set_option maxHeartbeats 4000000 in
theorem law07_ZtreeBack_ok {B : World} {ro : AH} {a0 : Sl} {a1 : Sl} {σ : AH} {Q : Bool → AH → Prop} (h : Sep ro σ → f_law07_ZtreeBack B ro a0 a1 σ Q) : c_law07_ZtreeBack B ro a0 a1 σ Q := by
  refine ACalls.of_sep fun hsep => ?_
  replace h := h hsep
  refine ACalls.of_body (args := [Sl.v a0, Sl.v a1]) Tryz.func5 rfl (by rw [Tryz.ntmps5]; simp) ?_
  rw [Tryz.ntmps5]
  unfold f_law07_ZtreeBack at h
  refine AW.seq ?_
  refine AW.reg ?_
  refine Lp (V_asg rfl rfl) rfl rfl ?_
  refine Lnil ?_
  refine thenN ?_
  refine AW.seq ?_
  refine AW.reg ?_
  refine Lp (V_move rfl rfl) rfl rfl ?_
  refine Ls rfl rfl (X_call rfl Tryz.func14 rfl rfl rfl (ACalls.mono h ?_))
  rintro v σ ⟨x19_1, rfl, h⟩
  refine Lp (V_asg rfl rfl) rfl rfl ?_
  refine Lnil ?_
  refine thenN ?_
  refine AW.seq ?_
  refine AW.seq ?_
  refine AW.reg ?_
  refine Lp (V_move rfl rfl) rfl rfl ?_
  refine Lp (V_eqP rfl Tryz.underlying23 rfl rfl) rfl rfl ?_
  refine Lnil ?_
  refine thenN ?_
  refine AW.iff rfl isNone_iff h (fun h => ?_) (fun h => ?_)
  · refine AW.seq ?_
    refine AW.reg ?_
    refine Lp (V_asg rfl rfl) rfl rfl ?_
    refine Lnil ?_
    refine thenN ?_
    refine AW.ret ?_
    refine thenR ?_
    exact bR1 Tryz.results5 rfl ⟨_, rfl, h⟩
  refine AW.skip ?_
  refine thenN ?_
  refine AW.seq ?_
  refine AW.reg ?_
  refine Lp (V_move rfl rfl) rfl rfl ?_
  refine Ls rfl rfl (X_call rfl Tryz.func21 rfl rfl rfl (ACalls.mono h ?_))
  rintro v σ ⟨x24_2, rfl, h⟩
  refine Ls rfl rfl (X_call rfl Tryz.func27 rfl rfl rfl (ACalls.mono h ?_))
  rintro v σ ⟨x25_3, x25_4, rfl, h⟩
  refine Lp (V_move rfl rfl) rfl rfl ?_
  refine Lp (V_ext rfl rfl rfl) rfl rfl ?_
  refine Lp (V_ext rfl rfl rfl) rfl rfl ?_
  refine Lp (V_asg rfl rfl) rfl rfl ?_
  refine Lp (V_asg rfl rfl) rfl rfl ?_
  refine Lnil ?_
  refine thenN ?_
  refine AW.seq ?_
  refine AW.seq ?_
  refine AW.reg ?_
  refine Lp (V_move rfl rfl) rfl rfl ?_
  refine Lp (V_eqP rfl Tryz.underlying23 rfl rfl) rfl rfl ?_
  refine Lp (V_move rfl rfl) rfl rfl ?_
  refine Lsplit 3 x25_3.isNone [(1, Sl.v a1), (5, .pointer x19_1), (6, .pointer x25_3), (33, .bool (x25_3.isNone || (!(decide (x25_4 = 0)))))] ?_ ?_ ?_
  · intro e2 hk2
    refine Ln rfl rfl rfl rfl (.inl (by rw [e2]; rfl)) ?_
    refine Ln rfl rfl rfl rfl (.inl (by rw [e2]; rfl)) ?_
    refine Lp (V_pickT rfl (evb e2) rfl) rfl rfl ?_
    exact hk2 _ (FrLe.cons rfl (FrLe.cons rfl (FrLe.cons rfl (FrLe.cons (by rw [e2]; rfl) (FrLe.nil _)))))
  · intro e2 hk2
    refine Lypb (V_move rfl rfl) rfl rfl rfl rfl e2 ?_
    refine Lypb (V_neq rfl rfl rfl) rfl rfl rfl rfl e2 ?_
    refine Lp (V_pickF rfl (evb e2) rfl) rfl rfl ?_
    exact hk2 _ (FrLe.cons rfl (FrLe.cons rfl (FrLe.cons rfl (FrLe.cons (by rw [e2]; rfl) (FrLe.nil _)))))
  intro fr hl
  refine Lfr hl ?_
  refine Lnil ?_
  refine thenN ?_
  refine AW.iff rfl (bor_iff isNone_iff (bnot_iff decide_eq_true_iff)) h (fun h => ?_) (fun h => ?_)
  · refine AW.seq ?_
    refine AW.reg ?_
    refine Lp (V_asg rfl rfl) rfl rfl ?_
    refine Lnil ?_
    refine thenN ?_
    refine AW.ret ?_
    refine thenR ?_
    exact bR1 Tryz.results5 rfl ⟨_, rfl, h⟩
  refine AW.skip ?_
  refine thenN ?_
  refine AW.seqJ (fun fr σ => FrLe [(5, .pointer x19_1), (6, .pointer x25_3)] fr ∧ j5_law07_ZtreeBack B ro x19_1 x25_3 Q σ) ?_ ?_
  · rintro fr σ ⟨hl, h⟩
    refine AW.weaken ?_ hl (HLe.refl _)
    unfold j5_law07_ZtreeBack at h
    refine AW.seq ?_
    refine AW.reg ?_
    refine Lp (V_move rfl rfl) rfl rfl ?_
    refine Ls rfl rfl (X_call rfl Tryz.func21 rfl rfl rfl (ACalls.mono h ?_))
    rintro v σ ⟨x127_6, rfl, h⟩
    refine Lp (V_move rfl rfl) rfl rfl ?_
    refine Ls rfl rfl (X_call rfl Tryz.func21 rfl rfl rfl (ACalls.mono h ?_))
    rintro v σ ⟨x129_7, rfl, h⟩
    refine Ls rfl rfl (X_call rfl Tryz.func26 rfl rfl rfl (ACalls.mono h ?_))
    rintro v σ ⟨x130_8, rfl, h⟩
    refine Lp (V_move rfl rfl) rfl rfl ?_
    refine LsplitJ 2 x130_8 Iff.rfl h (fun fr σ => ∃ (x133_10 : Bool), FrLe [(133, .bool x133_10)] fr ∧ j9_law07_ZtreeBack B ro Q x133_10 σ) ?_ ?_ ?_
    · intro h e5 hk5
      refine Lyb rfl rfl rfl rfl e5 (X_call rfl Tryz.func20 rfl rfl rfl (ACalls.mono h ?_))
      rintro v σ ⟨x132_11, rfl, h⟩
      refine Lp (V_pickT rfl (evb e5) rfl) rfl rfl ?_
      exact hk5 _ _ ⟨_, (FrLe.cons rfl (FrLe.nil _)), h⟩
    · intro h e5 hk5
      refine Ln rfl rfl rfl rfl (.inl (by rw [e5]; rfl)) ?_
      refine Lp (V_pickF rfl (evb e5) rfl) rfl rfl ?_
      exact hk5 _ _ ⟨_, (FrLe.cons rfl (FrLe.nil _)), h⟩
    rintro fr σ ⟨x133_10, hl, h⟩
    unfold j9_law07_ZtreeBack at h
    refine Lfr hl ?_
    refine Lp (V_asg rfl rfl) rfl rfl ?_
    refine Lnil ?_
    refine thenN ?_
    refine AW.ret ?_
    exact bR1 Tryz.results5 rfl ⟨_, rfl, h⟩
  refine AW.seq ?_
  refine AW.reg ?_
  refine Lp (V_move rfl rfl) rfl rfl ?_
  refine Lp (V_lenL rfl rfl Tryz.underlying22 rfl rfl) rfl rfl ?_
  refine Lp (V_move rfl rfl) rfl rfl ?_
  refine Lnil ?_
  refine thenN ?_
  refine AW.block ?_
  refine ARound.loop (fr' := [(5, .pointer x19_1), (6, .pointer x25_3), (34, Sl.v a1), (35, .int .i64 (a1.len : Int)), (36, .int .i64 0)]) ?_ (FrLe.cons rfl (FrLe.cons rfl (FrLe.cons rfl (FrLe.cons rfl (FrLe.cons rfl (FrLe.nil _))))))
  refine h (fun x36_13 σ => ARound _ _ _ _ _ _ [(5, .pointer x19_1), (6, .pointer x25_3), (34, Sl.v a1), (35, .int .i64 (a1.len : Int)), (36, .int .i64 x36_13)] σ) ?_
  rintro x36_13 σ Y12 hY12 h
  show AW _ _ _ _ _ _ _ _
  unfold l12_law07_ZtreeBack at h
  refine AW.seq ?_
  refine AW.reg ?_
  refine Lp (V_lss rfl rfl rfl) rfl rfl ?_
  refine Lnil ?_
  refine thenN ?_
  refine AW.seq ?_
  refine AW.iff rfl decide_eq_true_iff h (fun h => ?_) (fun h => ?_)
  rotate_left
  · refine AW.exit ?_
    refine thenE ?_
    refine thenE ?_
    refine blockE ?_
    refine thenN ?_
    exact ⟨(FrLe.cons rfl (FrLe.cons rfl (FrLe.nil _))), h⟩
  refine AW.skip ?_
  refine thenN ?_
  refine AW.seqJ (fun fr σ => FrLe [(5, .pointer x19_1), (6, .pointer x25_3), (34, Sl.v a1), (35, .int .i64 (a1.len : Int)), (36, .int .i64 x36_13)] fr ∧ j14_law07_ZtreeBack B ro a1 x19_1 x25_3 x36_13 Q Y12 σ) ?_ ?_
  · rintro fr σ ⟨hl, h⟩
    refine AW.weaken ?_ hl (HLe.refl _)
    unfold j14_law07_ZtreeBack at h
    refine AW.reg ?_
    refine Lp (V_add rfl rfl rfl) rfl rfl ?_
    refine Lp (V_move rfl rfl) rfl rfl ?_
    refine Lnil ?_
    refine thenN ?_
    refine ARound.head (fr' := [(5, .pointer x19_1), (6, .pointer x25_3), (34, Sl.v a1), (35, .int .i64 (a1.len : Int)), (36, .int .i64 (IntKind.i64.wrap (x36_13 + 1)))]) ?_ (FrLe.cons rfl (FrLe.cons rfl (FrLe.cons rfl (FrLe.cons rfl (FrLe.cons rfl (FrLe.nil _))))))
    exact hY12 _ _ h
  refine AW.block ?_
  refine AW.seq ?_
  refine AW.reg ?_
  obtain ⟨p38_15, ha, h0, h1, h⟩ := h
  refine Lp (V_ixA rfl Tryz.underlying22 ty40 (ixL rfl ha) rfl h0 h1) rfl rfl ?_
  obtain ⟨x39_16a, x39_16b, x39_16c, x39_16d, x39_16e, hc, h⟩ := h
  refine Ls rfl rfl (X_lda rfl Tryz.underlying40 rfl ty40 rfl hc ?_)
  refine Ls rfl rfl (X_new (A_alloc rfl ty40) fun x9_17 g1 g2 => ?_)
  replace h := h x9_17 g1 g2
  refine Ls rfl rfl (X_st rfl ty40 rfl rfl rfl rfl (stN_mono h fun σ h => ?_))
  refine Lnil ?_
  refine thenN ?_
  refine AW.seq ?_
  refine AW.reg ?_
  refine Lp (V_fld rfl Tryz.underlying40 rfl ty3 (by decide) rfl) rfl rfl ?_
  obtain ⟨x41_18, hc, h⟩ := h
  refine Ls rfl rfl (X_ld rfl Tryz.underlying3 rfl rfl hc ?_)
  refine Lnil ?_
  refine thenN ?_
  refine AW.block ?_
  refine AW.seq ?_
  refine AW.reg ?_
  refine Lp (V_eql rfl rfl rfl) rfl rfl ?_
  refine Lp (V_asg rfl rfl) rfl rfl ?_
  refine Lnil ?_
  refine thenN ?_
  refine AW.iff rfl decide_eq_true_iff h (fun h => ?_) (fun h => ?_)
  · refine AW.seq ?_
    refine AW.reg ?_
    refine Lp (V_move rfl rfl) rfl rfl ?_
    refine Lp (V_fld rfl Tryz.underlying40 rfl ty9 (by decide) rfl) rfl rfl ?_
    obtain ⟨x47_19, hc, h⟩ := h
    refine Ls rfl rfl (X_ld rfl Tryz.underlying9 rfl rfl hc ?_)
    refine Lp (V_fld rfl Tryz.underlying40 rfl ty30 (by decide) rfl) rfl rfl ?_
    obtain ⟨x49_20, hc, h⟩ := h
    refine Ls rfl rfl (X_ld rfl Tryz.underlying30 rfl rfl hc ?_)
    refine Lp (V_fld rfl Tryz.underlying40 rfl ty3 (by decide) rfl) rfl rfl ?_
    obtain ⟨x51_21, hc, h⟩ := h
    refine Ls rfl rfl (X_ld rfl Tryz.underlying3 rfl rfl hc ?_)
    refine Lp (V_fld rfl Tryz.underlying40 rfl ty4 (by decide) rfl) rfl rfl ?_
    obtain ⟨x53_22, hc, h⟩ := h
    refine Ls rfl rfl (X_ld rfl Tryz.underlying4 rfl rfl hc ?_)
    refine Ls rfl rfl (X_call rfl Tryz.func22 rfl rfl rfl (ACalls.mono h ?_))
    rintro v σ ⟨x54_23, x54_24, rfl, h⟩
    refine Lp (V_move rfl rfl) rfl rfl ?_
    refine Lp (V_ext rfl rfl rfl) rfl rfl ?_
    refine Lp (V_ext rfl rfl rfl) rfl rfl ?_
    refine Lp (V_asg rfl rfl) rfl rfl ?_
    refine Lp (V_asg rfl rfl) rfl rfl ?_
    refine Lnil ?_
    refine thenN ?_
    refine AW.seq ?_
    refine AW.reg ?_
    refine Lp (V_move rfl rfl) rfl rfl ?_
    refine Lp (V_fld rfl Tryz.underlying40 rfl ty9 (by decide) rfl) rfl rfl ?_
    obtain ⟨x60_25, hc, h⟩ := h
    refine Ls rfl rfl (X_ld rfl Tryz.underlying9 rfl rfl hc ?_)
    refine Lp (V_fld rfl Tryz.underlying40 rfl ty30 (by decide) rfl) rfl rfl ?_
    obtain ⟨x62_26, hc, h⟩ := h
    refine Ls rfl rfl (X_ld rfl Tryz.underlying30 rfl rfl hc ?_)
    refine Lp (V_fld rfl Tryz.underlying40 rfl ty3 (by decide) rfl) rfl rfl ?_
    obtain ⟨x64_27, hc, h⟩ := h
    refine Ls rfl rfl (X_ld rfl Tryz.underlying3 rfl rfl hc ?_)
    refine Lp (V_fld rfl Tryz.underlying40 rfl ty4 (by decide) rfl) rfl rfl ?_
    obtain ⟨x66_28, hc, h⟩ := h
    refine Ls rfl rfl (X_ld rfl Tryz.underlying4 rfl rfl hc ?_)
    refine Ls rfl rfl (X_call rfl Tryz.func22 rfl rfl rfl (ACalls.mono h ?_))
    rintro v σ ⟨x67_29, x67_30, rfl, h⟩
    refine Lp (V_move rfl rfl) rfl rfl ?_
    refine Lp (V_ext rfl rfl rfl) rfl rfl ?_
    refine Lp (V_ext rfl rfl rfl) rfl rfl ?_
    refine Lp (V_asg rfl rfl) rfl rfl ?_
    refine Lp (V_asg rfl rfl) rfl rfl ?_
    refine Lnil ?_
    refine thenN ?_
    refine AW.seq ?_
    refine AW.reg ?_
    refine Lp (V_move rfl rfl) rfl rfl ?_
    refine Lp (V_move rfl rfl) rfl rfl ?_
    refine Lp (V_neqS rfl rfl rfl) rfl rfl ?_
    refine Lp (V_move rfl rfl) rfl rfl ?_
    refine Lsplit 4 (!(decide (x54_23 = x67_29))) [(5, .pointer x19_1), (6, .pointer x25_3), (34, Sl.v a1), (35, .int .i64 (a1.len : Int)), (36, .int .i64 x36_13), (77, .bool ((!(decide (x54_23 = x67_29))) || (!(decide (x54_24 = x67_30)))))] ?_ ?_ ?_
    · intro e3 hk3
      refine Ln rfl rfl rfl rfl (.inl (by rw [e3]; rfl)) ?_
      refine Ln rfl rfl rfl rfl (.inl (by rw [e3]; rfl)) ?_
      refine Ln rfl rfl rfl rfl (.inl (by rw [e3]; rfl)) ?_
      refine Lp (V_pickT rfl (evb e3) rfl) rfl rfl ?_
      exact hk3 _ (FrLe.cons rfl (FrLe.cons rfl (FrLe.cons rfl (FrLe.cons rfl (FrLe.cons rfl (FrLe.cons (by rw [e3]; rfl) (FrLe.nil _)))))))
    · intro e3 hk3
      refine Lypb (V_move rfl rfl) rfl rfl rfl rfl e3 ?_
      refine Lypb (V_move rfl rfl) rfl rfl rfl rfl e3 ?_
      refine Lypb (V_neq rfl rfl rfl) rfl rfl rfl rfl e3 ?_
      refine Lp (V_pickF rfl (evb e3) rfl) rfl rfl ?_
      exact hk3 _ (FrLe.cons rfl (FrLe.cons rfl (FrLe.cons rfl (FrLe.cons rfl (FrLe.cons rfl (FrLe.cons (by rw [e3]; rfl) (FrLe.nil _)))))))
    intro fr hl
    refine Lfr hl ?_
    refine Lnil ?_
    refine thenN ?_
    refine AW.iff rfl (bor_iff (bnot_iff decide_eq_true_iff) (bnot_iff decide_eq_true_iff)) h (fun h => ?_) (fun h => ?_)
    rotate_left
    · refine AW.skip ?_
      refine blockN ?_
      refine blockN ?_
      refine thenN ?_
      exact ⟨(FrLe.cons rfl (FrLe.cons rfl (FrLe.cons rfl (FrLe.cons rfl (FrLe.cons rfl (FrLe.nil _)))))), h⟩
    refine AW.seq ?_
    refine AW.reg ?_
    refine Lp (V_asg rfl rfl) rfl rfl ?_
    refine Lnil ?_
    refine thenN ?_
    refine AW.ret ?_
    refine blockR ?_
    refine blockR ?_
    refine thenR ?_
    refine thenR ?_
    refine blockR ?_
    refine thenR ?_
    exact bR1 Tryz.results5 rfl ⟨_, rfl, h⟩
  refine AW.seq ?_
  refine AW.reg ?_
  refine Lp (V_eql rfl rfl rfl) rfl rfl ?_
  refine Lp (V_asg rfl rfl) rfl rfl ?_
  refine Lnil ?_
  refine thenN ?_
  refine AW.iff rfl decide_eq_true_iff h (fun h => ?_) (fun h => ?_)
  · refine AW.seq ?_
    refine AW.drawnL (fun i => ([0, 0, 3, 0, 3, 2, 0, 0, 0, 0, 0, 2, 0] : List Nat).getD i 2) [(2, 5), (2, 11), (4, 5), (4, 11)] [0, 1, 3, 6, 7, 8, 9, 10, 2, 4, 5, 11, 12] Tryz.mixed h (by decide +kernel) ?_
    clear h
    intro ψ σ h
    refine Dp rfl rfl rfl rfl (V_move rfl rfl) ?_
    refine Dp rfl rfl rfl rfl (V_fld rfl Tryz.underlying40 rfl ty9 (by decide) rfl) ?_
    refine Dp rfl rfl rfl rfl (V_fld rfl Tryz.underlying40 rfl ty3 (by decide) rfl) ?_
    refine Dp rfl rfl rfl rfl (V_move rfl rfl) ?_
    refine Dp rfl rfl rfl rfl (V_fld rfl Tryz.underlying40 rfl ty9 (by decide) rfl) ?_
    obtain ⟨x88_31, hc, h⟩ := h
    refine Dp rfl rfl rfl rfl (V_ld rfl Tryz.underlying9 rfl rfl hc) ?_
    refine Dp rfl rfl rfl rfl (V_fld rfl Tryz.underlying40 rfl ty3 (by decide) rfl) ?_
    obtain ⟨x90_32, hc, h⟩ := h
    refine Dp rfl rfl rfl rfl (V_ld rfl Tryz.underlying3 rfl rfl hc) ?_
    obtain ⟨x82_33, hc, h⟩ := h
    refine Dr rfl rfl rfl rfl (R_ld rfl Tryz.underlying9 rfl rfl hc) ?_
    obtain ⟨x84_34, hc, h⟩ := h
    refine Dr rfl rfl rfl rfl (R_ld rfl Tryz.underlying3 rfl rfl hc) ?_
    refine Dg rfl rfl rfl rfl (X_call rfl Tryz.func24 rfl rfl rfl (ACalls.mono h ?_))
    rintro v σ ⟨x85_35, rfl, h⟩
    refine Dg rfl rfl rfl rfl (X_call rfl Tryz.func24 rfl rfl rfl (ACalls.mono h ?_))
    rintro v σ ⟨x91_36, rfl, h⟩
    refine Dp rfl rfl rfl rfl (V_neq rfl rfl rfl) ?_
    refine ⟨_, FrEq.refl _, fun hdj => ?_⟩
    replace h := h hdj
    refine thenN ?_
    refine AW.iff rfl (bnot_iff decide_eq_true_iff) h (fun h => ?_) (fun h => ?_)
    rotate_left
    · refine AW.skip ?_
      refine blockN ?_
      refine blockN ?_
      refine thenN ?_
      exact ⟨(FrLe.cons rfl (FrLe.cons rfl (FrLe.cons rfl (FrLe.cons rfl (FrLe.cons rfl (FrLe.nil _)))))), h⟩
    refine AW.seq ?_
    refine AW.reg ?_
    refine Lp (V_asg rfl rfl) rfl rfl ?_
    refine Lnil ?_
    refine thenN ?_
    refine AW.ret ?_
    refine blockR ?_
    refine blockR ?_
    refine thenR ?_
    refine thenR ?_
    refine blockR ?_
    refine thenR ?_
    exact bR1 Tryz.results5 rfl ⟨_, rfl, h⟩
  refine AW.seq ?_
  refine AW.reg ?_
  refine Lp (V_eql rfl rfl rfl) rfl rfl ?_
  refine Lp (V_asg rfl rfl) rfl rfl ?_
  refine Lnil ?_
  refine thenN ?_
  refine AW.iff rfl decide_eq_true_iff h (fun h => ?_) (fun h => ?_)
  rotate_left
  · refine AW.skip ?_
    refine blockN ?_
    refine blockN ?_
    refine thenN ?_
    exact ⟨(FrLe.cons rfl (FrLe.cons rfl (FrLe.cons rfl (FrLe.cons rfl (FrLe.cons rfl (FrLe.nil _)))))), h⟩
  refine AW.seq ?_
  refine AW.reg ?_
  refine Lp (V_move rfl rfl) rfl rfl ?_
  refine Lp (V_fld rfl Tryz.underlying40 rfl ty9 (by decide) rfl) rfl rfl ?_
  obtain ⟨x98_37, hc, h⟩ := h
  refine Ls rfl rfl (X_ld rfl Tryz.underlying9 rfl rfl hc ?_)
  refine Lp (V_fld rfl Tryz.underlying40 rfl ty30 (by decide) rfl) rfl rfl ?_
  obtain ⟨x100_38, hc, h⟩ := h
  refine Ls rfl rfl (X_ld rfl Tryz.underlying30 rfl rfl hc ?_)
  refine Lp (V_fld rfl Tryz.underlying40 rfl ty3 (by decide) rfl) rfl rfl ?_
  obtain ⟨x102_39, hc, h⟩ := h
  refine Ls rfl rfl (X_ld rfl Tryz.underlying3 rfl rfl hc ?_)
  refine Ls rfl rfl (X_call rfl Tryz.func25 rfl rfl rfl (ACalls.mono h ?_))
  rintro v σ ⟨x103_40, x103_41, rfl, h⟩
  refine Lp (V_move rfl rfl) rfl rfl ?_
  refine Lp (V_ext rfl rfl rfl) rfl rfl ?_
  refine Lp (V_ext rfl rfl rfl) rfl rfl ?_
  refine Lp (V_asg rfl rfl) rfl rfl ?_
  refine Lp (V_asg rfl rfl) rfl rfl ?_
  refine Lnil ?_
  refine thenN ?_
  refine AW.seq ?_
  refine AW.reg ?_
  refine Lp (V_move rfl rfl) rfl rfl ?_
  refine Lp (V_fld rfl Tryz.underlying40 rfl ty9 (by decide) rfl) rfl rfl ?_
  obtain ⟨x109_42, hc, h⟩ := h
  refine Ls rfl rfl (X_ld rfl Tryz.underlying9 rfl rfl hc ?_)
  refine Lp (V_fld rfl Tryz.underlying40 rfl ty30 (by decide) rfl) rfl rfl ?_
  obtain ⟨x111_43, hc, h⟩ := h
  refine Ls rfl rfl (X_ld rfl Tryz.underlying30 rfl rfl hc ?_)
  refine Lp (V_fld rfl Tryz.underlying40 rfl ty3 (by decide) rfl) rfl rfl ?_
  obtain ⟨x113_44, hc, h⟩ := h
  refine Ls rfl rfl (X_ld rfl Tryz.underlying3 rfl rfl hc ?_)
  refine Ls rfl rfl (X_call rfl Tryz.func25 rfl rfl rfl (ACalls.mono h ?_))
  rintro v σ ⟨x114_45, x114_46, rfl, h⟩
  refine Lp (V_move rfl rfl) rfl rfl ?_
  refine Lp (V_ext rfl rfl rfl) rfl rfl ?_
  refine Lp (V_ext rfl rfl rfl) rfl rfl ?_
  refine Lp (V_asg rfl rfl) rfl rfl ?_
  refine Lp (V_asg rfl rfl) rfl rfl ?_
  refine Lnil ?_
  refine thenN ?_
  refine AW.seq ?_
  refine AW.reg ?_
  refine Lp (V_move rfl rfl) rfl rfl ?_
  refine Lp (V_move rfl rfl) rfl rfl ?_
  refine Lp (V_neq rfl rfl rfl) rfl rfl ?_
  refine Lp (V_move rfl rfl) rfl rfl ?_
  refine Lsplit 4 (!(decide (x103_40 = x114_45))) [(5, .pointer x19_1), (6, .pointer x25_3), (34, Sl.v a1), (35, .int .i64 (a1.len : Int)), (36, .int .i64 x36_13), (124, .bool ((!(decide (x103_40 = x114_45))) || (!(decide (x103_41 = x114_46)))))] ?_ ?_ ?_
  · intro e3 hk3
    refine Ln rfl rfl rfl rfl (.inl (by rw [e3]; rfl)) ?_
    refine Ln rfl rfl rfl rfl (.inl (by rw [e3]; rfl)) ?_
    refine Ln rfl rfl rfl rfl (.inl (by rw [e3]; rfl)) ?_
    refine Lp (V_pickT rfl (evb e3) rfl) rfl rfl ?_
    exact hk3 _ (FrLe.cons rfl (FrLe.cons rfl (FrLe.cons rfl (FrLe.cons rfl (FrLe.cons rfl (FrLe.cons (by rw [e3]; rfl) (FrLe.nil _)))))))
  · intro e3 hk3
    refine Lypb (V_move rfl rfl) rfl rfl rfl rfl e3 ?_
    refine Lypb (V_move rfl rfl) rfl rfl rfl rfl e3 ?_
    refine Lypb (V_neq rfl rfl rfl) rfl rfl rfl rfl e3 ?_
    refine Lp (V_pickF rfl (evb e3) rfl) rfl rfl ?_
    exact hk3 _ (FrLe.cons rfl (FrLe.cons rfl (FrLe.cons rfl (FrLe.cons rfl (FrLe.cons rfl (FrLe.cons (by rw [e3]; rfl) (FrLe.nil _)))))))
  intro fr hl
  refine Lfr hl ?_
  refine Lnil ?_
  refine thenN ?_
  refine AW.iff rfl (bor_iff (bnot_iff decide_eq_true_iff) (bnot_iff decide_eq_true_iff)) h (fun h => ?_) (fun h => ?_)
  rotate_left
  · refine AW.skip ?_
    refine blockN ?_
    refine blockN ?_
    refine thenN ?_
    exact ⟨(FrLe.cons rfl (FrLe.cons rfl (FrLe.cons rfl (FrLe.cons rfl (FrLe.cons rfl (FrLe.nil _)))))), h⟩
  refine AW.seq ?_
  refine AW.reg ?_
  refine Lp (V_asg rfl rfl) rfl rfl ?_
  refine Lnil ?_
  refine thenN ?_
  refine AW.ret ?_
  refine blockR ?_
  refine blockR ?_
  refine thenR ?_
  refine thenR ?_
  refine blockR ?_
  refine thenR ?_
  exact bR1 Tryz.results5 rfl ⟨_, rfl, h⟩

def j2_law07_made (B : World) (ro : AH) (x6_1 : Option Addr) (Q : Option Addr → AH → Prop) (σ : AH) : Prop :=
 Q x6_1 σ

def j5_law07_made (B : World) (ro : AH) (a0 : Sl) (x6_1 : Option Addr) (x11_4 : Int) (Q : Option Addr → AH → Prop) (Y3 : (Int) → AH → Prop) (σ : AH) : Prop :=
 Y3 (IntKind.i64.wrap (x11_4 + 1)) σ

def l3_law07_made (B : World) (ro : AH) (a0 : Sl) (x6_1 : Option Addr) (Q : Option Addr → AH → Prop) : (Int) → AH → ((Int) → AH → Prop) → Prop := fun x11_4 σ Y3 =>
 if x11_4 < (a0.len : Int) then
  ∃ p13_6 : Addr, a0.a = some p13_6 ∧ (0 : Int) ≤ x11_4 ∧ x11_4 < (a0.len : Int) ∧
  ∃ (x14_7a : Int) (x14_7b : Int) (x14_7c : ByteArray) (x14_7d : Sl) (x14_7e : Bool), cellsAt ro σ (p13_6.add (Int.toNat x11_4 * 5)) 0 [.int .i64 x14_7a, .int .i64 x14_7b, .string x14_7c, Sl.v x14_7d, .bool x14_7e] ∧
  nw ro σ (.cells #[.int .i64 0, .int .i64 0, .string ByteArray.empty, Sl.v (⟨none, 0, 0⟩ : Sl), .bool false] 40) fun x5_8 σ =>
  stN ⟨x5_8, 0, none⟩ (fun σ =>
   ∃ (x16_9 : Int), acell ro σ ⟨x5_8, 0, none⟩ = some (.int .i64 x16_9) ∧
   if x16_9 = 1 then
    lent σ fun ψ σ =>
     ∃ (x21_10 : ByteArray), acell (join ro ψ) (fun _ => none) ((⟨x5_8, 0, none⟩ : Addr).add 2) = some (.string x21_10) ∧
     ∃ (x26_11 : Int), acell (join ro ψ) (fun _ => none) ((⟨x5_8, 0, none⟩ : Addr).add 1) = some (.int .i64 x26_11) ∧
     ∃ (x28_12 : Bool), acell (join ro ψ) (fun _ => none) ((⟨x5_8, 0, none⟩ : Addr).add 4) = some (.bool x28_12) ∧
     ∃ (x23_13 : Sl), acell (join ro ψ) σ ((⟨x5_8, 0, none⟩ : Addr).add 3) = some (Sl.v x23_13) ∧
     c_ref01_Copy B (join ro ψ) x23_13 σ fun x24_14 σ =>
     c_ztree_Tree_Create B (join ro ψ) x6_1 x21_10 x24_14 x26_11 x28_12 σ fun x29_15 x29_16 σ =>
     (Disj ψ σ → (fun σ => 
      j5_law07_made B ro a0 x6_1 x11_4 Q Y3 σ) (join ψ σ))
   else
   if x16_9 = 2 then
    ∃ (x34_17 : ByteArray), acell ro σ ((⟨x5_8, 0, none⟩ : Addr).add 2) = some (.string x34_17) ∧
    ∃ (x36_18 : Int), acell ro σ ((⟨x5_8, 0, none⟩ : Addr).add 1) = some (.int .i64 x36_18) ∧
    c_ztree_Tree_Delete B ro x6_1 x34_17 x36_18 σ fun x37_19 σ =>
    j5_law07_made B ro a0 x6_1 x11_4 Q Y3 σ
   else
   if x16_9 = 3 then
    lent σ fun ψ σ =>
     ∃ (x42_20 : ByteArray), acell (join ro ψ) (fun _ => none) ((⟨x5_8, 0, none⟩ : Addr).add 2) = some (.string x42_20) ∧
     ∃ (x47_21 : Int), acell (join ro ψ) (fun _ => none) ((⟨x5_8, 0, none⟩ : Addr).add 1) = some (.int .i64 x47_21) ∧
     ∃ (x44_22 : Sl), acell (join ro ψ) σ ((⟨x5_8, 0, none⟩ : Addr).add 3) = some (Sl.v x44_22) ∧
     c_ref01_Copy B (join ro ψ) x44_22 σ fun x45_23 σ =>
     c_ztree_Tree_Set B (join ro ψ) x6_1 x42_20 x45_23 x47_21 σ fun x48_24 x48_25 σ =>
     (Disj ψ σ → (fun σ => 
      j5_law07_made B ro a0 x6_1 x11_4 Q Y3 σ) (join ψ σ))
   else
   j5_law07_made B ro a0 x6_1 x11_4 Q Y3 σ) [.int .i64 x14_7a, .int .i64 x14_7b, .string x14_7c, Sl.v x14_7d, .bool x14_7e] 0 σ
 else
 j2_law07_made B ro x6_1 Q σ

def f_law07_made (B : World) (ro : AH) (a0 : Sl) (σ : AH) (Q : Option Addr → AH → Prop) : Prop :=
 c_ztree_New B ro σ fun x6_1 σ =>
 if x6_1 = none then
  Q none σ
 else
 lfpD (l3_law07_made B ro a0 x6_1 Q ) (0) σ

set_option maxRecDepth 100000 in
set_option maxHeartbeats 4000000 in
theorem law07_made_ok {B : World} {ro : AH} {a0 : Sl} {σ : AH} {Q : Option Addr → AH → Prop} (h : Sep ro σ → f_law07_made B ro a0 σ Q) : c_law07_made B ro a0 σ Q := by
  refine ACalls.of_sep fun hsep => ?_
  replace h := h hsep
  refine ACalls.of_body (args := [Sl.v a0]) Tryz.func14 rfl (by rw [Tryz.ntmps14]; simp) ?_
  rw [Tryz.ntmps14]
  unfold f_law07_made at h
  refine AW.seq ?_
  refine AW.reg ?_
  refine Lp (V_asg rfl rfl) rfl rfl ?_
  refine Lnil ?_
  refine thenN ?_
  refine AW.seq ?_
  refine AW.reg ?_
  refine Ls rfl rfl (X_call rfl Tryz.func30 rfl rfl rfl (ACalls.mono h ?_))
  rintro v σ ⟨x6_1, rfl, h⟩
  refine Lp (V_asg rfl rfl) rfl rfl ?_
  refine Lnil ?_
  refine thenN ?_
  refine AW.seq ?_
  refine AW.seq ?_
  refine AW.reg ?_
  refine Lp (V_move rfl rfl) rfl rfl ?_
  refine Lp (V_eqP rfl Tryz.underlying23 rfl rfl) rfl rfl ?_
  refine Lnil ?_
  refine thenN ?_
  refine AW.iff rfl isNone_iff h (fun h => ?_) (fun h => ?_)
  · refine AW.seq ?_
    refine AW.reg ?_
    refine Lp (V_asg rfl rfl) rfl rfl ?_
    refine Lnil ?_
    refine thenN ?_
    refine AW.ret ?_
    refine thenR ?_
    exact bR1 Tryz.results14 rfl ⟨_, rfl, h⟩
  refine AW.skip ?_
  refine thenN ?_
  refine AW.seqJ (fun fr σ => FrLe [(3, .pointer x6_1)] fr ∧ j2_law07_made B ro x6_1 Q σ) ?_ ?_
  · rintro fr σ ⟨hl, h⟩
    refine AW.weaken ?_ hl (HLe.refl _)
    unfold j2_law07_made at h
    refine AW.seq ?_
    refine AW.reg ?_
    refine Lp (V_move rfl rfl) rfl rfl ?_
    refine Lp (V_asg rfl rfl) rfl rfl ?_
    refine Lnil ?_
    refine thenN ?_
    refine AW.ret ?_
    exact bR1 Tryz.results14 rfl ⟨_, rfl, h⟩
  refine AW.seq ?_
  refine AW.reg ?_
  refine Lp (V_move rfl rfl) rfl rfl ?_
  refine Lp (V_lenL rfl rfl Tryz.underlying22 rfl rfl) rfl rfl ?_
  refine Lp (V_move rfl rfl) rfl rfl ?_
  refine Lnil ?_
  refine thenN ?_
  refine AW.block ?_
  refine ARound.loop (fr' := [(3, .pointer x6_1), (9, Sl.v a0), (10, .int .i64 (a0.len : Int)), (11, .int .i64 0)]) ?_ (FrLe.cons rfl (FrLe.cons rfl (FrLe.cons rfl (FrLe.cons rfl (FrLe.nil _)))))
  refine h (fun x11_4 σ => ARound _ _ _ _ _ _ [(3, .pointer x6_1), (9, Sl.v a0), (10, .int .i64 (a0.len : Int)), (11, .int .i64 x11_4)] σ) ?_
  rintro x11_4 σ Y3 hY3 h
  show AW _ _ _ _ _ _ _ _
  unfold l3_law07_made at h
  refine AW.seq ?_
  refine AW.reg ?_
  refine Lp (V_lss rfl rfl rfl) rfl rfl ?_
  refine Lnil ?_
  refine thenN ?_
  refine AW.seq ?_
  refine AW.iff rfl decide_eq_true_iff h (fun h => ?_) (fun h => ?_)
  rotate_left
  · refine AW.exit ?_
    refine thenE ?_
    refine thenE ?_
    refine blockE ?_
    refine thenN ?_
    exact ⟨(FrLe.cons rfl (FrLe.nil _)), h⟩
  refine AW.skip ?_
  refine thenN ?_
  refine AW.seqJ (fun fr σ => FrLe [(3, .pointer x6_1), (9, Sl.v a0), (10, .int .i64 (a0.len : Int)), (11, .int .i64 x11_4)] fr ∧ j5_law07_made B ro a0 x6_1 x11_4 Q Y3 σ) ?_ ?_
  · rintro fr σ ⟨hl, h⟩
    refine AW.weaken ?_ hl (HLe.refl _)
    unfold j5_law07_made at h
    refine AW.reg ?_
    refine Lp (V_add rfl rfl rfl) rfl rfl ?_
    refine Lp (V_move rfl rfl) rfl rfl ?_
    refine Lnil ?_
    refine thenN ?_
    refine ARound.head (fr' := [(3, .pointer x6_1), (9, Sl.v a0), (10, .int .i64 (a0.len : Int)), (11, .int .i64 (IntKind.i64.wrap (x11_4 + 1)))]) ?_ (FrLe.cons rfl (FrLe.cons rfl (FrLe.cons rfl (FrLe.cons rfl (FrLe.nil _)))))
    exact hY3 _ _ h
  refine AW.block ?_
  refine AW.seq ?_
  refine AW.reg ?_
  obtain ⟨p13_6, ha, h0, h1, h⟩ := h
  refine Lp (V_ixA rfl Tryz.underlying22 ty40 (ixL rfl ha) rfl h0 h1) rfl rfl ?_
  obtain ⟨x14_7a, x14_7b, x14_7c, x14_7d, x14_7e, hc, h⟩ := h
  refine Ls rfl rfl (X_lda rfl Tryz.underlying40 rfl ty40 rfl hc ?_)
  refine Ls rfl rfl (X_new (A_alloc rfl ty40) fun x5_8 g1 g2 => ?_)
  replace h := h x5_8 g1 g2
  refine Ls rfl rfl (X_st rfl ty40 rfl rfl rfl rfl (stN_mono h fun σ h => ?_))
  refine Lnil ?_
  refine thenN ?_
  refine AW.seq ?_
  refine AW.reg ?_
  refine Lp (V_fld rfl Tryz.underlying40 rfl ty3 (by decide) rfl) rfl rfl ?_
  obtain ⟨x16_9, hc, h⟩ := h
  refine Ls rfl rfl (X_ld rfl Tryz.underlying3 rfl rfl hc ?_)
  refine Lnil ?_
  refine thenN ?_
  refine AW.block ?_
  refine AW.seq ?_
  refine AW.reg ?_
  refine Lp (V_eql rfl rfl rfl) rfl rfl ?_
  refine Lp (V_asg rfl rfl) rfl rfl ?_
  refine Lnil ?_
  refine thenN ?_
  refine AW.iff rfl decide_eq_true_iff h (fun h => ?_) (fun h => ?_)
  · refine AW.drawnL (fun i => ([0, 0, 0, 0, 3, 2, 0, 0, 0, 0, 2] : List Nat).getD i 2) [(4, 5), (4, 10)] [0, 1, 2, 3, 6, 7, 8, 9, 4, 5, 10] Tryz.mixed h (by decide +kernel) ?_
    clear h
    intro ψ σ h
    refine Dp rfl rfl rfl rfl (V_move rfl rfl) ?_
    refine Dp rfl rfl rfl rfl (V_fld rfl Tryz.underlying40 rfl ty9 (by decide) rfl) ?_
    obtain ⟨x21_10, hc, h⟩ := h
    refine Dp rfl rfl rfl rfl (V_ld rfl Tryz.underlying9 rfl rfl hc) ?_
    refine Dp rfl rfl rfl rfl (V_fld rfl Tryz.underlying40 rfl ty30 (by decide) rfl) ?_
    refine Dp rfl rfl rfl rfl (V_fld rfl Tryz.underlying40 rfl ty3 (by decide) rfl) ?_
    obtain ⟨x26_11, hc, h⟩ := h
    refine Dp rfl rfl rfl rfl (V_ld rfl Tryz.underlying3 rfl rfl hc) ?_
    refine Dp rfl rfl rfl rfl (V_fld rfl Tryz.underlying40 rfl ty4 (by decide) rfl) ?_
    obtain ⟨x28_12, hc, h⟩ := h
    refine Dp rfl rfl rfl rfl (V_ld rfl Tryz.underlying4 rfl rfl hc) ?_
    obtain ⟨x23_13, hc, h⟩ := h
    refine Dr rfl rfl rfl rfl (R_ld rfl Tryz.underlying30 rfl rfl hc) ?_
    refine Dg rfl rfl rfl rfl (X_call rfl Tryz.func23 rfl rfl rfl (ACalls.mono h ?_))
    rintro v σ ⟨x24_14, rfl, h⟩
    refine Dg rfl rfl rfl rfl (X_call rfl Tryz.func22 rfl rfl rfl (ACalls.mono h ?_))
    rintro v σ ⟨x29_15, x29_16, rfl, h⟩
    refine ⟨_, FrEq.refl _, fun hdj => ?_⟩
    replace h := h hdj
    refine blockN ?_
    refine blockN ?_
    refine thenN ?_
    exact ⟨(FrLe.cons rfl (FrLe.cons rfl (FrLe.cons rfl (FrLe.cons rfl (FrLe.nil _))))), h⟩
  refine AW.seq ?_
  refine AW.reg ?_
  refine Lp (V_eql rfl rfl rfl) rfl rfl ?_
  refine Lp (V_asg rfl rfl) rfl rfl ?_
  refine Lnil ?_
  refine thenN ?_
  refine AW.iff rfl decide_eq_true_iff h (fun h => ?_) (fun h => ?_)
  · refine AW.reg ?_
    refine Lp (V_move rfl rfl) rfl rfl ?_
    refine Lp (V_fld rfl Tryz.underlying40 rfl ty9 (by decide) rfl) rfl rfl ?_
    obtain ⟨x34_17, hc, h⟩ := h
    refine Ls rfl rfl (X_ld rfl Tryz.underlying9 rfl rfl hc ?_)
    refine Lp (V_fld rfl Tryz.underlying40 rfl ty3 (by decide) rfl) rfl rfl ?_
    obtain ⟨x36_18, hc, h⟩ := h
    refine Ls rfl rfl (X_ld rfl Tryz.underlying3 rfl rfl hc ?_)
    refine Ls rfl rfl (X_call rfl Tryz.func24 rfl rfl rfl (ACalls.mono h ?_))
    rintro v σ ⟨x37_19, rfl, h⟩
    refine Lnil ?_
    refine blockN ?_
    refine blockN ?_
    refine thenN ?_
    exact ⟨(FrLe.cons rfl (FrLe.cons rfl (FrLe.cons rfl (FrLe.cons rfl (FrLe.nil _))))), h⟩
  refine AW.seq ?_
  refine AW.reg ?_
  refine Lp (V_eql rfl rfl rfl) rfl rfl ?_
  refine Lp (V_asg rfl rfl) rfl rfl ?_
  refine Lnil ?_
  refine thenN ?_
  refine AW.iff rfl decide_eq_true_iff h (fun h => ?_) (fun h => ?_)
  rotate_left
  · refine AW.skip ?_
    refine blockN ?_
    refine blockN ?_
    refine thenN ?_
    exact ⟨(FrLe.cons rfl (FrLe.cons rfl (FrLe.cons rfl (FrLe.cons rfl (FrLe.nil _))))), h⟩
  refine AW.drawnL (fun i => ([0, 0, 0, 0, 3, 2, 0, 0, 2] : List Nat).getD i 2) [(4, 5), (4, 8)] [0, 1, 2, 3, 6, 7, 4, 5, 8] Tryz.mixed h (by decide +kernel) ?_
  clear h
  intro ψ σ h
  refine Dp rfl rfl rfl rfl (V_move rfl rfl) ?_
  refine Dp rfl rfl rfl rfl (V_fld rfl Tryz.underlying40 rfl ty9 (by decide) rfl) ?_
  obtain ⟨x42_20, hc, h⟩ := h
  refine Dp rfl rfl rfl rfl (V_ld rfl Tryz.underlying9 rfl rfl hc) ?_
  refine Dp rfl rfl rfl rfl (V_fld rfl Tryz.underlying40 rfl ty30 (by decide) rfl) ?_
  refine Dp rfl rfl rfl rfl (V_fld rfl Tryz.underlying40 rfl ty3 (by decide) rfl) ?_
  obtain ⟨x47_21, hc, h⟩ := h
  refine Dp rfl rfl rfl rfl (V_ld rfl Tryz.underlying3 rfl rfl hc) ?_
  obtain ⟨x44_22, hc, h⟩ := h
  refine Dr rfl rfl rfl rfl (R_ld rfl Tryz.underlying30 rfl rfl hc) ?_
  refine Dg rfl rfl rfl rfl (X_call rfl Tryz.func23 rfl rfl rfl (ACalls.mono h ?_))
  rintro v σ ⟨x45_23, rfl, h⟩
  refine Dg rfl rfl rfl rfl (X_call rfl Tryz.func25 rfl rfl rfl (ACalls.mono h ?_))
  rintro v σ ⟨x48_24, x48_25, rfl, h⟩
  refine ⟨_, FrEq.refl _, fun hdj => ?_⟩
  replace h := h hdj
  refine blockN ?_
  refine blockN ?_
  refine thenN ?_
  exact ⟨(FrLe.cons rfl (FrLe.cons rfl (FrLe.cons rfl (FrLe.cons rfl (FrLe.nil _))))), h⟩

def j8_law07_awake (B : World) (ro : AH) (Q : Bool → AH → Prop) (x39_9 : Bool) (σ : AH) : Prop :=
 Q x39_9 σ

def f_law07_awake (B : World) (ro : AH) (σ : AH) (Q : Bool → AH → Prop) : Prop :=
 c_ztree_New B ro σ fun x6_1 σ =>
 if x6_1 = none then
  Q false σ
 else
 nw ro σ (.cells #[.int .u8 120] 5) fun x11_2 σ =>
 awp Tryz.prog ro (convert 30 30 (Sl.v (⟨some ⟨x11_2, 0, none⟩, 1, 1⟩ : Sl))) (fun v σ =>
  (∃ (x12_3 : Sl), v = Sl.v x12_3 ∧
   c_ztree_Tree_Create B ro x6_1 (⟨#[47, 97]⟩ : ByteArray) x12_3 0 false σ fun x13_4 x13_5 σ =>
   c_ztree_Tree_Create B ro x6_1 (⟨#[47, 97, 47, 115]⟩ : ByteArray) (⟨none, 0, 0⟩ : Sl) 0 true σ fun x18_6 x18_7 σ =>
   if (((x13_5 = 0) ∧ (x18_7 = 0)) ∧ (x13_4 = (⟨#[47, 97]⟩ : ByteArray))) ∧ (x18_6 = (⟨#[47, 97, 47, 115, 48, 48, 48, 48, 48, 48, 48, 48, 48, 48]⟩ : ByteArray)) then
    c_ztree_Tree_Size B ro x6_1 σ fun x37_10 σ =>
    j8_law07_awake B ro Q (decide (x37_10 = 3)) σ
   else
   j8_law07_awake B ro Q false σ)) σ

set_option maxRecDepth 100000 in
set_option maxHeartbeats 4000000 in
theorem law07_awake_ok {B : World} {ro : AH} {σ : AH} {Q : Bool → AH → Prop} (h : Sep ro σ → f_law07_awake B ro σ Q) : c_law07_awake B ro σ Q := by
  refine ACalls.of_sep fun hsep => ?_
  replace h := h hsep
  refine ACalls.of_body (args := []) Tryz.func20 rfl (by rw [Tryz.ntmps20]; simp) ?_
  rw [Tryz.ntmps20]
  unfold f_law07_awake at h
  refine AW.seq ?_
  refine AW.reg ?_
  refine Lp (V_asg rfl rfl) rfl rfl ?_
  refine Lnil ?_
  refine thenN ?_
  refine AW.seq ?_
  refine AW.reg ?_
  refine Ls rfl rfl (X_call rfl Tryz.func30 rfl rfl rfl (ACalls.mono h ?_))
  rintro v σ ⟨x6_1, rfl, h⟩
  refine Lp (V_asg rfl rfl) rfl rfl ?_
  refine Lnil ?_
  refine thenN ?_
  refine AW.seq ?_
  refine AW.seq ?_
  refine AW.reg ?_
  refine Lp (V_move rfl rfl) rfl rfl ?_
  refine Lp (V_eqP rfl Tryz.underlying23 rfl rfl) rfl rfl ?_
  refine Lnil ?_
  refine thenN ?_
  refine AW.iff rfl isNone_iff h (fun h => ?_) (fun h => ?_)
  · refine AW.seq ?_
    refine AW.reg ?_
    refine Lp (V_asg rfl rfl) rfl rfl ?_
    refine Lnil ?_
    refine thenN ?_
    refine AW.ret ?_
    refine thenR ?_
    exact bR1 Tryz.results20 rfl ⟨_, rfl, h⟩
  refine AW.skip ?_
  refine thenN ?_
  refine AW.seq ?_
  refine AW.reg ?_
  refine Lp (V_move rfl rfl) rfl rfl ?_
  refine Ls rfl rfl (X_new (A_bsl (vs := [(0, .int .u8 120)]) (cs := #[.int .u8 120]) rfl Tryz.underlying30 ty5 (by decide) rfl rfl) fun x11_2 g1 g2 => ?_)
  replace h := h x11_2 g1 g2
  refine Ls rfl rfl (X_cvt rfl rfl (awp_mono _ h ?_))
  rintro v σ ⟨x12_3, rfl, h⟩
  refine Ls rfl rfl (X_call rfl Tryz.func22 rfl rfl rfl (ACalls.mono h ?_))
  rintro v σ ⟨x13_4, x13_5, rfl, h⟩
  refine Lp (V_move rfl rfl) rfl rfl ?_
  refine Lp (V_ext rfl rfl rfl) rfl rfl ?_
  refine Lp (V_ext rfl rfl rfl) rfl rfl ?_
  refine Lp (V_asg rfl rfl) rfl rfl ?_
  refine Lp (V_asg rfl rfl) rfl rfl ?_
  refine Lnil ?_
  refine thenN ?_
  refine AW.seq ?_
  refine AW.reg ?_
  refine Lp (V_move rfl rfl) rfl rfl ?_
  refine Ls rfl rfl (X_call rfl Tryz.func22 rfl rfl rfl (ACalls.mono h ?_))
  rintro v σ ⟨x18_6, x18_7, rfl, h⟩
  refine Lp (V_move rfl rfl) rfl rfl ?_
  refine Lp (V_ext rfl rfl rfl) rfl rfl ?_
  refine Lp (V_ext rfl rfl rfl) rfl rfl ?_
  refine Lp (V_asg rfl rfl) rfl rfl ?_
  refine Lp (V_asg rfl rfl) rfl rfl ?_
  refine Lnil ?_
  refine thenN ?_
  refine AW.seq ?_
  refine AW.reg ?_
  refine Lp (V_move rfl rfl) rfl rfl ?_
  refine Lp (V_eql rfl rfl rfl) rfl rfl ?_
  refine Lp (V_move rfl rfl) rfl rfl ?_
  refine Lsplit 3 (decide (x13_5 = 0)) [(1, .pointer x6_1), (2, .string x13_4), (4, .string x18_6), (26, .bool ((decide (x13_5 = 0)) && (decide (x18_7 = 0))))] ?_ ?_ ?_
  · intro e2 hk2
    refine Lypb (V_move rfl rfl) rfl rfl rfl rfl e2 ?_
    refine Lypb (V_eql rfl rfl rfl) rfl rfl rfl rfl e2 ?_
    refine Lp (V_pickT rfl (evb e2) rfl) rfl rfl ?_
    exact hk2 _ (FrLe.cons rfl (FrLe.cons rfl (FrLe.cons rfl (FrLe.cons (by rw [e2]; rfl) (FrLe.nil _)))))
  · intro e2 hk2
    refine Ln rfl rfl rfl rfl (.inl (by rw [e2]; rfl)) ?_
    refine Ln rfl rfl rfl rfl (.inl (by rw [e2]; rfl)) ?_
    refine Lp (V_pickF rfl (evb e2) rfl) rfl rfl ?_
    exact hk2 _ (FrLe.cons rfl (FrLe.cons rfl (FrLe.cons rfl (FrLe.cons (by rw [e2]; rfl) (FrLe.nil _)))))
  intro fr hl
  refine Lfr hl ?_
  refine Lp (V_move rfl rfl) rfl rfl ?_
  refine Lsplit 3 ((decide (x13_5 = 0)) && (decide (x18_7 = 0))) [(1, .pointer x6_1), (4, .string x18_6), (30, .bool (((decide (x13_5 = 0)) && (decide (x18_7 = 0))) && (decide (x13_4 = (⟨#[47, 97]⟩ : ByteArray)))))] ?_ ?_ ?_
  · intro e6 hk6
    refine Lypb (V_move rfl rfl) rfl rfl rfl rfl e6 ?_
    refine Lypb (V_eqlS rfl rfl rfl) rfl rfl rfl rfl e6 ?_
    refine Lp (V_pickT rfl (evb e6) rfl) rfl rfl ?_
    exact hk6 _ (FrLe.cons rfl (FrLe.cons rfl (FrLe.cons (by rw [e6]; rfl) (FrLe.nil _))))
  · intro e6 hk6
    refine Ln rfl rfl rfl rfl (.inl (by rw [e6]; rfl)) ?_
    refine Ln rfl rfl rfl rfl (.inl (by rw [e6]; rfl)) ?_
    refine Lp (V_pickF rfl (evb e6) rfl) rfl rfl ?_
    exact hk6 _ (FrLe.cons rfl (FrLe.cons rfl (FrLe.cons (by rw [e6]; rfl) (FrLe.nil _))))
  intro fr hl
  refine Lfr hl ?_
  refine Lp (V_move rfl rfl) rfl rfl ?_
  refine Lsplit 3 (((decide (x13_5 = 0)) && (decide (x18_7 = 0))) && (decide (x13_4 = (⟨#[47, 97]⟩ : ByteArray)))) [(1, .pointer x6_1), (34, .bool ((((decide (x13_5 = 0)) && (decide (x18_7 = 0))) && (decide (x13_4 = (⟨#[47, 97]⟩ : ByteArray)))) && (decide (x18_6 = (⟨#[47, 97, 47, 115, 48, 48, 48, 48, 48, 48, 48, 48, 48, 48]⟩ : ByteArray)))))] ?_ ?_ ?_
  · intro e10 hk10
    refine Lypb (V_move rfl rfl) rfl rfl rfl rfl e10 ?_
    refine Lypb (V_eqlS rfl rfl rfl) rfl rfl rfl rfl e10 ?_
    refine Lp (V_pickT rfl (evb e10) rfl) rfl rfl ?_
    exact hk10 _ (FrLe.cons rfl (FrLe.cons (by rw [e10]; rfl) (FrLe.nil _)))
  · intro e10 hk10
    refine Ln rfl rfl rfl rfl (.inl (by rw [e10]; rfl)) ?_
    refine Ln rfl rfl rfl rfl (.inl (by rw [e10]; rfl)) ?_
    refine Lp (V_pickF rfl (evb e10) rfl) rfl rfl ?_
    exact hk10 _ (FrLe.cons rfl (FrLe.cons (by rw [e10]; rfl) (FrLe.nil _)))
  intro fr hl
  refine Lfr hl ?_
  refine Lp (V_move rfl rfl) rfl rfl ?_
  refine LsplitJ 4 ((((decide (x13_5 = 0)) && (decide (x18_7 = 0))) && (decide (x13_4 = (⟨#[47, 97]⟩ : ByteArray)))) && (decide (x18_6 = (⟨#[47, 97, 47, 115, 48, 48, 48, 48, 48, 48, 48, 48, 48, 48]⟩ : ByteArray)))) (band_iff (band_iff (band_iff decide_eq_true_iff decide_eq_true_iff) decide_eq_true_iff) decide_eq_true_iff) h (fun fr σ => ∃ (x39_9 : Bool), FrLe [(39, .bool x39_9)] fr ∧ j8_law07_awake B ro Q x39_9 σ) ?_ ?_ ?_
  · intro h e14 hk14
    refine Lypb (V_move rfl rfl) rfl rfl rfl rfl e14 ?_
    refine Lyb rfl rfl rfl rfl e14 (X_call rfl Tryz.func16 rfl rfl rfl (ACalls.mono h ?_))
    rintro v σ ⟨x37_10, rfl, h⟩
    refine Lypb (V_eql rfl rfl rfl) rfl rfl rfl rfl e14 ?_
    refine Lp (V_pickT rfl (evb e14) rfl) rfl rfl ?_
    exact hk14 _ _ ⟨_, (FrLe.cons rfl (FrLe.nil _)), h⟩
  · intro h e14 hk14
    refine Ln rfl rfl rfl rfl (.inl (by rw [e14]; rfl)) ?_
    refine Ln rfl rfl rfl rfl (.inl (by rw [e14]; rfl)) ?_
    refine Ln rfl rfl rfl rfl (.inl (by rw [e14]; rfl)) ?_
    refine Lp (V_pickF rfl (evb e14) rfl) rfl rfl ?_
    exact hk14 _ _ ⟨_, (FrLe.cons rfl (FrLe.nil _)), h⟩
  rintro fr σ ⟨x39_9, hl, h⟩
  unfold j8_law07_awake at h
  refine Lfr hl ?_
  refine Lp (V_asg rfl rfl) rfl rfl ?_
  refine Lnil ?_
  refine thenN ?_
  refine AW.ret ?_
  exact bR1 Tryz.results20 rfl ⟨_, rfl, h⟩

end Go.Proofs.YthfpmipeejjogaaGreatDoor.G

/- Functions as predicate transformers, and the proofs that the code does what they tell: printed by wip/tools/gen.py. -/
namespace Go.Proofs.YthfpmipeejjogaaGreatDoor.G
open Go Go.Proofs.YthfpmipeejjogaaGreatDoor.SL
set_option linter.unusedVariables false
set_option linter.unusedSimpArgs false

def f_ref01_Copy (B : World) (ro : AH) (a0 : Sl) (σ : AH) (Q : Sl → AH → Prop) : Prop :=
 nw ro σ (.cells #[Sl.v a0] 30) fun x4_1 σ =>
 c_ref01_Join B ro (⟨some ⟨x4_1, 0, none⟩, 1, 1⟩ : Sl) σ fun x5_2 σ =>
 Q x5_2 σ

set_option maxRecDepth 100000 in
set_option maxHeartbeats 4000000 in
theorem ref01_Copy_ok {B : World} {ro : AH} {a0 : Sl} {σ : AH} {Q : Sl → AH → Prop} (h : Sep ro σ → f_ref01_Copy B ro a0 σ Q) : c_ref01_Copy B ro a0 σ Q := by
  refine ACalls.of_sep fun hsep => ?_
  replace h := h hsep
  refine ACalls.of_body (args := [Sl.v a0]) Tryz.func23 rfl (by rw [Tryz.ntmps23]; simp) ?_
  rw [Tryz.ntmps23]
  unfold f_ref01_Copy at h
  refine AW.seq ?_
  refine AW.reg ?_
  refine Lp (V_asg rfl rfl) rfl rfl ?_
  refine Lnil ?_
  refine thenN ?_
  refine AW.seq ?_
  refine AW.reg ?_
  refine Lp (V_move rfl rfl) rfl rfl ?_
  refine Ls rfl rfl (X_new (A_bsl (vs := [(0, Sl.v a0)]) (cs := #[Sl.v a0]) rfl Tryz.underlying208 ty30 (by decide) rfl rfl) fun x4_1 g1 g2 => ?_)
  replace h := h x4_1 g1 g2
  refine Ls rfl rfl (X_call rfl Tryz.func72 rfl rfl rfl (ACalls.mono h ?_))
  rintro v σ ⟨x5_2, rfl, h⟩
  refine Lp (V_asg rfl rfl) rfl rfl ?_
  refine Lnil ?_
  refine thenN ?_
  refine AW.ret ?_
  exact bR1 Tryz.results23 rfl ⟨_, rfl, h⟩

def f_ref01_Same (B : World) (ro : AH) (a0 : Sl) (a1 : Sl) (σ : AH) (Q : Bool → AH → Prop) : Prop :=
 awp Tryz.prog ro (convert 30 9 (Sl.v a0)) (fun v σ =>
  (∃ (x6_1 : ByteArray), v = .string x6_1 ∧
   awp Tryz.prog ro (convert 30 9 (Sl.v a1)) (fun v σ =>
    (∃ (x8_2 : ByteArray), v = .string x8_2 ∧
     Q (decide (x6_1 = x8_2)) σ)) σ)) σ

set_option maxRecDepth 100000 in
set_option maxHeartbeats 4000000 in
theorem ref01_Same_ok {B : World} {ro : AH} {a0 : Sl} {a1 : Sl} {σ : AH} {Q : Bool → AH → Prop} (h : Sep ro σ → f_ref01_Same B ro a0 a1 σ Q) : c_ref01_Same B ro a0 a1 σ Q := by
  refine ACalls.of_sep fun hsep => ?_
  replace h := h hsep
  refine ACalls.of_body (args := [Sl.v a0, Sl.v a1]) Tryz.func26 rfl (by rw [Tryz.ntmps26]; simp) ?_
  rw [Tryz.ntmps26]
  unfold f_ref01_Same at h
  refine AW.seq ?_
  refine AW.reg ?_
  refine Lp (V_asg rfl rfl) rfl rfl ?_
  refine Lnil ?_
  refine thenN ?_
  refine AW.seq ?_
  refine AW.reg ?_
  refine Lp (V_move rfl rfl) rfl rfl ?_
  refine Ls rfl rfl (X_cvt rfl rfl (awp_mono _ h ?_))
  rintro v σ ⟨x6_1, rfl, h⟩
  refine Lp (V_move rfl rfl) rfl rfl ?_
  refine Ls rfl rfl (X_cvt rfl rfl (awp_mono _ h ?_))
  rintro v σ ⟨x8_2, rfl, h⟩
  refine Lp (V_eqlS rfl rfl rfl) rfl rfl ?_
  refine Lp (V_asg rfl rfl) rfl rfl ?_
  refine Lnil ?_
  refine thenN ?_
  refine AW.ret ?_
  exact bR1 Tryz.results26 rfl ⟨_, rfl, h⟩

def j2_ref01_Join (B : World) (ro : AH) (Q : Sl → AH → Prop) (x3_3 : Sl) (σ : AH) : Prop :=
 Q x3_3 σ

def l4_ref01_Join (B : World) (ro : AH) (a0 : Sl) (Q : Sl → AH → Prop) : (Sl × Int) → AH → ((Sl × Int) → AH → Prop) → Prop := fun ⟨x3_5, x4_6⟩ σ Y4 =>
 if x4_6 < (a0.len : Int) then
  ∃ p15_7 : Addr, a0.a = some p15_7 ∧ (0 : Int) ≤ x4_6 ∧ x4_6 < (a0.len : Int) ∧
  ∃ (x16_8 : Sl), acell ro σ (p15_7.add (Int.toNat x4_6 * 1)) = some (Sl.v x16_8) ∧
  awp Tryz.prog ro (Builtin.append_ #[30, 30] 30 #[Sl.v x3_5, Sl.v x16_8]) (fun v σ => ∃ (x17_9 : Sl), v = Sl.v x17_9 ∧
   Y4 (x17_9, IntKind.i64.wrap (x4_6 + 1)) σ) σ
 else
 j2_ref01_Join B ro Q x3_5 σ

def f_ref01_Join (B : World) (ro : AH) (a0 : Sl) (σ : AH) (Q : Sl → AH → Prop) : Prop :=
 nw ro σ (.cells #[] 5) fun x5_1 σ =>
 lfpD (l4_ref01_Join B ro a0 Q ) ((⟨some ⟨x5_1, 0, none⟩, 0, 0⟩ : Sl), 0) σ

set_option maxRecDepth 100000 in
set_option maxHeartbeats 4000000 in
theorem ref01_Join_ok {B : World} {ro : AH} {a0 : Sl} {σ : AH} {Q : Sl → AH → Prop} (h : Sep ro σ → f_ref01_Join B ro a0 σ Q) : c_ref01_Join B ro a0 σ Q := by
  refine ACalls.of_sep fun hsep => ?_
  replace h := h hsep
  refine ACalls.of_body (args := [Sl.v a0]) Tryz.func72 rfl (by rw [Tryz.ntmps72]; simp) ?_
  rw [Tryz.ntmps72]
  unfold f_ref01_Join at h
  refine AW.seq ?_
  refine AW.reg ?_
  refine Lp (V_asg rfl rfl) rfl rfl ?_
  refine Lnil ?_
  refine thenN ?_
  refine AW.seq ?_
  refine AW.reg ?_
  refine Ls rfl rfl (X_new (A_bsl (vs := []) (cs := #[]) rfl Tryz.underlying30 ty5 (by decide) rfl rfl) fun x5_1 g1 g2 => ?_)
  replace h := h x5_1 g1 g2
  refine Lp (V_asg rfl rfl) rfl rfl ?_
  refine Lnil ?_
  refine thenN ?_
  refine AW.seqJ (fun fr σ => ∃ (x3_3 : Sl), FrLe [(3, Sl.v x3_3)] fr ∧ j2_ref01_Join B ro Q x3_3 σ) ?_ ?_
  · rintro fr σ ⟨x3_3, hl, h⟩
    refine AW.weaken ?_ hl (HLe.refl _)
    unfold j2_ref01_Join at h
    refine AW.seq ?_
    refine AW.reg ?_
    refine Lp (V_move rfl rfl) rfl rfl ?_
    refine Lp (V_asg rfl rfl) rfl rfl ?_
    refine Lnil ?_
    refine thenN ?_
    refine AW.ret ?_
    exact bR1 Tryz.results72 rfl ⟨_, rfl, h⟩
  refine AW.seq ?_
  refine AW.reg ?_
  refine Lp (V_asg rfl rfl) rfl rfl ?_
  refine Lnil ?_
  refine thenN ?_
  refine AW.block ?_
  refine ARound.loop (fr' := [(0, Sl.v a0), (3, Sl.v (⟨some ⟨x5_1, 0, none⟩, 0, 0⟩ : Sl)), (4, .int .i64 0)]) ?_ (FrLe.cons rfl (FrLe.cons rfl (FrLe.cons rfl (FrLe.nil _))))
  refine h (fun ⟨x3_5, x4_6⟩ σ => ARound _ _ _ _ _ _ [(0, Sl.v a0), (3, Sl.v x3_5), (4, .int .i64 x4_6)] σ) ?_
  rintro ⟨x3_5, x4_6⟩ σ Y4 hY4 h
  show AW _ _ _ _ _ _ _ _
  unfold l4_ref01_Join at h
  dsimp only at h
  refine AW.seq ?_
  refine AW.seq ?_
  refine AW.reg ?_
  refine Lp (V_move rfl rfl) rfl rfl ?_
  refine Lp (V_move rfl rfl) rfl rfl ?_
  refine Lp (V_lenL rfl rfl Tryz.underlying208 rfl rfl) rfl rfl ?_
  refine Lp (V_lss rfl rfl rfl) rfl rfl ?_
  refine Lnil ?_
  refine thenN ?_
  refine AW.iff rfl decide_eq_true_iff h (fun h => ?_) (fun h => ?_)
  rotate_left
  · refine AW.exit ?_
    refine thenE ?_
    refine thenE ?_
    refine blockE ?_
    refine thenN ?_
    exact ⟨_, (FrLe.cons rfl (FrLe.nil _)), h⟩
  refine AW.skip ?_
  refine thenN ?_
  refine AW.seq ?_
  refine AW.block ?_
  refine AW.reg ?_
  refine Lp (V_move rfl rfl) rfl rfl ?_
  refine Lp (V_move rfl rfl) rfl rfl ?_
  refine Lp (V_move rfl rfl) rfl rfl ?_
  obtain ⟨p15_7, ha, h0, h1, h⟩ := h
  refine Lp (V_ixA rfl Tryz.underlying208 ty30 (ixL rfl ha) rfl h0 h1) rfl rfl ?_
  obtain ⟨x16_8, hc, h⟩ := h
  refine Ls rfl rfl (X_ld rfl Tryz.underlying30 rfl rfl hc ?_)
  refine Ls rfl rfl (X_bi (s := Builtin.append_ #[30, 30] 30 #[Sl.v x3_5, Sl.v x16_8]) rfl rfl (fun _ => rfl) (awp_mono _ h ?_))
  rintro v σ ⟨x17_9, rfl, h⟩
  refine Lp (V_asg rfl rfl) rfl rfl ?_
  refine Lnil ?_
  refine blockN ?_
  refine thenN ?_
  refine AW.reg ?_
  refine Lp (V_move rfl rfl) rfl rfl ?_
  refine Lp (V_add rfl rfl rfl) rfl rfl ?_
  refine Lp (V_asg rfl rfl) rfl rfl ?_
  refine Lnil ?_
  refine thenN ?_
  refine ARound.head (fr' := [(0, Sl.v a0), (3, Sl.v x17_9), (4, .int .i64 (IntKind.i64.wrap (x4_6 + 1)))]) ?_ (FrLe.cons rfl (FrLe.cons rfl (FrLe.cons rfl (FrLe.nil _))))
  exact hY4 _ _ h

end Go.Proofs.YthfpmipeejjogaaGreatDoor.G

/- The laws of the tree, the walk: a tree behind a script. -/
namespace Go.Proofs.YthfpmipeejjogaaGreatDoor.Zt
open Go Go.Proofs.YthfpmipeejjogaaGreatDoor.SL Go.Proofs.YthfpmipeejjogaaGreatDoor.G Go.Proofs.YthfpmipeejjogaaGreatDoor.Pa
set_option linter.unusedSimpArgs false
set_option linter.unusedVariables false
variable {B : World} {ro σ σ' : AH} {tag tag' : Nat → Nat}

theorem glob_lent {ψ : AH} (g : Glob ro) : Glob (join ro ψ) := by
  obtain ⟨m, o, h1, h2⟩ := g.maxlen
  exact ⟨⟨m, o, join_left h1, h2⟩, fun w hw => g.tab w fun b o hb => hw b o (join_left hb)⟩
theorem TreeIs.del {r T b : Nat} {st : St} (h : TreeIs tag σ r T st) (hr : r < 64) (hr0 : r ≠ 0) (hb : tag b = 0) : TreeIs tag (SL.del σ b) r T st := by
  obtain ⟨M, bs, h⟩ := h
  refine ⟨M, bs, h.keys, h.len, h.nd, h.cell.del hb hr0, h.map.del (by rw [hb]; omega), fun i c p hc hp => ?_⟩
  obtain ⟨s, h1, h2⟩ := h.nodes i c p hc hp
  exact ⟨s, h1.del hb (by omega), h2.del hb (by omega)⟩
theorem TreeIs.back {r T b r' : Nat} {st : St} {τ : AH} (h : TreeIs tag' τ r T st) (hd : Disj (SL.one σ b) τ) (hb : ∃ o, σ b = some o) : TreeIs (setTag tag' b r') (join (SL.one σ b) τ) r T st := by
  obtain ⟨M, bs, h⟩ := h
  refine ⟨M, bs, h.keys, h.len, h.nd, h.cell.back hd hb, h.map.back hd hb, fun i c p hc hp => ?_⟩
  obtain ⟨s, h1, h2⟩ := h.nodes i c p hc hp
  exact ⟨s, h1.back hd hb, h2.back hd hb⟩

set_option maxRecDepth 100000 in
theorem copy_ok {s : Sl} {l : List Value} {Q : Sl → AH → Prop} (h : SL.Read ro σ s l) (hs : SL.Sep ro σ) (hl : l.length ≤ 140737488355328) (hv : ∀ v ∈ l, storable v = true) (hQ : ∀ s' tag' σ', (∀ R, Step R ro tag σ tag' σ') → Row tag' σ' 6 5 s' l → Q s' σ') : c_ref01_Copy B ro s σ Q := by
  refine ref01_Copy_ok fun _ => ?_
  unfold f_ref01_Copy
  refine nw_cells (tag := tag) 0 hs fun b tag1 σ1 st1 r1 => ?_
  refine ref01_Join_ok fun _ => ?_
  unfold f_ref01_Join
  refine nw_cells (tag := tag1) 6 (st1 []).sep fun c tag2 σ2 st2 r2 => ?_
  have r1' := r1.keep (st2 []) (by simp)
  have h2 : SL.Read ro σ2 s l := (h.step (st1 [])).step (st2 [])
  refine lfpD.intro ?_
  unfold l4_ref01_Join
  simp only
  rw [if_pos (by decide)]
  obtain ⟨p, hp, hg⟩ := r1'.ptr (st2 []).sep (by simp)
  cases hp
  refine ⟨_, rfl, by decide, by decide, s, hg 0 _ rfl, ?_⟩
  refine awp_appendN r2 (st2 []).sep h2 u30 ty5 rfl hv (by simp; omega) (by decide) fun s' tag3 σ3 st3 r3 => ?_
  refine ⟨s', rfl, ?_⟩
  rw [show IntKind.i64.wrap (0 + 1) = 1 from by decide]
  refine lfpD.intro ?_
  show (if (1 : Int) < ((1 : Nat) : Int) then _ else _)
  rw [if_neg (by decide)]
  unfold j2_ref01_Join
  exact hQ s' tag3 σ3 (fun R => (st1 R).trans ((st2 R).trans (st3 R (.inl rfl)))) r3

structure OpV where
  kind : Int
  n : Int
  path : Str
  data : Str
  seq : Bool
def apply1 (st : St) (o : OpV) : St :=
  if o.kind = 1 then (create st o.path o.data o.n o.seq).1 else if o.kind = 2 then (remove st o.path o.n).1 else if o.kind = 3 then (setD st o.path o.data o.n).1 else st
theorem apply1_inv {st : St} (o : OpV) (h : Inv st) (hl : st.length ≤ 4398046511104) : Inv (apply1 st o) ∧ (apply1 st o).length ≤ st.length + 1 := by
  unfold apply1
  split
  · exact ⟨inv_create h hl, create_len _ _ _ _ _⟩
  · split
    · exact ⟨inv_remove h hl, Nat.le_trans (remove_len _ _ _) (Nat.le_succ _)⟩
    · split
      · exact ⟨inv_set h, by rw [setD_len]; exact Nat.le_succ _⟩
      · exact ⟨h, Nat.le_succ _⟩
def Ops (ro : AH) (s : Sl) (os : List OpV) : Prop := s.len = os.length ∧ ∀ j o, os[j]? = some o → ∃ q ds, s.a = some q ∧ (∀ σ, cellsAt ro σ (q.add (j * 5)) 0 [vI o.kind, vI o.n, .string (S o.path), Sl.v ds, .bool o.seq]) ∧ SL.Read ro (fun _ => none) ds (o.data.map vU)

set_option maxRecDepth 100000 in
theorem made_ok {σ0 : AH} {tag0 : Nat → Nat} {a0 : Sl} {os : List OpV} {Q : Option Addr → AH → Prop} (r : Nat) (g : Glob ro) (hr : r < 64) (hr6 : r ≠ 6) (hr0 : r ≠ 0) (hO : Ops ro a0 os) (hl : os.length ≤ 2199023255552) (hd : ∀ o ∈ os, o.data.length ≤ 140737488355328)
    (hQ : ∀ T tag' σ', StepC r ro tag0 σ0 tag' σ' → TreeIs tag' σ' r T (os.foldl apply1 St.new) → Inv (os.foldl apply1 St.new) → (os.foldl apply1 St.new).length ≤ 2199023255553 → Q (some ⟨T, 0, none⟩) σ') : c_law07_made B ro a0 σ0 Q := by
  refine law07_made_ok fun hs => ?_
  unfold f_law07_made
  refine new_ok (tag := tag0) r hr hr6 fun T tag1 σ1 st1 h1 => ?_
  rw [if_neg (by simp)]
  have hln := hO.1
  suffices ∀ m j tag σ, j + m = os.length → StepC r ro tag0 σ0 tag σ → TreeIs tag σ r T ((os.take j).foldl apply1 St.new) → Inv ((os.take j).foldl apply1 St.new) → ((os.take j).foldl apply1 St.new).length ≤ j + 1 → lfpD (l3_law07_made B ro a0 (some ⟨T, 0, none⟩) Q) (j : Int) σ from
    this _ 0 tag1 σ1 (Nat.zero_add _) st1 h1 inv_new (by simp [St.new])
  intro m
  induction m with
  | zero =>
    intro j tag σ hj hs h hi hlen
    refine lfpD.intro ?_
    unfold l3_law07_made
    rw [if_neg (by omega)]
    unfold j2_law07_made
    rw [List.take_of_length_le (by omega)] at h hi hlen
    exact hQ T tag σ hs h hi (by omega)
  | succ m ih =>
    intro j tag σ hj hst0 h hi hlen
    have hs := hst0.sep
    have hjl : j < os.length := by omega
    obtain ⟨q, ds, hq, hc, hrd⟩ := hO.2 j os[j] (List.getElem?_eq_getElem hjl)
    have hdj := hd _ (List.getElem_mem hjl)
    generalize hst : (os.take j).foldl apply1 St.new = st at h hi hlen
    have hnext : (os.take (j + 1)).foldl apply1 St.new = apply1 st os[j] := by
      rw [List.take_succ_eq_append_getElem hjl, List.foldl_append, hst]; rfl
    generalize os[j] = o at hc hrd hdj hnext
    obtain ⟨hi2, hl2⟩ := apply1_inv o hi (by omega)
    have next : ∀ tag' σ', StepC r ro tag0 σ0 tag' σ' → TreeIs tag' σ' r T (apply1 st o) → j5_law07_made B ro a0 (some ⟨T, 0, none⟩) (j : Int) Q (lfpD (l3_law07_made B ro a0 (some ⟨T, 0, none⟩) Q)) σ' := fun tag' σ' hs' h' => by
      unfold j5_law07_made
      rw [Pa.inc j (by omega)]
      exact ih (j + 1) tag' σ' (by omega) hs' (by rw [hnext]; exact h') (by rw [hnext]; exact hi2) (by rw [hnext]; omega)
    refine lfpD.intro ?_
    unfold l3_law07_made
    rw [if_pos (by omega)]
    refine ⟨q, hq, by omega, by omega, o.kind, o.n, S o.path, ds, o.seq, hc σ, ?_⟩
    refine nw_st (tag := tag) 0 hs rfl (by simp [storable, Sl.v]) fun x tag2 σ2 st2 r2 => ?_
    have hs2 := (st2 []).sep
    have h2 := h.keep (st2 []) (by simp)
    obtain ⟨px, hpx, hg⟩ := r2.ptr hs2 (by simp)
    cases hpx
    have f0 := hg 0 _ rfl
    have f1 := hg 1 _ rfl
    have f2 := hg 2 _ rfl
    obtain ⟨ht0, hto⟩ := r2.tagOf
    refine ⟨o.kind, f0, ?_⟩
    by_cases k1 : o.kind = 1
    · rw [if_pos k1]
      refine lent_block x ?_
      have hs3 : SL.Sep (join ro (SL.one σ2 x)) (SL.del σ2 x) := hs2.lent
      refine ⟨S o.path, r2.lend hs2 (i := 2) rfl, o.n, r2.lend hs2 (i := 1) rfl, o.seq, r2.lend hs2 (i := 4) rfl, ds, r2.lend hs2 (i := 3) rfl, ?_⟩
      refine copy_ok (tag := tag2) (hrd.keep.lent x) hs3 (by simp; omega) (by simp [storable]) fun s' tag3 σ3 st3 r3 => ?_
      have h3 := (h2.del hr hr0 ht0 (b := x)).keep (st3 []) (by simp)
      refine create_ok (glob_lent g) hr hr6 hr0 h3 (r3.read (st3 []).sep) (by omega) fun tag4 σ4 st4 h4 => ?_
      intro hdis
      rw [L_S] at h4
      obtain ⟨R, hR, st4⟩ := st4
      have stB := ((st3 R).trans st4).back hs2 hdis hto
      refine next (setTag tag4 x (tag2 x)) _ (hst0.trans (((st2 []).c (by simp)).trans ⟨R, hR, stB⟩)) ?_
      have : apply1 st o = (create st o.path o.data o.n o.seq).1 := by unfold apply1; rw [if_pos k1]
      rw [this]
      exact h4.back (r' := tag2 x) hdis hto
    · rw [if_neg k1]
      by_cases k2 : o.kind = 2
      · rw [if_pos k2]
        refine ⟨S o.path, f2, o.n, f1, ?_⟩
        refine delete_ok g hr hr6 hr0 h2 (fun u n hu hn => ?_) fun tag4 σ4 st4 h4 => ?_
        · rw [L_S] at hu hn
          have hne : o.path ≠ [47] := fun e => by rw [e, root_parent] at hu; cases hu
          obtain ⟨u', m', e1, e2, _⟩ := hi.up _ n hn hne
          rw [hu] at e1; cases e1
          exact ⟨m', e2⟩
        · rw [L_S] at h4
          refine next tag4 _ (hst0.trans (((st2 []).c (by simp)).trans st4)) ?_
          have : apply1 st o = (remove st o.path o.n).1 := by unfold apply1; rw [if_neg k1, if_pos k2]
          rw [this]; exact h4
      · rw [if_neg k2]
        by_cases k3 : o.kind = 3
        · rw [if_pos k3]
          refine lent_block x ?_
          have hs3 : SL.Sep (join ro (SL.one σ2 x)) (SL.del σ2 x) := hs2.lent
          refine ⟨S o.path, r2.lend hs2 (i := 2) rfl, o.n, r2.lend hs2 (i := 1) rfl, ds, r2.lend hs2 (i := 3) rfl, ?_⟩
          refine copy_ok (tag := tag2) (hrd.keep.lent x) hs3 (by simp; omega) (by simp [storable]) fun s' tag3 σ3 st3 r3 => ?_
          have h3 := (h2.del hr hr0 ht0 (b := x)).keep (st3 []) (by simp)
          refine set_ok (glob_lent g) hr hr6 hr0 h3 (r3.read (st3 []).sep) (by omega) fun tag4 σ4 st4 h4 => ?_
          intro hdis
          rw [L_S] at h4
          obtain ⟨R, hR, st4⟩ := st4
          have stB := ((st3 R).trans st4).back hs2 hdis hto
          refine next (setTag tag4 x (tag2 x)) _ (hst0.trans (((st2 []).c (by simp)).trans ⟨R, hR, stB⟩)) ?_
          have : apply1 st o = (setD st o.path o.data o.n).1 := by unfold apply1; rw [if_neg k1, if_neg k2, if_pos k3]
          rw [this]
          exact h4.back (r' := tag2 x) hdis hto
        · rw [if_neg k3]
          refine next tag2 _ (hst0.trans ((st2 []).c (by simp))) ?_
          have : apply1 st o = st := by unfold apply1; rw [if_neg k1, if_neg k2, if_neg k3]
          rw [this]; exact h2
end Go.Proofs.YthfpmipeejjogaaGreatDoor.Zt

/- What a call does to a tree, in one of two ways; what holds of all trees behind scripts. -/
namespace Go.Proofs.YthfpmipeejjogaaGreatDoor.Zt
open Go Go.Proofs.YthfpmipeejjogaaGreatDoor.SL Go.Proofs.YthfpmipeejjogaaGreatDoor.Pa Go.Proofs.YthfpmipeejjogaaGreatDoor.Wi
set_option linter.unusedSimpArgs false
set_option linter.unusedVariables false

theorem create_spec (st : St) (p d : Str) (o : Int) (seq : Bool) : (∃ e, e ≠ 0 ∧ create st p d o seq = (st, [], e)) ∨
    ∃ q u n, create st p d o seq = (modN (st ++ [(q, ⟨0, 0, o, 0, d⟩)]) u bump, q, 0) ∧ st.lookup u = some n ∧ n.own = 0 ∧ ¬ 9999999999 < n.ctr ∧ st.lookup q = none ∧ parent q = some u ∧ d.length ≤ 256 ∧ 0 ≤ o ∧ o ≤ 4611686018427387903 := by
  unfold create
  cases hp : parent p with
  | none => exact .inl ⟨20, by decide, rfl⟩
  | some u =>
    simp only
    by_cases h1 : 256 < d.length
    · rw [if_pos h1]; exact .inl ⟨75, by decide, rfl⟩
    rw [if_neg h1]
    by_cases h2 : o < 0 ∨ 4611686018427387903 < o
    · rw [if_pos h2]; exact .inl ⟨10, by decide, rfl⟩
    rw [if_neg h2]
    cases hn : st.lookup u with
    | none => exact .inl ⟨70, by decide, rfl⟩
    | some n =>
      simp only
      by_cases h3 : n.own ≠ 0
      · rw [if_pos h3]; exact .inl ⟨74, by decide, rfl⟩
      rw [if_neg h3]
      by_cases h4 : 9999999999 < n.ctr
      · rw [if_pos h4]; exact .inl ⟨76, by decide, rfl⟩
      rw [if_neg h4]
      have fin : ∀ q, parent q = some u → (∃ e, e ≠ 0 ∧ (if (st.lookup q).isSome = true then (st, ([] : Str), (71 : Int)) else (modN (st ++ [(q, ⟨0, 0, o, 0, d⟩)]) u bump, q, 0)) = (st, [], e)) ∨
          ∃ q' u' n', (if (st.lookup q).isSome = true then (st, ([] : Str), (71 : Int)) else (modN (st ++ [(q, ⟨0, 0, o, 0, d⟩)]) u bump, q, 0)) = (modN (st ++ [(q', ⟨0, 0, o, 0, d⟩)]) u' bump, q', 0) ∧ st.lookup u' = some n' ∧ n'.own = 0 ∧ ¬ 9999999999 < n'.ctr ∧ st.lookup q' = none ∧ parent q' = some u' ∧ d.length ≤ 256 ∧ 0 ≤ o ∧ o ≤ 4611686018427387903 := fun q hq => by
        by_cases h5 : (st.lookup q).isSome = true
        · rw [if_pos h5]; exact .inl ⟨71, by decide, rfl⟩
        · rw [if_neg h5]
          exact .inr ⟨q, u, n, rfl, hn, by simpa using h3, h4, (by
            cases e : st.lookup q with
            | none => rfl
            | some y => rw [e] at h5; exact absurd rfl h5), hq, by omega, by omega, by omega⟩
      by_cases hs : seq = true
      · rw [if_pos hs]
        cases hsf : suffix p n.ctr with
        | none => exact .inl ⟨20, by decide, rfl⟩
        | some q =>
          obtain ⟨ps, _, hpq⟩ := suffix_parent hsf
          exact fin q (by rw [hpq, hp])
      · rw [if_neg hs]
        exact fin p hp
theorem remove_spec (st : St) (p : Str) (v : Int) : (∃ e, e ≠ 0 ∧ remove st p v = (st, e)) ∨
    ∃ n u, remove st p v = (delK (modN st u less) p, 0) ∧ st.lookup p = some n ∧ p ≠ [47] ∧ parent p = some u ∧ ¬ 0 < n.kids := by
  unfold remove
  by_cases h0 : p = [47] ∨ parts p = none
  · rw [if_pos h0]; exact .inl ⟨20, by decide, rfl⟩
  rw [if_neg h0]
  cases hn : st.lookup p with
  | none => exact .inl ⟨70, by decide, rfl⟩
  | some n =>
    simp only
    by_cases h1 : v ≠ -1 ∧ v ≠ n.ver
    · rw [if_pos h1]; exact .inl ⟨72, by decide, rfl⟩
    rw [if_neg h1]
    by_cases h2 : 0 < n.kids
    · rw [if_pos h2]; exact .inl ⟨73, by decide, rfl⟩
    rw [if_neg h2]
    simp only [not_or] at h0
    obtain ⟨ps, hps⟩ : ∃ ps, parts p = some ps := by
      cases e : parts p with
      | none => exact absurd e h0.2
      | some ps => exact ⟨ps, rfl⟩
    obtain ⟨u, hu⟩ := parent_some hps h0.1
    rw [hu]
    exact .inr ⟨n, u, rfl, rfl, h0.1, rfl, h2⟩
theorem setD_spec (st : St) (p d : Str) (v : Int) : (∃ e, e ≠ 0 ∧ setD st p d v = (st, 0, e)) ∨
    ∃ n, setD st p d v = (modN st p (setNd d), IntKind.i64.wrap (n.ver + 1), 0) ∧ st.lookup p = some n ∧ p ≠ [47] ∧ d.length ≤ 256 := by
  unfold setD
  by_cases h0 : p = [47] ∨ parts p = none
  · rw [if_pos h0]; exact .inl ⟨20, by decide, rfl⟩
  rw [if_neg h0]
  by_cases h1 : 256 < d.length
  · rw [if_pos h1]; exact .inl ⟨75, by decide, rfl⟩
  rw [if_neg h1]
  cases hn : st.lookup p with
  | none => exact .inl ⟨70, by decide, rfl⟩
  | some n =>
    simp only
    by_cases h2 : v ≠ -1 ∧ v ≠ n.ver
    · rw [if_pos h2]; exact .inl ⟨72, by decide, rfl⟩
    rw [if_neg h2]
    simp only [not_or] at h0
    exact .inr ⟨n, rfl, rfl, h0.1, by omega⟩

/-- what holds of a tree behind at most b calls -/
structure InvB (b : Nat) (st : St) : Prop where
  inv : Inv st
  ver : ∀ k n, st.lookup k = some n → 0 ≤ n.ver ∧ n.ver ≤ b
  own : ∀ k n, st.lookup k = some n → 0 ≤ n.own ∧ n.own ≤ 4611686018427387903 ∧ (n.own ≠ 0 → n.ctr = 0)
  rt : ∀ n, st.lookup [47] = some n → n.data = [] ∧ n.ver = 0 ∧ n.own = 0
  len : st.length ≤ b + 1
theorem InvB.mono {b c : Nat} {st : St} (h : InvB b st) (hc : b ≤ c) : InvB c st :=
  ⟨h.inv, fun k n hk => by have := h.ver k n hk; omega, h.own, h.rt, by have := h.len; omega⟩
theorem Inv.ctr0 {st : St} (h : Inv st) {k : Str} {n : Nd} (hk : st.lookup k = some n) : 0 ≤ n.ctr := by
  have h1 := h.kids k n hk
  have h2 := (h.ctr k n hk).1
  omega
theorem InvB.inv3 {b : Nat} {st : St} (h : InvB b st) (hb : b ≤ 4611686018427387903) : Inv3 st := by
  refine ⟨h.inv, fun k n hk => ⟨?_, (h.own k n hk).2.2⟩, h.rt⟩
  have h1 := h.ver k n hk
  have h2 := h.own k n hk
  have h3 := h.inv.ctr k n hk
  have h4 := h.inv.ctr0 hk
  unfold numsOk rightN
  simp only [Bool.and_eq_true, decide_eq_true_eq]
  omega
theorem invB_new : InvB 0 St.new := by
  have hl : ∀ k n, St.new.lookup k = some n → n = ⟨0, 0, 0, 0, []⟩ := fun k n h => by
    unfold St.new at h
    rw [List.lookup_cons] at h
    split at h
    · exact (Option.some.inj h).symm
    · cases h
  refine ⟨inv_new, fun k n h => ?_, fun k n h => ?_, fun n h => ?_, by decide⟩
  · rw [hl k n h]; decide
  · rw [hl k n h]; decide
  · rw [hl _ n h]; exact ⟨rfl, rfl, rfl⟩
theorem invB_create {b : Nat} {st : St} {p d : Str} {o : Int} {seq : Bool} (h : InvB b st) (hb : b ≤ 4398046511103) : InvB (b + 1) (create st p d o seq).1 := by
  have hi := inv_create (p := p) (d := d) (o := o) (seq := seq) h.inv (by have := h.len; omega)
  have hlen := create_len st p d o seq
  rcases create_spec st p d o seq with ⟨e, _, he⟩ | ⟨q, u, n, he, hu, hown, hctr, hq, hpq, hd, ho1, ho2⟩
  · rw [he]; exact h.mono (by omega)
  · rw [he] at hi hlen ⊢
    simp only at hi hlen ⊢
    have hl : ∀ k m, (modN (st ++ [(q, ⟨0, 0, o, 0, d⟩)]) u bump).lookup k = some m → (∃ m', (st.lookup k = some m' ∨ (k = q ∧ m' = ⟨0, 0, o, 0, d⟩)) ∧ (m = m' ∨ (k = u ∧ m = bump m'))) := fun k m hk => by
      rw [lookup_mod, lookup_app] at hk
      have base : ∀ x, (match st.lookup k with | some m => some m | none => if k = q then some (⟨0, 0, o, 0, d⟩ : Nd) else none) = some x → st.lookup k = some x ∨ (k = q ∧ x = ⟨0, 0, o, 0, d⟩) := fun x hx => by
        cases e : st.lookup k with
        | some y => rw [e] at hx; exact .inl hx
        | none =>
          rw [e] at hx
          simp only at hx
          split at hx
          · rename_i hkq; exact .inr ⟨hkq, (Option.some.inj hx).symm⟩
          · cases hx
      split at hk
      · rename_i hku
        obtain ⟨m', h1, h2⟩ := Option.map_eq_some_iff.1 hk
        exact ⟨m', base m' h1, .inr ⟨hku, h2.symm⟩⟩
      · exact ⟨m, base m hk, .inl rfl⟩
    refine ⟨hi, fun k m hk => ?_, fun k m hk => ?_, fun m hk => ?_, by have := h.len; omega⟩
    · obtain ⟨m', h1, h2⟩ := hl k m hk
      have h3 : 0 ≤ m'.ver ∧ m'.ver ≤ (b + 1 : Nat) := by
        rcases h1 with h1 | ⟨_, rfl⟩
        · have := h.ver k m' h1; omega
        · simp only; omega
      rcases h2 with rfl | ⟨_, rfl⟩
      · exact h3
      · exact h3
    · obtain ⟨m', h1, h2⟩ := hl k m hk
      rcases h2 with rfl | ⟨hku, rfl⟩
      · rcases h1 with h1 | ⟨_, rfl⟩
        · exact h.own k m h1
        · exact ⟨ho1, ho2, fun _ => rfl⟩
      · rcases h1 with h1 | ⟨hkq, _⟩
        · rw [hku, hu] at h1
          obtain rfl := Option.some.inj h1
          exact ⟨by show 0 ≤ n.own; omega, by show n.own ≤ _; omega, fun hn => absurd hown hn⟩
        · rw [hkq] at hku
          rw [hku] at hq
          rw [hq] at hu; cases hu
    · obtain ⟨m', h1, h2⟩ := hl _ m hk
      have h3 : m'.data = [] ∧ m'.ver = 0 ∧ m'.own = 0 := by
        rcases h1 with h1 | ⟨hkq, _⟩
        · exact h.rt m' h1
        · rw [← hkq, root_parent] at hpq; cases hpq
      rcases h2 with rfl | ⟨_, rfl⟩
      · exact h3
      · exact h3
theorem invB_remove {b : Nat} {st : St} {p : Str} {v : Int} (h : InvB b st) (hb : b ≤ 4398046511103) : InvB (b + 1) (remove st p v).1 := by
  have hi := inv_remove (p := p) (v := v) h.inv (by have := h.len; omega)
  have hlen := remove_len st p v
  rcases remove_spec st p v with ⟨e, _, he⟩ | ⟨n, u, he, hn, hne, hu, hk⟩
  · rw [he]; exact h.mono (by omega)
  · rw [he] at hi hlen ⊢
    simp only at hi hlen ⊢
    have hnd : ((modN st u less).map (·.1)).Nodup := by rw [keys_mod]; exact h.inv.keys
    have hl : ∀ k m, (delK (modN st u less) p).lookup k = some m → ∃ m', st.lookup k = some m' ∧ (m = m' ∨ m = less m') := fun k m hk => by
      rw [lookup_del hnd] at hk
      split at hk
      · cases hk
      · rw [lookup_mod] at hk
        split at hk
        · obtain ⟨m', h1, h2⟩ := Option.map_eq_some_iff.1 hk
          exact ⟨m', h1, .inr h2.symm⟩
        · exact ⟨m, hk, .inl rfl⟩
    refine ⟨hi, fun k m hk => ?_, fun k m hk => ?_, fun m hk => ?_, by have := h.len; omega⟩
    · obtain ⟨m', h1, h2⟩ := hl k m hk
      have := h.ver k m' h1
      rcases h2 with rfl | rfl
      · omega
      · show 0 ≤ m'.ver ∧ m'.ver ≤ _; omega
    · obtain ⟨m', h1, h2⟩ := hl k m hk
      have := h.own k m' h1
      rcases h2 with rfl | rfl
      · exact this
      · exact this
    · obtain ⟨m', h1, h2⟩ := hl _ m hk
      have := h.rt m' h1
      rcases h2 with rfl | rfl
      · exact this
      · exact this
theorem invB_set {b : Nat} {st : St} {p d : Str} {v : Int} (h : InvB b st) (hb : b ≤ 4398046511103) : InvB (b + 1) (setD st p d v).1 := by
  have hi := inv_set (p := p) (d := d) (v := v) h.inv
  have hlen := setD_len st p d v
  rcases setD_spec st p d v with ⟨e, _, he⟩ | ⟨n, he, hn, hne, hd⟩
  · rw [he]; exact h.mono (by omega)
  · rw [he] at hi hlen ⊢
    simp only at hi hlen ⊢
    have hl : ∀ k m, (modN st p (setNd d)).lookup k = some m → ∃ m', st.lookup k = some m' ∧ (m = m' ∨ (k = p ∧ m = setNd d m')) := fun k m hk => by
      rw [lookup_mod] at hk
      split at hk
      · rename_i hkp
        obtain ⟨m', h1, h2⟩ := Option.map_eq_some_iff.1 hk
        exact ⟨m', h1, .inr ⟨hkp, h2.symm⟩⟩
      · exact ⟨m, hk, .inl rfl⟩
    refine ⟨hi, fun k m hk => ?_, fun k m hk => ?_, fun m hk => ?_, by have := h.len; omega⟩
    · obtain ⟨m', h1, h2⟩ := hl k m hk
      have := h.ver k m' h1
      rcases h2 with rfl | ⟨_, rfl⟩
      · omega
      · show 0 ≤ IntKind.i64.wrap (m'.ver + 1) ∧ IntKind.i64.wrap (m'.ver + 1) ≤ _
        rw [w64_eq (by omega) (by omega)]; omega
    · obtain ⟨m', h1, h2⟩ := hl k m hk
      have := h.own k m' h1
      rcases h2 with rfl | ⟨_, rfl⟩
      · exact this
      · exact this
    · obtain ⟨m', h1, h2⟩ := hl _ m hk
      rcases h2 with rfl | ⟨hkp, _⟩
      · exact h.rt m h1
      · exact absurd hkp.symm hne
theorem invB_apply {b : Nat} {st : St} (o : OpV) (h : InvB b st) (hb : b ≤ 4398046511103) : InvB (b + 1) (apply1 st o) := by
  unfold apply1
  split
  · exact invB_create h hb
  · split
    · exact invB_remove h hb
    · split
      · exact invB_set h hb
      · exact h.mono (by omega)
theorem invB_fold (os : List OpV) : ∀ {b : Nat} {st : St}, InvB b st → b + os.length ≤ 4398046511103 → InvB (b + os.length) (os.foldl apply1 st) := by
  induction os with
  | nil => intro b st h _; exact h
  | cons o os ih =>
    intro b st h hb
    simp only [List.length_cons] at hb ⊢
    have := ih (invB_apply o h (by omega)) (by omega)
    rw [List.foldl_cons]
    rw [show b + (os.length + 1) = b + 1 + os.length by omega]; exact this
theorem invB_made (os : List OpV) (h : os.length ≤ 4398046511103) : InvB os.length (os.foldl apply1 St.new) := by
  have := invB_fold os invB_new (by omega)
  rwa [Nat.zero_add] at this
/-- a path is at most 128 letters, a node's bytes at most 256 -/
theorem Inv.small {st : St} (h : Inv st) : ∀ p ∈ st, p.1.length ≤ 128 ∧ p.2.data.length ≤ 256 := fun p hp => by
  have hl := (lookup_iff h.keys (k := p.1) (n := p.2)).2 hp
  obtain ⟨ps, hps⟩ := h.path _ _ hl
  obtain ⟨e, hg⟩ := parts_iff.1 hps
  exact ⟨by rw [e]; exact hg.len, h.data _ _ hl⟩

/-! what a call that is not refused changes -/
end Go.Proofs.YthfpmipeejjogaaGreatDoor.Zt

/- ZtreeShape, the walk. -/
namespace Go.Proofs.YthfpmipeejjogaaGreatDoor.Zt
open Go Go.Proofs.YthfpmipeejjogaaGreatDoor.SL Go.Proofs.YthfpmipeejjogaaGreatDoor.G Go.Proofs.YthfpmipeejjogaaGreatDoor.Pa
set_option linter.unusedSimpArgs false
set_option linter.unusedVariables false
variable {B : World} {ro σ σ' : AH} {tag tag' : Nat → Nat}

theorem u5 : Tryz.prog.underlying 5 = some (.int .u8) := by kernel_rfl
set_option maxRecDepth 100000 in
theorem awake_ok {Q : Bool → AH → Prop} (g : Glob ro) (hQ : ∀ σ, SL.Sep ro σ → Q true σ) : c_law07_awake B ro σ Q := by
  refine law07_awake_ok fun hs => ?_
  unfold f_law07_awake
  refine new_ok (tag := fun _ => 0) 10 (by decide) (by decide) fun T tag1 σ1 st1 h1 => ?_
  rw [if_neg (by simp)]
  refine nw_cells (tag := tag1) 0 st1.sep fun x tag2 σ2 st2 r2 => ?_
  have h2 := h1.keep (st2 []) (by simp)
  have hs2 := (st2 []).sep
  have hcv : ∀ K : Value → AH → Prop, (∀ σ', Step [0] ro tag2 σ2 tag2 σ' → SL.Read ro σ' ⟨some ⟨x, 0, none⟩, 1, 1⟩ [vU 120] → K (Sl.v ⟨some ⟨x, 0, none⟩, 1, 1⟩) σ') → awp Tryz.prog ro (convert 30 30 (Sl.v ⟨some ⟨x, 0, none⟩, 1, 1⟩)) K σ2 := by
    intro K hK
    rcases r2 with ⟨h, _⟩ | ⟨b', cs, ha, ht, hb, hln, hc, hle, hg⟩
    · cases h
    · cases ha
      have hrd : SL.rd ro σ2 x = some (.cells cs 5) := by unfold SL.rd; rw [hs2 x _ hb]; exact hb
      unfold convert
      simp only [bind_def]
      rw [awp_underlying u30, awp_underlying u30]
      simp only [Sl.v]
      rw [awp_underlying u5]
      refine ⟨.cells cs 5, hrd, ?_⟩
      refine ⟨by decide, .cells cs 5, hb, ?_⟩
      refine hK _ (step_obj hs2 ht hb) ⟨rfl, (fun h => by cases h), fun p hp i v hv => ?_⟩
      cases hp
      rcases i with _ | i
      · cases hv
        rw [add_zero]
        unfold acell SL.rd
        rw [hs2 x _ hb]
        simp only [upd_same]
        show (if (⟨x, 0, none⟩ : Addr).spot.isSome then none else cs[0]?) = _
        rw [if_neg (by simp), hg 0 (by simp)]; rfl
      · cases hv
  refine hcv _ fun σx stx rdx => ⟨_, rfl, ?_⟩
  have h2 := h2.keep stx (by simp)
  refine create_ok (d := [120]) g (by decide) (by decide) (by decide) h2 rdx (by decide) fun tag3 σ3 st3 h3 => ?_
  have e1 : (create St.new (L (⟨#[47, 97]⟩ : ByteArray)) [120] 0 false).2 = ([47, 97], 0) := by decide
  rw [show (create St.new (L (⟨#[47, 97]⟩ : ByteArray)) [120] 0 false).2.1 = [47, 97] from by rw [e1], show (create St.new (L (⟨#[47, 97]⟩ : ByteArray)) [120] 0 false).2.2 = 0 from by rw [e1]]
  refine create_ok (d := []) g (by decide) (by decide) (by decide) h3 ⟨rfl, fun _ => rfl, fun p h => by cases h⟩ (by decide) fun tag4 σ4 st4 h4 => ?_
  have e2 : (create (create St.new (L (⟨#[47, 97]⟩ : ByteArray)) [120] 0 false).1 (L (⟨#[47, 97, 47, 115]⟩ : ByteArray)) [] 0 true).2 = ([47, 97, 47, 115, 48, 48, 48, 48, 48, 48, 48, 48, 48, 48], 0) := by decide
  have e3 : (create (create St.new (L (⟨#[47, 97]⟩ : ByteArray)) [120] 0 false).1 (L (⟨#[47, 97, 47, 115]⟩ : ByteArray)) [] 0 true).1.length = 3 := by decide
  generalize create (create St.new (L (⟨#[47, 97]⟩ : ByteArray)) [120] 0 false).1 (L (⟨#[47, 97, 47, 115]⟩ : ByteArray)) [] 0 true = y at e2 e3 h4
  rw [e2]
  rw [if_pos (by decide)]
  obtain ⟨M, bs, hA⟩ := h4
  refine size_ok hA ?_
  unfold j8_law07_awake
  rw [e3]
  exact hQ _ st4.sep

end Go.Proofs.YthfpmipeejjogaaGreatDoor.Zt

/- Rows whose elements take several cells. Generic over any program. -/
namespace Go.Proofs.YthfpmipeejjogaaGreatDoor.SL
open Go
set_option linter.unusedVariables false
set_option linter.unusedSimpArgs false
variable {P : Program} {B : World} {ro σ σ' : AH} {tag tag' : Nat → Nat}

theorem flat_len {w : Nat} : ∀ {l : List (List Value)}, (∀ x ∈ l, x.length = w) → l.flatten.length = l.length * w := by
  intro l
  induction l with
  | nil => intro _; simp
  | cons x l ih => intro h; rw [List.flatten_cons, List.length_append, h x (by simp), ih fun y hy => h y (by simp [hy]), List.length_cons, Nat.add_mul]; omega
theorem flat_get {w : Nat} : ∀ {l : List (List Value)}, (∀ x ∈ l, x.length = w) → ∀ {j : Nat} {x : List Value} {i : Nat}, l[j]? = some x → i < w → l.flatten[j * w + i]? = x[i]? := by
  intro l
  induction l with
  | nil => intro _ j x i h; cases h
  | cons y l ih =>
    intro h j x i hj hi
    rw [List.flatten_cons]
    have hy := h y (by simp)
    rcases j with _ | j
    · cases hj
      rw [Nat.zero_mul, Nat.zero_add, List.getElem?_append_left (by omega)]
    · rw [List.getElem?_append_right (by rw [hy, Nat.add_mul]; omega), hy, show (j + 1) * w + i - w = j * w + i by rw [Nat.add_mul]; omega]
      exact ih (fun z hz => h z (by simp [hz])) (by simpa using hj) hi
theorem flat_set {w : Nat} : ∀ {l : List (List Value)}, (∀ x ∈ l, x.length = w) → ∀ {j : Nat} {x : List Value} {i : Nat} (v : Value), l[j]? = some x → i < w → l.flatten.set (j * w + i) v = (l.set j (x.set i v)).flatten := by
  intro l
  induction l with
  | nil => intro _ j x i v h; cases h
  | cons y l ih =>
    intro h j x i v hj hi
    have hy := h y (by simp)
    rcases j with _ | j
    · cases hj
      rw [List.flatten_cons, Nat.zero_mul, Nat.zero_add, List.set_append_left _ _ (by omega)]; rfl
    · rw [List.flatten_cons, List.set_append_right _ _ (by rw [hy, Nat.add_mul]; omega), hy, show (j + 1) * w + i - w = j * w + i by rw [Nat.add_mul]; omega, ih (fun z hz => h z (by simp [hz])) v (by simpa using hj) hi]
      rfl

/-- a row of elements of w cells each, of one role -/
def RowW (tag : Nat → Nat) (σ : AH) (r : Nat) (e : TypeId) (w : Nat) (s : Sl) (l : List (List Value)) : Prop :=
  (s = ⟨none, 0, 0⟩ ∧ l = []) ∨ ∃ (b : Nat) (cs : Array Value), s.a = some ⟨b, 0, none⟩ ∧ tag b = r ∧ σ b = some (.cells cs e) ∧ s.len = l.length ∧ cs.size = s.cap * w ∧ s.len ≤ s.cap ∧ (∀ x ∈ l, x.length = w) ∧ ∀ (i : Nat) (v : Value), l.flatten[i]? = some v → cs[i]? = some v
theorem RowW.nil (r : Nat) (e : TypeId) (w : Nat) : RowW tag σ r e w ⟨none, 0, 0⟩ [] := .inl ⟨rfl, rfl⟩
theorem RowW.len {r : Nat} {e : TypeId} {w : Nat} {s : Sl} {l : List (List Value)} (h : RowW tag σ r e w s l) : s.len = l.length := by
  rcases h with ⟨rfl, rfl⟩ | ⟨b, cs, _, _, _, h, _⟩
  · rfl
  · exact h
theorem RowW.cap {r : Nat} {e : TypeId} {w : Nat} {s : Sl} {l : List (List Value)} (h : RowW tag σ r e w s l) : s.len ≤ s.cap := by
  rcases h with ⟨rfl, rfl⟩ | ⟨b, cs, _, _, _, _, _, h, _⟩
  · exact Nat.le_refl _
  · exact h
theorem RowW.wide {r : Nat} {e : TypeId} {w : Nat} {s : Sl} {l : List (List Value)} (h : RowW tag σ r e w s l) : ∀ x ∈ l, x.length = w := by
  rcases h with ⟨rfl, rfl⟩ | ⟨b, cs, _, _, _, _, _, _, h, _⟩
  · intro x hx; cases hx
  · exact h
theorem RowW.keep {R : List Nat} {r : Nat} {e : TypeId} {w : Nat} {s : Sl} {l : List (List Value)} (h : RowW tag σ r e w s l) (k : Step R ro tag σ tag' σ') (hr : r ∉ R) : RowW tag' σ' r e w s l := by
  rcases h with h | ⟨b, cs, ha, ht, hs, hx⟩
  · exact .inl h
  · obtain ⟨t, e⟩ := k.keep b _ hs (by rw [ht]; exact hr)
    exact .inr ⟨b, cs, ha, t.trans ht, e, hx⟩
theorem RowW.keepC {c r : Nat} {e : TypeId} {w : Nat} {s : Sl} {l : List (List Value)} (h : RowW tag σ r e w s l) (k : StepC c ro tag σ tag' σ') (hr : r % 64 ≠ c) : RowW tag' σ' r e w s l := by
  obtain ⟨R, h1, h2⟩ := k
  exact h.keep h2 fun m => hr (h1 _ m)
/-- what stands in an element -/
theorem RowW.get {r : Nat} {e : TypeId} {w : Nat} {s : Sl} {l : List (List Value)} (h : RowW tag σ r e w s l) (hs : Sep ro σ) {j : Nat} {x : List Value} (hj : l[j]? = some x) :
    ∃ b, s.a = some ⟨b, 0, none⟩ ∧ tag b = r ∧ ∀ i v, x[i]? = some v → acell ro σ ⟨b, j * w + i, none⟩ = some v := by
  rcases h with ⟨_, rfl⟩ | ⟨b, cs, ha, ht, hb, hln, hc, hle, hw, hg⟩
  · cases hj
  · refine ⟨b, ha, ht, fun i v hv => ?_⟩
    have hx : x.length = w := hw x (List.mem_of_getElem? hj)
    have hi : i < w := by
      rcases Nat.lt_or_ge i w with h | h
      · exact h
      · rw [List.getElem?_eq_none (by omega)] at hv; cases hv
    have := hg (j * w + i) v (by rw [flat_get hw hj hi]; exact hv)
    unfold acell rd
    simp only [hs b _ hb, hb, cellOf]
    exact this
theorem RowW.block {r : Nat} {e : TypeId} {w : Nat} {b n c : Nat} {l : List (List Value)} (h : RowW tag σ r e w ⟨some ⟨b, 0, none⟩, n, c⟩ l) : tag b = r ∧ ∃ cs, σ b = some (.cells cs e) ∧ cs.size = c * w := by
  rcases h with ⟨h, _⟩ | ⟨b', cs, ha, ht, hb, _, hc, _⟩
  · cases h
  · cases ha; exact ⟨ht, cs, hb, hc⟩
/-- a cell of an element anew -/
theorem RowW.st {r : Nat} {e : TypeId} {w : Nat} {s : Sl} {l : List (List Value)} {b j i : Nat} {x : List Value} {v : Value} {K : AH → Prop} (h : RowW tag σ r e w s l) (hs : Sep ro σ) (ha : s.a = some ⟨b, 0, none⟩) (hj : l[j]? = some x) (hi : i < w) (hv : storable v = true)
    (hK : ∀ σ', Step [r] ro tag σ tag σ' → RowW tag σ' r e w s (l.set j (x.set i v)) → K σ') : stN ⟨b, j * w + i, none⟩ K [v] 0 σ := by
  rcases h with ⟨_, rfl⟩ | ⟨b', cs, ha', ht, hb, hln, hc, hle, hw, hg⟩
  · cases hj
  · rw [ha] at ha'; cases ha'
    have hjl : j < l.length := by
      rcases Nat.lt_or_ge j l.length with h | h
      · exact h
      · rw [List.getElem?_eq_none h] at hj; cases hj
    have hlt : j * w + i < cs.size := by
      rw [hc]
      have : (j + 1) * w ≤ s.cap * w := Nat.mul_le_mul_right _ (by omega)
      rw [Nat.add_mul] at this; omega
    have hfl := flat_len hw
    have hfi : j * w + i < l.flatten.length := by
      rw [hfl]
      have : (j + 1) * w ≤ l.length * w := Nat.mul_le_mul_right _ (by omega)
      rw [Nat.add_mul] at this; omega
    refine ⟨hv, by simp, cs, e, (0, 0), by simpa using hb, by simpa using hlt, by simp, ?_⟩
    simp only [add_zero, stN]
    refine hK _ (step_obj hs ht hb) (.inr ⟨b, _, ha, ht, upd_same _ _ _, by simp [hln], by simp [hc], hle, ?_, ?_⟩)
    · intro y hy
      rcases List.mem_or_eq_of_mem_set hy with h | h
      · exact hw y h
      · rw [h, List.length_set]; exact hw x (List.mem_of_getElem? hj)
    · intro k u hk
      rw [← flat_set hw v hj hi] at hk
      by_cases hkj : j * w + i = k
      · subst hkj
        rw [List.getElem?_set_self hfi] at hk
        rw [Array.getElem?_setIfInBounds_self_of_lt hlt]; exact hk
      · rw [List.getElem?_set_ne hkj] at hk
        rw [Array.getElem?_setIfInBounds_ne hkj]; exact hg k u hk

/-- elements of w cells in memory, wherever -/
def ReadW (ro σ : AH) (w : Nat) (s : Sl) (l : List (List Value)) : Prop := s.len = l.length ∧ (s.a = none → l = []) ∧ (∀ x ∈ l, x.length = w) ∧ ∀ p, s.a = some p → ∀ (i : Nat) (v : Value), l.flatten[i]? = some v → acell ro σ (p.add i) = some v
theorem RowW.read {r : Nat} {e : TypeId} {w : Nat} {s : Sl} {l : List (List Value)} (h : RowW tag σ r e w s l) (hs : Sep ro σ) : ReadW ro σ w s l := by
  refine ⟨h.len, fun hn => ?_, h.wide, fun p hp i v hv => ?_⟩
  · rcases h with ⟨_, rfl⟩ | ⟨b, cs, ha, _⟩
    · rfl
    · rw [hn] at ha; cases ha
  · rcases h with ⟨_, rfl⟩ | ⟨b, cs, ha, ht, hb, _, _, _, _, hg⟩
    · cases hv
    · rw [hp] at ha; cases ha
      unfold acell rd
      simp only [add_add, Nat.zero_add, hs b _ hb, hb, cellOf]
      exact hg i v hv
theorem ReadW.keep {w : Nat} {s : Sl} {l : List (List Value)} (h : ReadW ro (fun _ => none) w s l) : ReadW ro σ w s l := by
  refine ⟨h.1, h.2.1, h.2.2.1, fun p hp i v hv => ?_⟩
  have := h.2.2.2 p hp i v hv
  unfold acell rd at this ⊢
  cases e : ro (p.add i).block with
  | some o => rw [e] at this; exact this
  | none => rw [e] at this; simp [cellOf] at this
theorem ReadW.step {w : Nat} {s : Sl} {l : List (List Value)} (h : ReadW ro σ w s l) (k : Step [] ro tag σ tag' σ') : ReadW ro σ' w s l := by
  refine ⟨h.1, h.2.1, h.2.2.1, fun p hp i v hv => ?_⟩
  have := h.2.2.2 p hp i v hv
  unfold acell rd at this ⊢
  cases e : ro (p.add i).block with
  | some o => rw [e] at this; exact this
  | none =>
    rw [e] at this
    simp only at this ⊢
    cases e2 : σ (p.add i).block with
    | none => rw [e2] at this; simp [cellOf] at this
    | some o => rw [(k.keep _ o e2 (by simp)).2]; rw [e2] at this; exact this

end Go.Proofs.YthfpmipeejjogaaGreatDoor.SL

/- Builtin copy, cap; a row that is made longer in its own room. Generic over any program. -/
namespace Go.Proofs.YthfpmipeejjogaaGreatDoor.SL
open Go
set_option linter.unusedVariables false
set_option linter.unusedSimpArgs false
variable {P : Program} {B : World} {ro σ σ' : AH} {tag tag' : Nat → Nat}

theorem awp_cap {t e ty : TypeId} {s : Sl} {Q : Value → AH → Prop} (ht : P.underlying t = some (.slice e)) (h : Q (.int .i64 (s.cap : Int)) σ) : awp P ro (Builtin.cap_ #[t] ty #[Sl.v s]) Q σ := by
  have g0 : (#[t] : Array TypeId)[0]? = some t := rfl
  have g1 : (#[Value.slice s.a s.len s.cap] : Array Value)[0]? = some (Value.slice s.a s.len s.cap) := rfl
  unfold Builtin.cap_
  simp only [Sl.v, bind_def, pure_def, g0, g1]
  rw [awp_underlying ht]
  exact h
/-- what copy and append read -/
structure Src (P : Program) (ro σ : AH) (x : Value) (l : List Value) : Prop where
  len : ∀ {β : Type} (f : Nat → Sem β) (Q : β → AH → Prop), awp P ro (f l.length) Q σ → awp P ro (Sem.bind (Builtin.lenOf x) f) Q σ
  cells : ∀ {β : Type} (f : Array Value → Sem β) (Q : β → AH → Prop), awp P ro (f l.toArray) Q σ → awp P ro (Sem.bind (Builtin.firstCells 1 l.length x) f) Q σ
theorem Read.src {s : Sl} {l : List Value} (h : Read ro σ s l) : Src P ro σ (Sl.v s) l := by
  refine ⟨fun f Q hf => ?_, fun f Q hf => ?_⟩
  · rw [← h.1] at hf; exact hf
  · unfold Sl.v
    cases hsa : s.a with
    | none =>
      rw [h.2.1 hsa] at hf ⊢
      exact hf
    | some p =>
      rw [show Sem.bind (Builtin.firstCells 1 l.length (.slice (some p) s.len s.cap)) f = (loadCells p (l.length * 1)) >>= f from rfl, awp_bind, Nat.mul_one]
      exact awp_loadCells l 0 #[] (cellsAt_of 0 fun j v hj => by rw [Nat.zero_add]; exact h.2.2 p hsa j v hj) (by simpa using hf)
theorem str_src (b : ByteArray) : Src P ro σ (.string b) ((L b).map fun c => .int .u8 c.toNat) := by
  refine ⟨fun f Q hf => ?_, fun f Q hf => ?_⟩
  · rw [List.length_map, L_len] at hf; exact hf
  · rw [List.length_map, L_len]
    show awp P ro (f ((b.extract 0 b.size).data.map fun c => .int .u8 c.toNat)) Q σ
    rw [show b.extract 0 b.size = b from by rw [S_ext, List.take_of_length_le (by rw [L_len]; exact Nat.le_refl _)]; exact S_L b]
    have e : ((L b).map fun c => Value.int .u8 c.toNat).toArray = b.data.map fun c => .int .u8 c.toNat := by unfold L; rw [← Array.toList_map]
    rw [← e]; exact hf
/-- copy into the end of a row, filling it -/
theorem awp_copyTail {r e t t2 ty : TypeId} {s : Sl} {l l2 : List Value} {m bytes : Nat} {x zv : Value} {Q : Value → AH → Prop} (h : Row tag σ r e s l) (hs : Sep ro σ) (ht : P.underlying t = some (.slice e)) (hz : TyIs P e zv 1 bytes)
    (hx : Src P ro σ x l2) (hm : m + l2.length = l.length) (hv : ∀ v ∈ l2, storable v = true) (hQ : ∀ σ', Step [r] ro tag σ tag σ' → Row tag σ' r e s (l.take m ++ l2) → Q (.int .i64 (l2.length : Int)) σ') :
    awp P ro (Builtin.copy_ #[t, t2] ty #[Sl.v (⟨cutA s.a m s.cap 1, s.len - m, s.cap - m⟩ : Sl), x]) Q σ := by
  have g0 : (#[t, t2] : Array TypeId)[0]? = some t := rfl
  have g1 : (#[Value.slice (cutA s.a m s.cap 1) (s.len - m) (s.cap - m), x] : Array Value)[0]? = some (Value.slice (cutA s.a m s.cap 1) (s.len - m) (s.cap - m)) := rfl
  have g2 : (#[Value.slice (cutA s.a m s.cap 1) (s.len - m) (s.cap - m), x] : Array Value)[1]? = some x := rfl
  have hl := h.len
  unfold Builtin.copy_
  simp only [Sl.v, bind_def, pure_def, g0, g1, g2]
  rw [awp_underlying ht]
  simp only []
  refine hx.len _ _ ?_
  rw [awp_size hz]
  rw [show Nat.min l2.length (s.len - m) = l2.length from Nat.min_eq_left (by omega)]
  refine hx.cells _ _ ?_
  have done : l2 = [] → Q (.int .i64 (l2.length : Int)) σ := fun e0 => hQ σ (Step.refl hs) (by
    rw [e0, List.append_nil, List.take_of_length_le (by rw [e0] at hm; simp at hm; omega)]; exact h)
  rcases h with ⟨rfl, rfl⟩ | ⟨b, cs, ha, htg, hbk, hln, hcp, hle, hg⟩
  · have h0 : l2 = [] := List.eq_nil_of_length_eq_zero (by simp only [List.length_nil] at hm; omega)
    rw [show cutA none m 0 1 = none from by unfold cutA; split <;> rfl]
    exact done h0
  · by_cases h0 : l2 = []
    · unfold cutA
      have := done h0
      subst h0
      split
      · exact this
      · exact this
    · have hpos := List.length_pos_iff.2 h0
      unfold cutA
      rw [if_neg (by omega), ha]
      simp only [Option.map_some, Nat.mul_one, add_add, Nat.zero_add]
      show awp P ro (storeCells ⟨b, m, none⟩ l2 >>= fun _ => Sem.pure (goInt l2.length)) Q σ
      rw [awp_bind]
      refine awp_storeCells l2 0 σ (stN_blk l2 cs 0 σ hbk (by omega) hv fun cs' c1 c2 c3 => ?_)
      refine hQ _ (step_obj hs htg hbk) (.inr ⟨b, cs', ha, htg, upd_same _ _ _, by simp; omega, by rw [c1]; exact hcp, hle, fun i hi => ?_⟩)
      simp at hi
      rcases Nat.lt_or_ge i m with hh | hh
      · rw [c2 i (by omega), List.getElem?_append_left (by simp; omega), List.getElem?_take, if_pos hh]; exact hg i (by omega)
      · have e1 : (l.take m).length = m := by simp; omega
        rw [List.getElem?_append_right (by omega), e1]
        have := c3 (i - m) _ (List.getElem?_eq_getElem (by omega))
        rw [List.getElem?_eq_getElem (by omega), ← this]
        congr 1; omega
/-- a row is longer now, in its own room: what stands there is something -/
theorem Row.more {r : Nat} {e : TypeId} {s : Sl} {l : List Value} (h : Row tag σ r e s l) {n : Nat} (hn : l.length + n ≤ s.cap) : ∃ xs : List Value, xs.length = n ∧ Row tag σ r e ⟨s.a, l.length + n, s.cap⟩ (l ++ xs) := by
  rcases h with ⟨rfl, rfl⟩ | ⟨b, cs, ha, htg, hbk, hln, hcp, hle, hg⟩
  · have : n = 0 := by simpa using hn
    subst this
    exact ⟨[], rfl, .inl ⟨rfl, rfl⟩⟩
  · refine ⟨(cs.toList.drop l.length).take n, by simp; omega, .inr ⟨b, cs, ha, htg, hbk, by simp; omega, hcp, hn, fun i hi => ?_⟩⟩
    rcases Nat.lt_or_ge i l.length with h1 | h1
    · rw [List.getElem?_append_left h1]; exact hg i h1
    · simp at hi
      rw [List.getElem?_append_right h1, List.getElem?_take, if_pos (by omega), List.getElem?_drop]
      simp only [Array.getElem?_toList]
      congr 1; omega
theorem Row.capAt {r : Nat} {e : TypeId} {s : Sl} {l : List Value} (h : Row tag σ r e s l) : l.length ≤ s.cap := by
  rcases h with ⟨rfl, rfl⟩ | ⟨b, cs, ha, htg, hbk, hln, hcp, hle, hg⟩
  · simp
  · omega
theorem cutA_zero (a : Option Addr) (c s : Nat) : cutA a 0 c s = a := by
  unfold cutA; split
  · rfl
  · cases a <;> simp [Nat.zero_mul, add_zero]
end Go.Proofs.YthfpmipeejjogaaGreatDoor.SL
