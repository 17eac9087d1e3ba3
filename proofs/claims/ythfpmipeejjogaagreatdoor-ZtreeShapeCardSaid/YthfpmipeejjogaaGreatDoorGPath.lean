/- Functions as predicate transformers, and the proofs that the code does what they tell: printed by wip/tools/gen.py. -/
import Derived.Test.YthfpmipeejjogaaGreatDoorGC
namespace Go.Proofs.YthfpmipeejjogaaGreatDoor.G
open Go Go.Proofs.YthfpmipeejjogaaGreatDoor.SL
set_option linter.unusedVariables false
set_option linter.unusedSimpArgs false

def f_path_Check (B : World) (ro : AH) (a0 : ByteArray) (σ : AH) (Q : Int → AH → Prop) : Prop :=
 c_path_Parts B ro a0 σ fun x7_1 x7_2 σ =>
 Q x7_2 σ

set_option maxRecDepth 100000 in
set_option maxHeartbeats 4000000 in
theorem path_Check_ok {B : World} {ro : AH} {a0 : ByteArray} {σ : AH} {Q : Int → AH → Prop} (h : Sep ro σ → f_path_Check B ro a0 σ Q) : c_path_Check B ro a0 σ Q := by
  refine ACalls.of_sep fun hsep => ?_
  replace h := h hsep
  refine ACalls.of_body (args := [.string a0]) Tryz.func55 rfl (by rw [Tryz.ntmps55]; simp) ?_
  rw [Tryz.ntmps55]
  unfold f_path_Check at h
  refine AW.seq ?_
  refine AW.reg ?_
  refine Lp (V_asg rfl rfl) rfl rfl ?_
  refine Lnil ?_
  refine thenN ?_
  refine AW.seq ?_
  refine AW.reg ?_
  refine Lp (V_move rfl rfl) rfl rfl ?_
  refine Ls rfl rfl (X_call rfl Tryz.func106 rfl rfl rfl (ACalls.mono h ?_))
  rintro v σ ⟨x7_1, x7_2, rfl, h⟩
  refine Lp (V_move rfl rfl) rfl rfl ?_
  refine Lp (V_ext rfl rfl rfl) rfl rfl ?_
  refine Lp (V_ext rfl rfl rfl) rfl rfl ?_
  refine Lp (V_asg rfl rfl) rfl rfl ?_
  refine Lp (V_asg rfl rfl) rfl rfl ?_
  refine Lnil ?_
  refine thenN ?_
  refine AW.seq ?_
  refine AW.reg ?_
  refine Lp (V_move rfl rfl) rfl rfl ?_
  refine Lp (V_asg rfl rfl) rfl rfl ?_
  refine Lnil ?_
  refine thenN ?_
  refine AW.ret ?_
  exact bR1 Tryz.results55 rfl ⟨_, rfl, h⟩

def j4_path_Under (B : World) (ro : AH) (Q : Bool → Int → AH → Prop) (x26_5 : Bool) (σ : AH) : Prop :=
 Q x26_5 0 σ

def j2_path_Under (B : World) (ro : AH) (a0 : ByteArray) (a1 : ByteArray) (Q : Bool → Int → AH → Prop) (x13_3 : Bool) (σ : AH) : Prop :=
 if x13_3 = true then
  Q false 20 σ
 else
 if (a0 = (⟨#[47]⟩ : ByteArray)) ∨ (a1 = a0) then
  j4_path_Under B ro Q true σ
 else
 a0.size + (⟨#[47]⟩ : ByteArray).size ≤ 9223372036854775807 ∧
 c_strings_HasPrefix B ro a1 (a0 ++ (⟨#[47]⟩ : ByteArray)) σ fun x25_6 σ =>
 j4_path_Under B ro Q x25_6 σ

def f_path_Under (B : World) (ro : AH) (a0 : ByteArray) (a1 : ByteArray) (σ : AH) (Q : Bool → Int → AH → Prop) : Prop :=
 c_path_Check B ro a0 σ fun x7_1 σ =>
 if ¬ (x7_1 = 0) then
  j2_path_Under B ro a0 a1 Q true σ
 else
 c_path_Check B ro a1 σ fun x11_7 σ =>
 j2_path_Under B ro a0 a1 Q (!(decide (x11_7 = 0))) σ

set_option maxRecDepth 100000 in
set_option maxHeartbeats 4000000 in
theorem path_Under_ok {B : World} {ro : AH} {a0 : ByteArray} {a1 : ByteArray} {σ : AH} {Q : Bool → Int → AH → Prop} (h : Sep ro σ → f_path_Under B ro a0 a1 σ Q) : c_path_Under B ro a0 a1 σ Q := by
  refine ACalls.of_sep fun hsep => ?_
  replace h := h hsep
  refine ACalls.of_body (args := [.string a0, .string a1]) Tryz.func59 rfl (by rw [Tryz.ntmps59]; simp) ?_
  rw [Tryz.ntmps59]
  unfold f_path_Under at h
  refine AW.seq ?_
  refine AW.reg ?_
  refine Lp (V_asg rfl rfl) rfl rfl ?_
  refine Lp (V_asg rfl rfl) rfl rfl ?_
  refine Lnil ?_
  refine thenN ?_
  refine AW.seq ?_
  refine AW.seq ?_
  refine AW.reg ?_
  refine Lp (V_move rfl rfl) rfl rfl ?_
  refine Ls rfl rfl (X_call rfl Tryz.func55 rfl rfl rfl (ACalls.mono h ?_))
  rintro v σ ⟨x7_1, rfl, h⟩
  refine Lp (V_neq rfl rfl rfl) rfl rfl ?_
  refine Lp (V_move rfl rfl) rfl rfl ?_
  refine LsplitJ 4 (!(decide (x7_1 = 0))) (bnot_iff decide_eq_true_iff) h (fun fr σ => ∃ (x13_3 : Bool), FrLe [(0, .string a0), (1, .string a1), (13, .bool x13_3)] fr ∧ j2_path_Under B ro a0 a1 Q x13_3 σ) ?_ ?_ ?_
  · intro h e3 hk3
    refine Ln rfl rfl rfl rfl (.inl (by rw [e3]; rfl)) ?_
    refine Ln rfl rfl rfl rfl (.inl (by rw [e3]; rfl)) ?_
    refine Ln rfl rfl rfl rfl (.inl (by rw [e3]; rfl)) ?_
    refine Lp (V_pickT rfl (evb e3) rfl) rfl rfl ?_
    exact hk3 _ _ ⟨_, (FrLe.cons rfl (FrLe.cons rfl (FrLe.cons rfl (FrLe.nil _)))), h⟩
  · intro h e3 hk3
    refine Lypb (V_move rfl rfl) rfl rfl rfl rfl e3 ?_
    refine Lyb rfl rfl rfl rfl e3 (X_call rfl Tryz.func55 rfl rfl rfl (ACalls.mono h ?_))
    rintro v σ ⟨x11_7, rfl, h⟩
    refine Lypb (V_neq rfl rfl rfl) rfl rfl rfl rfl e3 ?_
    refine Lp (V_pickF rfl (evb e3) rfl) rfl rfl ?_
    exact hk3 _ _ ⟨_, (FrLe.cons rfl (FrLe.cons rfl (FrLe.cons rfl (FrLe.nil _)))), h⟩
  rintro fr σ ⟨x13_3, hl, h⟩
  unfold j2_path_Under at h
  refine Lfr hl ?_
  refine Lnil ?_
  refine thenN ?_
  refine AW.iff rfl Iff.rfl h (fun h => ?_) (fun h => ?_)
  · refine AW.seq ?_
    refine AW.reg ?_
    refine Lp (V_asg rfl rfl) rfl rfl ?_
    refine Lp (V_asg rfl rfl) rfl rfl ?_
    refine Lnil ?_
    refine thenN ?_
    refine AW.ret ?_
    refine thenR ?_
    exact bR2 Tryz.results59 rfl rfl ⟨_, _, rfl, h⟩
  refine AW.skip ?_
  refine thenN ?_
  refine AW.seq ?_
  refine AW.reg ?_
  refine Lp (V_move rfl rfl) rfl rfl ?_
  refine Lp (V_eqlS rfl rfl rfl) rfl rfl ?_
  refine Lp (V_move rfl rfl) rfl rfl ?_
  refine Lsplit 4 (decide (a0 = (⟨#[47]⟩ : ByteArray))) [(0, .string a0), (1, .string a1), (20, .bool ((decide (a0 = (⟨#[47]⟩ : ByteArray))) || (decide (a1 = a0))))] ?_ ?_ ?_
  · intro e2 hk2
    refine Ln rfl rfl rfl rfl (.inl (by rw [e2]; rfl)) ?_
    refine Ln rfl rfl rfl rfl (.inl (by rw [e2]; rfl)) ?_
    refine Ln rfl rfl rfl rfl (.inl (by rw [e2]; rfl)) ?_
    refine Lp (V_pickT rfl (evb e2) rfl) rfl rfl ?_
    exact hk2 _ (FrLe.cons rfl (FrLe.cons rfl (FrLe.cons (by rw [e2]; rfl) (FrLe.nil _))))
  · intro e2 hk2
    refine Lypb (V_move rfl rfl) rfl rfl rfl rfl e2 ?_
    refine Lypb (V_move rfl rfl) rfl rfl rfl rfl e2 ?_
    refine Lypb (V_eqlS rfl rfl rfl) rfl rfl rfl rfl e2 ?_
    refine Lp (V_pickF rfl (evb e2) rfl) rfl rfl ?_
    exact hk2 _ (FrLe.cons rfl (FrLe.cons rfl (FrLe.cons (by rw [e2]; rfl) (FrLe.nil _))))
  intro fr hl
  refine Lfr hl ?_
  refine Lp (V_move rfl rfl) rfl rfl ?_
  refine LsplitJ 5 ((decide (a0 = (⟨#[47]⟩ : ByteArray))) || (decide (a1 = a0))) (bor_iff decide_eq_true_iff decide_eq_true_iff) h (fun fr σ => ∃ (x26_5 : Bool), FrLe [(26, .bool x26_5)] fr ∧ j4_path_Under B ro Q x26_5 σ) ?_ ?_ ?_
  · intro h e7 hk7
    refine Ln rfl rfl rfl rfl (.inl (by rw [e7]; rfl)) ?_
    refine Ln rfl rfl rfl rfl (.inl (by rw [e7]; rfl)) ?_
    refine Ln rfl rfl rfl rfl (.inl (by rw [e7]; rfl)) ?_
    refine Ln rfl rfl rfl rfl (.inl (by rw [e7]; rfl)) ?_
    refine Lp (V_pickT rfl (evb e7) rfl) rfl rfl ?_
    exact hk7 _ _ ⟨_, (FrLe.cons rfl (FrLe.nil _)), h⟩
  · intro h e7 hk7
    refine Lypb (V_move rfl rfl) rfl rfl rfl rfl e7 ?_
    refine Lypb (V_move rfl rfl) rfl rfl rfl rfl e7 ?_
    obtain ⟨hc, h⟩ := h
    refine Lypb (V_cat rfl rfl rfl hc) rfl rfl rfl rfl e7 ?_
    refine Lyb rfl rfl rfl rfl e7 (X_call rfl Tryz.func110 rfl rfl rfl (ACalls.mono h ?_))
    rintro v σ ⟨x25_6, rfl, h⟩
    refine Lp (V_pickF rfl (evb e7) rfl) rfl rfl ?_
    exact hk7 _ _ ⟨_, (FrLe.cons rfl (FrLe.nil _)), h⟩
  rintro fr σ ⟨x26_5, hl, h⟩
  unfold j4_path_Under at h
  refine Lfr hl ?_
  refine Lp (V_asg rfl rfl) rfl rfl ?_
  refine Lp (V_asg rfl rfl) rfl rfl ?_
  refine Lnil ?_
  refine thenN ?_
  refine AW.ret ?_
  exact bR2 Tryz.results59 rfl rfl ⟨_, _, rfl, h⟩

def j1_path_Parent (B : World) (ro : AH) (a0 : ByteArray) (Q : ByteArray → Int → AH → Prop) (x10_2 : Bool) (σ : AH) : Prop :=
 if x10_2 = true then
  Q (⟨#[]⟩ : ByteArray) 20 σ
 else
 c_strings_LastIndexByte B ro a0 47 σ fun x13_3 σ =>
 cutOk none (some (if 1 < x13_3 then x13_3 else 1)) a0.size a0.size ∧
 Q (a0.extract (0) (Int.toNat (if 1 < x13_3 then x13_3 else 1))) 0 σ

def f_path_Parent (B : World) (ro : AH) (a0 : ByteArray) (σ : AH) (Q : ByteArray → Int → AH → Prop) : Prop :=
 if a0 = (⟨#[47]⟩ : ByteArray) then
  j1_path_Parent B ro a0 Q true σ
 else
 c_path_Check B ro a0 σ fun x8_4 σ =>
 j1_path_Parent B ro a0 Q (!(decide (x8_4 = 0))) σ

set_option maxRecDepth 100000 in
set_option maxHeartbeats 4000000 in
theorem path_Parent_ok {B : World} {ro : AH} {a0 : ByteArray} {σ : AH} {Q : ByteArray → Int → AH → Prop} (h : Sep ro σ → f_path_Parent B ro a0 σ Q) : c_path_Parent B ro a0 σ Q := by
  refine ACalls.of_sep fun hsep => ?_
  replace h := h hsep
  refine ACalls.of_body (args := [.string a0]) Tryz.func62 rfl (by rw [Tryz.ntmps62]; simp) ?_
  rw [Tryz.ntmps62]
  unfold f_path_Parent at h
  refine AW.seq ?_
  refine AW.reg ?_
  refine Lp (V_asg rfl rfl) rfl rfl ?_
  refine Lp (V_asg rfl rfl) rfl rfl ?_
  refine Lnil ?_
  refine thenN ?_
  refine AW.seq ?_
  refine AW.seq ?_
  refine AW.reg ?_
  refine Lp (V_move rfl rfl) rfl rfl ?_
  refine Lp (V_eqlS rfl rfl rfl) rfl rfl ?_
  refine Lp (V_move rfl rfl) rfl rfl ?_
  refine LsplitJ 4 (decide (a0 = (⟨#[47]⟩ : ByteArray))) decide_eq_true_iff h (fun fr σ => ∃ (x10_2 : Bool), FrLe [(0, .string a0), (10, .bool x10_2)] fr ∧ j1_path_Parent B ro a0 Q x10_2 σ) ?_ ?_ ?_
  · intro h e2 hk2
    refine Ln rfl rfl rfl rfl (.inl (by rw [e2]; rfl)) ?_
    refine Ln rfl rfl rfl rfl (.inl (by rw [e2]; rfl)) ?_
    refine Ln rfl rfl rfl rfl (.inl (by rw [e2]; rfl)) ?_
    refine Lp (V_pickT rfl (evb e2) rfl) rfl rfl ?_
    exact hk2 _ _ ⟨_, (FrLe.cons rfl (FrLe.cons rfl (FrLe.nil _))), h⟩
  · intro h e2 hk2
    refine Lypb (V_move rfl rfl) rfl rfl rfl rfl e2 ?_
    refine Lyb rfl rfl rfl rfl e2 (X_call rfl Tryz.func55 rfl rfl rfl (ACalls.mono h ?_))
    rintro v σ ⟨x8_4, rfl, h⟩
    refine Lypb (V_neq rfl rfl rfl) rfl rfl rfl rfl e2 ?_
    refine Lp (V_pickF rfl (evb e2) rfl) rfl rfl ?_
    exact hk2 _ _ ⟨_, (FrLe.cons rfl (FrLe.cons rfl (FrLe.nil _))), h⟩
  rintro fr σ ⟨x10_2, hl, h⟩
  unfold j1_path_Parent at h
  refine Lfr hl ?_
  refine Lnil ?_
  refine thenN ?_
  refine AW.iff rfl Iff.rfl h (fun h => ?_) (fun h => ?_)
  · refine AW.seq ?_
    refine AW.reg ?_
    refine Lp (V_asg rfl rfl) rfl rfl ?_
    refine Lp (V_asg rfl rfl) rfl rfl ?_
    refine Lnil ?_
    refine thenN ?_
    refine AW.ret ?_
    refine thenR ?_
    exact bR2 Tryz.results62 rfl rfl ⟨_, _, rfl, h⟩
  refine AW.skip ?_
  refine thenN ?_
  refine AW.seq ?_
  refine AW.reg ?_
  refine Lp (V_move rfl rfl) rfl rfl ?_
  refine Lp (V_move rfl rfl) rfl rfl ?_
  refine Ls rfl rfl (X_call rfl Tryz.func111 rfl rfl rfl (ACalls.mono h ?_))
  rintro v σ ⟨x13_3, rfl, h⟩
  refine Lp (V_max2 rfl rfl) rfl rfl ?_
  obtain ⟨hc, h⟩ := h
  refine Lp (V_slS (lo := none) (hi := (some (if 1 < x13_3 then x13_3 else 1))) rfl Tryz.underlying9 rfl optI_none (optI_some rfl) hc) rfl rfl ?_
  refine Lp (V_asg rfl rfl) rfl rfl ?_
  refine Lp (V_asg rfl rfl) rfl rfl ?_
  refine Lnil ?_
  refine thenN ?_
  refine AW.ret ?_
  exact bR2 Tryz.results62 rfl rfl ⟨_, _, rfl, h⟩

def j1_path_Base (B : World) (ro : AH) (a0 : ByteArray) (Q : ByteArray → Int → AH → Prop) (x10_2 : Bool) (σ : AH) : Prop :=
 if x10_2 = true then
  Q (⟨#[]⟩ : ByteArray) 20 σ
 else
 c_strings_LastIndexByte B ro a0 47 σ fun x13_3 σ =>
 cutOk (some (IntKind.i64.wrap (x13_3 + 1))) none a0.size a0.size ∧
 Q (a0.extract (Int.toNat (IntKind.i64.wrap (x13_3 + 1))) (a0.size)) 0 σ

def f_path_Base (B : World) (ro : AH) (a0 : ByteArray) (σ : AH) (Q : ByteArray → Int → AH → Prop) : Prop :=
 if a0 = (⟨#[47]⟩ : ByteArray) then
  j1_path_Base B ro a0 Q true σ
 else
 c_path_Check B ro a0 σ fun x8_4 σ =>
 j1_path_Base B ro a0 Q (!(decide (x8_4 = 0))) σ

set_option maxRecDepth 100000 in
set_option maxHeartbeats 4000000 in
theorem path_Base_ok {B : World} {ro : AH} {a0 : ByteArray} {σ : AH} {Q : ByteArray → Int → AH → Prop} (h : Sep ro σ → f_path_Base B ro a0 σ Q) : c_path_Base B ro a0 σ Q := by
  refine ACalls.of_sep fun hsep => ?_
  replace h := h hsep
  refine ACalls.of_body (args := [.string a0]) Tryz.func63 rfl (by rw [Tryz.ntmps63]; simp) ?_
  rw [Tryz.ntmps63]
  unfold f_path_Base at h
  refine AW.seq ?_
  refine AW.reg ?_
  refine Lp (V_asg rfl rfl) rfl rfl ?_
  refine Lp (V_asg rfl rfl) rfl rfl ?_
  refine Lnil ?_
  refine thenN ?_
  refine AW.seq ?_
  refine AW.seq ?_
  refine AW.reg ?_
  refine Lp (V_move rfl rfl) rfl rfl ?_
  refine Lp (V_eqlS rfl rfl rfl) rfl rfl ?_
  refine Lp (V_move rfl rfl) rfl rfl ?_
  refine LsplitJ 4 (decide (a0 = (⟨#[47]⟩ : ByteArray))) decide_eq_true_iff h (fun fr σ => ∃ (x10_2 : Bool), FrLe [(0, .string a0), (10, .bool x10_2)] fr ∧ j1_path_Base B ro a0 Q x10_2 σ) ?_ ?_ ?_
  · intro h e2 hk2
    refine Ln rfl rfl rfl rfl (.inl (by rw [e2]; rfl)) ?_
    refine Ln rfl rfl rfl rfl (.inl (by rw [e2]; rfl)) ?_
    refine Ln rfl rfl rfl rfl (.inl (by rw [e2]; rfl)) ?_
    refine Lp (V_pickT rfl (evb e2) rfl) rfl rfl ?_
    exact hk2 _ _ ⟨_, (FrLe.cons rfl (FrLe.cons rfl (FrLe.nil _))), h⟩
  · intro h e2 hk2
    refine Lypb (V_move rfl rfl) rfl rfl rfl rfl e2 ?_
    refine Lyb rfl rfl rfl rfl e2 (X_call rfl Tryz.func55 rfl rfl rfl (ACalls.mono h ?_))
    rintro v σ ⟨x8_4, rfl, h⟩
    refine Lypb (V_neq rfl rfl rfl) rfl rfl rfl rfl e2 ?_
    refine Lp (V_pickF rfl (evb e2) rfl) rfl rfl ?_
    exact hk2 _ _ ⟨_, (FrLe.cons rfl (FrLe.cons rfl (FrLe.nil _))), h⟩
  rintro fr σ ⟨x10_2, hl, h⟩
  unfold j1_path_Base at h
  refine Lfr hl ?_
  refine Lnil ?_
  refine thenN ?_
  refine AW.iff rfl Iff.rfl h (fun h => ?_) (fun h => ?_)
  · refine AW.seq ?_
    refine AW.reg ?_
    refine Lp (V_asg rfl rfl) rfl rfl ?_
    refine Lp (V_asg rfl rfl) rfl rfl ?_
    refine Lnil ?_
    refine thenN ?_
    refine AW.ret ?_
    refine thenR ?_
    exact bR2 Tryz.results63 rfl rfl ⟨_, _, rfl, h⟩
  refine AW.skip ?_
  refine thenN ?_
  refine AW.seq ?_
  refine AW.reg ?_
  refine Lp (V_move rfl rfl) rfl rfl ?_
  refine Lp (V_move rfl rfl) rfl rfl ?_
  refine Ls rfl rfl (X_call rfl Tryz.func111 rfl rfl rfl (ACalls.mono h ?_))
  rintro v σ ⟨x13_3, rfl, h⟩
  refine Lp (V_add rfl rfl rfl) rfl rfl ?_
  obtain ⟨hc, h⟩ := h
  refine Lp (V_slS (lo := (some (IntKind.i64.wrap (x13_3 + 1)))) (hi := none) rfl Tryz.underlying9 rfl (optI_some rfl) optI_none hc) rfl rfl ?_
  refine Lp (V_asg rfl rfl) rfl rfl ?_
  refine Lp (V_asg rfl rfl) rfl rfl ?_
  refine Lnil ?_
  refine thenN ?_
  refine AW.ret ?_
  exact bR2 Tryz.results63 rfl rfl ⟨_, _, rfl, h⟩

def j1_path_Suffix (B : World) (ro : AH) (a0 : ByteArray) (a1 : Int) (Q : ByteArray → Int → AH → Prop) (x22_2 : Bool) (σ : AH) : Prop :=
 if x22_2 = true then
  Q (⟨#[]⟩ : ByteArray) 20 σ
 else
 c_strconv_Itoa B ro a1 σ fun x24_3 σ =>
 c_strings_Repeat B ro (⟨#[48]⟩ : ByteArray) (IntKind.i64.wrap (10 - (x24_3.size : Int))) σ fun x29_4 σ =>
 x29_4.size + x24_3.size ≤ 9223372036854775807 ∧
 a0.size + (x29_4 ++ x24_3).size ≤ 9223372036854775807 ∧
 c_path_Check B ro (a0 ++ (x29_4 ++ x24_3)) σ fun x34_5 σ =>
 if ¬ (x34_5 = 0) then
  Q (⟨#[]⟩ : ByteArray) x34_5 σ
 else
 Q (a0 ++ (x29_4 ++ x24_3)) 0 σ

def f_path_Suffix (B : World) (ro : AH) (a0 : ByteArray) (a1 : Int) (σ : AH) (Q : ByteArray → Int → AH → Prop) : Prop :=
 if ((a0 = (⟨#[47]⟩ : ByteArray)) ∨ (a1 < 0)) ∨ (9999999999 < a1) then
  j1_path_Suffix B ro a0 a1 Q true σ
 else
 c_path_Check B ro a0 σ fun x20_6 σ =>
 j1_path_Suffix B ro a0 a1 Q (!(decide (x20_6 = 0))) σ

set_option maxRecDepth 100000 in
set_option maxHeartbeats 4000000 in
theorem path_Suffix_ok {B : World} {ro : AH} {a0 : ByteArray} {a1 : Int} {σ : AH} {Q : ByteArray → Int → AH → Prop} (h : Sep ro σ → f_path_Suffix B ro a0 a1 σ Q) : c_path_Suffix B ro a0 a1 σ Q := by
  refine ACalls.of_sep fun hsep => ?_
  replace h := h hsep
  refine ACalls.of_body (args := [.string a0, .int .i64 a1]) Tryz.func71 rfl (by rw [Tryz.ntmps71]; simp) ?_
  rw [Tryz.ntmps71]
  unfold f_path_Suffix at h
  refine AW.seq ?_
  refine AW.reg ?_
  refine Lp (V_asg rfl rfl) rfl rfl ?_
  refine Lp (V_asg rfl rfl) rfl rfl ?_
  refine Lnil ?_
  refine thenN ?_
  refine AW.seq ?_
  refine AW.seq ?_
  refine AW.reg ?_
  refine Lp (V_move rfl rfl) rfl rfl ?_
  refine Lp (V_eqlS rfl rfl rfl) rfl rfl ?_
  refine Lp (V_move rfl rfl) rfl rfl ?_
  refine Lsplit 3 (decide (a0 = (⟨#[47]⟩ : ByteArray))) [(0, .string a0), (1, .int .i64 a1), (13, .bool ((decide (a0 = (⟨#[47]⟩ : ByteArray))) || (decide (a1 < 0))))] ?_ ?_ ?_
  · intro e2 hk2
    refine Ln rfl rfl rfl rfl (.inl (by rw [e2]; rfl)) ?_
    refine Ln rfl rfl rfl rfl (.inl (by rw [e2]; rfl)) ?_
    refine Lp (V_pickT rfl (evb e2) rfl) rfl rfl ?_
    exact hk2 _ (FrLe.cons rfl (FrLe.cons rfl (FrLe.cons (by rw [e2]; rfl) (FrLe.nil _))))
  · intro e2 hk2
    refine Lypb (V_move rfl rfl) rfl rfl rfl rfl e2 ?_
    refine Lypb (V_lss rfl rfl rfl) rfl rfl rfl rfl e2 ?_
    refine Lp (V_pickF rfl (evb e2) rfl) rfl rfl ?_
    exact hk2 _ (FrLe.cons rfl (FrLe.cons rfl (FrLe.cons (by rw [e2]; rfl) (FrLe.nil _))))
  intro fr hl
  refine Lfr hl ?_
  refine Lp (V_move rfl rfl) rfl rfl ?_
  refine Lsplit 3 ((decide (a0 = (⟨#[47]⟩ : ByteArray))) || (decide (a1 < 0))) [(0, .string a0), (1, .int .i64 a1), (17, .bool (((decide (a0 = (⟨#[47]⟩ : ByteArray))) || (decide (a1 < 0))) || (decide (9999999999 < a1))))] ?_ ?_ ?_
  · intro e6 hk6
    refine Ln rfl rfl rfl rfl (.inl (by rw [e6]; rfl)) ?_
    refine Ln rfl rfl rfl rfl (.inl (by rw [e6]; rfl)) ?_
    refine Lp (V_pickT rfl (evb e6) rfl) rfl rfl ?_
    exact hk6 _ (FrLe.cons rfl (FrLe.cons rfl (FrLe.cons (by rw [e6]; rfl) (FrLe.nil _))))
  · intro e6 hk6
    refine Lypb (V_move rfl rfl) rfl rfl rfl rfl e6 ?_
    refine Lypb (V_gtr rfl rfl rfl) rfl rfl rfl rfl e6 ?_
    refine Lp (V_pickF rfl (evb e6) rfl) rfl rfl ?_
    exact hk6 _ (FrLe.cons rfl (FrLe.cons rfl (FrLe.cons (by rw [e6]; rfl) (FrLe.nil _))))
  intro fr hl
  refine Lfr hl ?_
  refine Lp (V_move rfl rfl) rfl rfl ?_
  refine LsplitJ 4 (((decide (a0 = (⟨#[47]⟩ : ByteArray))) || (decide (a1 < 0))) || (decide (9999999999 < a1))) (bor_iff (bor_iff decide_eq_true_iff decide_eq_true_iff) decide_eq_true_iff) h (fun fr σ => ∃ (x22_2 : Bool), FrLe [(0, .string a0), (1, .int .i64 a1), (22, .bool x22_2)] fr ∧ j1_path_Suffix B ro a0 a1 Q x22_2 σ) ?_ ?_ ?_
  · intro h e10 hk10
    refine Ln rfl rfl rfl rfl (.inl (by rw [e10]; rfl)) ?_
    refine Ln rfl rfl rfl rfl (.inl (by rw [e10]; rfl)) ?_
    refine Ln rfl rfl rfl rfl (.inl (by rw [e10]; rfl)) ?_
    refine Lp (V_pickT rfl (evb e10) rfl) rfl rfl ?_
    exact hk10 _ _ ⟨_, (FrLe.cons rfl (FrLe.cons rfl (FrLe.cons rfl (FrLe.nil _)))), h⟩
  · intro h e10 hk10
    refine Lypb (V_move rfl rfl) rfl rfl rfl rfl e10 ?_
    refine Lyb rfl rfl rfl rfl e10 (X_call rfl Tryz.func55 rfl rfl rfl (ACalls.mono h ?_))
    rintro v σ ⟨x20_6, rfl, h⟩
    refine Lypb (V_neq rfl rfl rfl) rfl rfl rfl rfl e10 ?_
    refine Lp (V_pickF rfl (evb e10) rfl) rfl rfl ?_
    exact hk10 _ _ ⟨_, (FrLe.cons rfl (FrLe.cons rfl (FrLe.cons rfl (FrLe.nil _)))), h⟩
  rintro fr σ ⟨x22_2, hl, h⟩
  unfold j1_path_Suffix at h
  refine Lfr hl ?_
  refine Lnil ?_
  refine thenN ?_
  refine AW.iff rfl Iff.rfl h (fun h => ?_) (fun h => ?_)
  · refine AW.seq ?_
    refine AW.reg ?_
    refine Lp (V_asg rfl rfl) rfl rfl ?_
    refine Lp (V_asg rfl rfl) rfl rfl ?_
    refine Lnil ?_
    refine thenN ?_
    refine AW.ret ?_
    refine thenR ?_
    exact bR2 Tryz.results71 rfl rfl ⟨_, _, rfl, h⟩
  refine AW.skip ?_
  refine thenN ?_
  refine AW.seq ?_
  refine AW.reg ?_
  refine Lp (V_move rfl rfl) rfl rfl ?_
  refine Ls rfl rfl (X_call rfl Tryz.func117 rfl rfl rfl (ACalls.mono h ?_))
  rintro v σ ⟨x24_3, rfl, h⟩
  refine Lp (V_asg rfl rfl) rfl rfl ?_
  refine Lnil ?_
  refine thenN ?_
  refine AW.seq ?_
  refine AW.reg ?_
  refine Lp (V_move rfl rfl) rfl rfl ?_
  refine Lp (V_move rfl rfl) rfl rfl ?_
  refine Lp (V_lenS rfl rfl Tryz.underlying9 rfl rfl) rfl rfl ?_
  refine Lp (V_sub rfl rfl rfl) rfl rfl ?_
  refine Ls rfl rfl (X_call rfl Tryz.func118 rfl rfl rfl (ACalls.mono h ?_))
  rintro v σ ⟨x29_4, rfl, h⟩
  refine Lp (V_move rfl rfl) rfl rfl ?_
  obtain ⟨hc, h⟩ := h
  refine Lp (V_cat rfl rfl rfl hc) rfl rfl ?_
  obtain ⟨hc, h⟩ := h
  refine Lp (V_cat rfl rfl rfl hc) rfl rfl ?_
  refine Lp (V_asg rfl rfl) rfl rfl ?_
  refine Lnil ?_
  refine thenN ?_
  refine AW.seq ?_
  refine AW.seq ?_
  refine AW.reg ?_
  refine Lp (V_move rfl rfl) rfl rfl ?_
  refine Ls rfl rfl (X_call rfl Tryz.func55 rfl rfl rfl (ACalls.mono h ?_))
  rintro v σ ⟨x34_5, rfl, h⟩
  refine Lp (V_asg rfl rfl) rfl rfl ?_
  refine Lnil ?_
  refine thenN ?_
  refine AW.seq ?_
  refine AW.reg ?_
  refine Lp (V_move rfl rfl) rfl rfl ?_
  refine Lp (V_neq rfl rfl rfl) rfl rfl ?_
  refine Lnil ?_
  refine thenN ?_
  refine AW.iff rfl (bnot_iff decide_eq_true_iff) h (fun h => ?_) (fun h => ?_)
  · refine AW.seq ?_
    refine AW.reg ?_
    refine Lp (V_move rfl rfl) rfl rfl ?_
    refine Lp (V_asg rfl rfl) rfl rfl ?_
    refine Lp (V_asg rfl rfl) rfl rfl ?_
    refine Lnil ?_
    refine thenN ?_
    refine AW.ret ?_
    refine thenR ?_
    exact bR2 Tryz.results71 rfl rfl ⟨_, _, rfl, h⟩
  refine AW.skip ?_
  refine thenN ?_
  refine AW.seq ?_
  refine AW.reg ?_
  refine Lp (V_move rfl rfl) rfl rfl ?_
  refine Lp (V_asg rfl rfl) rfl rfl ?_
  refine Lp (V_asg rfl rfl) rfl rfl ?_
  refine Lnil ?_
  refine thenN ?_
  refine AW.ret ?_
  exact bR2 Tryz.results71 rfl rfl ⟨_, _, rfl, h⟩

def j4_path_Parts (B : World) (ro : AH) (x19_3 : Sl) (Q : Sl → Int → AH → Prop) (σ : AH) : Prop :=
 Q x19_3 0 σ

def l5_path_Parts (B : World) (ro : AH) (x19_3 : Sl) (Q : Sl → Int → AH → Prop) : (Int) → AH → ((Int) → AH → Prop) → Prop := fun x25_6 σ Y5 =>
 if x25_6 < (x19_3.len : Int) then
  ∃ p27_7 : Addr, x19_3.a = some p27_7 ∧ (0 : Int) ≤ x25_6 ∧ x25_6 < (x19_3.len : Int) ∧
  ∃ (x28_8 : ByteArray), acell ro σ (p27_7.add (Int.toNat x25_6 * 1)) = some (.string x28_8) ∧
  c_path_Name B ro x28_8 σ fun x30_9 σ =>
  if ¬ (x30_9 = true) then
   Q (⟨none, 0, 0⟩ : Sl) 20 σ
  else
  Y5 (IntKind.i64.wrap (x25_6 + 1)) σ
 else
 j4_path_Parts B ro x19_3 Q σ

def j1_path_Parts (B : World) (ro : AH) (a0 : ByteArray) (Q : Sl → Int → AH → Prop) (x16_2 : Bool) (σ : AH) : Prop :=
 if x16_2 = true then
  Q (⟨none, 0, 0⟩ : Sl) 20 σ
 else
 cutOk (some 1) none a0.size a0.size ∧
 c_strings_Split B ro (a0.extract (Int.toNat 1) (a0.size)) (⟨#[47]⟩ : ByteArray) σ fun x19_3 σ =>
 if 8 < (x19_3.len : Int) then
  Q (⟨none, 0, 0⟩ : Sl) 20 σ
 else
 lfpD (l5_path_Parts B ro x19_3 Q ) (0) σ

def f_path_Parts (B : World) (ro : AH) (a0 : ByteArray) (σ : AH) (Q : Sl → Int → AH → Prop) : Prop :=
 if a0 = (⟨#[47]⟩ : ByteArray) then
  Q (⟨none, 0, 0⟩ : Sl) 0 σ
 else
 if 128 < (a0.size : Int) then
  j1_path_Parts B ro a0 Q true σ
 else
 c_strings_HasPrefix B ro a0 (⟨#[47]⟩ : ByteArray) σ fun x14_10 σ =>
 j1_path_Parts B ro a0 Q (!x14_10) σ

set_option maxRecDepth 100000 in
set_option maxHeartbeats 4000000 in
theorem path_Parts_ok {B : World} {ro : AH} {a0 : ByteArray} {σ : AH} {Q : Sl → Int → AH → Prop} (h : Sep ro σ → f_path_Parts B ro a0 σ Q) : c_path_Parts B ro a0 σ Q := by
  refine ACalls.of_sep fun hsep => ?_
  replace h := h hsep
  refine ACalls.of_body (args := [.string a0]) Tryz.func106 rfl (by rw [Tryz.ntmps106]; simp) ?_
  rw [Tryz.ntmps106]
  unfold f_path_Parts at h
  refine AW.seq ?_
  refine AW.reg ?_
  refine Lp (V_asg rfl rfl) rfl rfl ?_
  refine Lp (V_asg rfl rfl) rfl rfl ?_
  refine Lnil ?_
  refine thenN ?_
  refine AW.seq ?_
  refine AW.seq ?_
  refine AW.reg ?_
  refine Lp (V_move rfl rfl) rfl rfl ?_
  refine Lp (V_eqlS rfl rfl rfl) rfl rfl ?_
  refine Lnil ?_
  refine thenN ?_
  refine AW.iff rfl decide_eq_true_iff h (fun h => ?_) (fun h => ?_)
  · refine AW.seq ?_
    refine AW.reg ?_
    refine Lp (V_asg rfl rfl) rfl rfl ?_
    refine Lp (V_asg rfl rfl) rfl rfl ?_
    refine Lnil ?_
    refine thenN ?_
    refine AW.ret ?_
    refine thenR ?_
    exact bR2 Tryz.results106 rfl rfl ⟨_, _, rfl, h⟩
  refine AW.skip ?_
  refine thenN ?_
  refine AW.seq ?_
  refine AW.seq ?_
  refine AW.reg ?_
  refine Lp (V_move rfl rfl) rfl rfl ?_
  refine Lp (V_lenS rfl rfl Tryz.underlying9 rfl rfl) rfl rfl ?_
  refine Lp (V_gtr rfl rfl rfl) rfl rfl ?_
  refine Lp (V_move rfl rfl) rfl rfl ?_
  refine LsplitJ 4 (decide (128 < (a0.size : Int))) decide_eq_true_iff h (fun fr σ => ∃ (x16_2 : Bool), FrLe [(0, .string a0), (16, .bool x16_2)] fr ∧ j1_path_Parts B ro a0 Q x16_2 σ) ?_ ?_ ?_
  · intro h e3 hk3
    refine Ln rfl rfl rfl rfl (.inl (by rw [e3]; rfl)) ?_
    refine Ln rfl rfl rfl rfl (.inl (by rw [e3]; rfl)) ?_
    refine Ln rfl rfl rfl rfl (.inl (by rw [e3]; rfl)) ?_
    refine Lp (V_pickT rfl (evb e3) rfl) rfl rfl ?_
    exact hk3 _ _ ⟨_, (FrLe.cons rfl (FrLe.cons rfl (FrLe.nil _))), h⟩
  · intro h e3 hk3
    refine Lypb (V_move rfl rfl) rfl rfl rfl rfl e3 ?_
    refine Lyb rfl rfl rfl rfl e3 (X_call rfl Tryz.func110 rfl rfl rfl (ACalls.mono h ?_))
    rintro v σ ⟨x14_10, rfl, h⟩
    refine Lypb (V_not rfl rfl) rfl rfl rfl rfl e3 ?_
    refine Lp (V_pickF rfl (evb e3) rfl) rfl rfl ?_
    exact hk3 _ _ ⟨_, (FrLe.cons rfl (FrLe.cons rfl (FrLe.nil _))), h⟩
  rintro fr σ ⟨x16_2, hl, h⟩
  unfold j1_path_Parts at h
  refine Lfr hl ?_
  refine Lnil ?_
  refine thenN ?_
  refine AW.iff rfl Iff.rfl h (fun h => ?_) (fun h => ?_)
  · refine AW.seq ?_
    refine AW.reg ?_
    refine Lp (V_asg rfl rfl) rfl rfl ?_
    refine Lp (V_asg rfl rfl) rfl rfl ?_
    refine Lnil ?_
    refine thenN ?_
    refine AW.ret ?_
    refine thenR ?_
    exact bR2 Tryz.results106 rfl rfl ⟨_, _, rfl, h⟩
  refine AW.skip ?_
  refine thenN ?_
  refine AW.seq ?_
  refine AW.reg ?_
  refine Lp (V_move rfl rfl) rfl rfl ?_
  obtain ⟨hc, h⟩ := h
  refine Lp (V_slS (lo := (some 1)) (hi := none) rfl Tryz.underlying9 rfl (optI_some rfl) optI_none hc) rfl rfl ?_
  refine Ls rfl rfl (X_call rfl Tryz.func128 rfl rfl rfl (ACalls.mono h ?_))
  rintro v σ ⟨x19_3, rfl, h⟩
  refine Lp (V_asg rfl rfl) rfl rfl ?_
  refine Lnil ?_
  refine thenN ?_
  refine AW.seq ?_
  refine AW.seq ?_
  refine AW.reg ?_
  refine Lp (V_move rfl rfl) rfl rfl ?_
  refine Lp (V_lenL rfl rfl Tryz.underlying25 rfl rfl) rfl rfl ?_
  refine Lp (V_gtr rfl rfl rfl) rfl rfl ?_
  refine Lnil ?_
  refine thenN ?_
  refine AW.iff rfl decide_eq_true_iff h (fun h => ?_) (fun h => ?_)
  · refine AW.seq ?_
    refine AW.reg ?_
    refine Lp (V_asg rfl rfl) rfl rfl ?_
    refine Lp (V_asg rfl rfl) rfl rfl ?_
    refine Lnil ?_
    refine thenN ?_
    refine AW.ret ?_
    refine thenR ?_
    exact bR2 Tryz.results106 rfl rfl ⟨_, _, rfl, h⟩
  refine AW.skip ?_
  refine thenN ?_
  refine AW.seqJ (fun fr σ => FrLe [(4, Sl.v x19_3)] fr ∧ j4_path_Parts B ro x19_3 Q σ) ?_ ?_
  · rintro fr σ ⟨hl, h⟩
    refine AW.weaken ?_ hl (HLe.refl _)
    unfold j4_path_Parts at h
    refine AW.seq ?_
    refine AW.reg ?_
    refine Lp (V_move rfl rfl) rfl rfl ?_
    refine Lp (V_asg rfl rfl) rfl rfl ?_
    refine Lp (V_asg rfl rfl) rfl rfl ?_
    refine Lnil ?_
    refine thenN ?_
    refine AW.ret ?_
    exact bR2 Tryz.results106 rfl rfl ⟨_, _, rfl, h⟩
  refine AW.seq ?_
  refine AW.reg ?_
  refine Lp (V_move rfl rfl) rfl rfl ?_
  refine Lp (V_lenL rfl rfl Tryz.underlying25 rfl rfl) rfl rfl ?_
  refine Lp (V_move rfl rfl) rfl rfl ?_
  refine Lnil ?_
  refine thenN ?_
  refine AW.block ?_
  refine ARound.loop (fr' := [(4, Sl.v x19_3), (23, Sl.v x19_3), (24, .int .i64 (x19_3.len : Int)), (25, .int .i64 0)]) ?_ (FrLe.cons rfl (FrLe.cons rfl (FrLe.cons rfl (FrLe.cons rfl (FrLe.nil _)))))
  refine h (fun x25_6 σ => ARound _ _ _ _ _ _ [(4, Sl.v x19_3), (23, Sl.v x19_3), (24, .int .i64 (x19_3.len : Int)), (25, .int .i64 x25_6)] σ) ?_
  rintro x25_6 σ Y5 hY5 h
  show AW _ _ _ _ _ _ _ _
  unfold l5_path_Parts at h
  refine AW.seq ?_
  refine AW.reg ?_
  refine Lp (V_lss rfl rfl rfl) rfl rfl ?_
  refine Lnil ?_
  refine thenN ?_
  refine AW.seq ?_
  refine AW.iff rfl decide_eq_true_iff h (fun h => ?_) (fun h => ?_)
  rotate_left
  · refine AW.exit ?_
    refine thenE ?_
    refine thenE ?_
    refine blockE ?_
    refine thenN ?_
    exact ⟨(FrLe.cons rfl (FrLe.nil _)), h⟩
  refine AW.skip ?_
  refine thenN ?_
  refine AW.seq ?_
  refine AW.block ?_
  refine AW.seq ?_
  refine AW.reg ?_
  obtain ⟨p27_7, ha, h0, h1, h⟩ := h
  refine Lp (V_ixA rfl Tryz.underlying25 ty9 (ixL rfl ha) rfl h0 h1) rfl rfl ?_
  obtain ⟨x28_8, hc, h⟩ := h
  refine Ls rfl rfl (X_ld rfl Tryz.underlying9 rfl rfl hc ?_)
  refine Lp (V_asg rfl rfl) rfl rfl ?_
  refine Lnil ?_
  refine thenN ?_
  refine AW.seq ?_
  refine AW.reg ?_
  refine Lp (V_move rfl rfl) rfl rfl ?_
  refine Ls rfl rfl (X_call rfl Tryz.func129 rfl rfl rfl (ACalls.mono h ?_))
  rintro v σ ⟨x30_9, rfl, h⟩
  refine Lp (V_not rfl rfl) rfl rfl ?_
  refine Lnil ?_
  refine thenN ?_
  refine AW.iff rfl (bnot_iff Iff.rfl) h (fun h => ?_) (fun h => ?_)
  · refine AW.seq ?_
    refine AW.reg ?_
    refine Lp (V_asg rfl rfl) rfl rfl ?_
    refine Lp (V_asg rfl rfl) rfl rfl ?_
    refine Lnil ?_
    refine thenN ?_
    refine AW.ret ?_
    refine blockR ?_
    refine thenR ?_
    refine thenR ?_
    refine blockR ?_
    refine thenR ?_
    exact bR2 Tryz.results106 rfl rfl ⟨_, _, rfl, h⟩
  refine AW.skip ?_
  refine blockN ?_
  refine thenN ?_
  refine AW.reg ?_
  refine Lp (V_add rfl rfl rfl) rfl rfl ?_
  refine Lp (V_move rfl rfl) rfl rfl ?_
  refine Lnil ?_
  refine thenN ?_
  refine ARound.head (fr' := [(4, Sl.v x19_3), (23, Sl.v x19_3), (24, .int .i64 (x19_3.len : Int)), (25, .int .i64 (IntKind.i64.wrap (x25_6 + 1)))]) ?_ (FrLe.cons rfl (FrLe.cons rfl (FrLe.cons rfl (FrLe.cons rfl (FrLe.nil _)))))
  exact hY5 _ _ h

def j1_path_Name (B : World) (ro : AH) (Q : Bool → AH → Prop) (σ : AH) : Prop :=
 Q true σ

def j6_path_Name (B : World) (ro : AH) (p21_2 : Addr) (Q : Bool → AH → Prop) (Y3 : (Unit) → AH → Prop) (x25_7 : Bool) (σ : AH) : Prop :=
 if x25_7 = true then
  Y3 () σ
 else
 Q false σ

def l3_path_Name (B : World) (ro : AH) (p21_2 : Addr) (Q : Bool → AH → Prop) : (Unit) → AH → ((Unit) → AH → Prop) → Prop := fun _ σ Y3 =>
 awp Tryz.prog ro (Instr.next (.pointer (some p21_2)) true 0) (fun v σ =>
  (v = .tuple #[.bool false] ∧
   j1_path_Name B ro Q σ) ∨
  (∃ (x22_4 : Int) (x22_5 : Int), v = .tuple #[.bool true, .int .i64 x22_4, .int .i32 x22_5] ∧
   if (97 ≤ x22_5) ∧ (x22_5 ≤ 122) then
    j6_path_Name B ro p21_2 Q Y3 ((decide (97 ≤ x22_5)) && (decide (x22_5 ≤ 122))) σ
   else
   if (48 ≤ x22_5) ∧ (x22_5 ≤ 57) then
    j6_path_Name B ro p21_2 Q Y3 ((decide (48 ≤ x22_5)) && (decide (x22_5 ≤ 57))) σ
   else
   if x22_5 = 46 then
    j6_path_Name B ro p21_2 Q Y3 (decide (x22_5 = 46)) σ
   else
   if x22_5 = 95 then
    j6_path_Name B ro p21_2 Q Y3 (decide (x22_5 = 95)) σ
   else
   j6_path_Name B ro p21_2 Q Y3 (decide (x22_5 = 45)) σ)) σ

def f_path_Name (B : World) (ro : AH) (a0 : ByteArray) (σ : AH) (Q : Bool → AH → Prop) : Prop :=
 if (((a0 = (⟨#[]⟩ : ByteArray)) ∨ (32 < (a0.size : Int))) ∨ (a0 = (⟨#[46]⟩ : ByteArray))) ∨ (a0 = (⟨#[46, 46]⟩ : ByteArray)) then
  Q false σ
 else
 awp Tryz.prog ro (Instr.range 9 (.string a0)) (fun v σ =>
  (∃ (p21_2 : Addr), v = .pointer (some p21_2) ∧
   lfpD (l3_path_Name B ro p21_2 Q ) () σ)) σ

set_option maxRecDepth 100000 in
set_option maxHeartbeats 4000000 in
theorem path_Name_ok {B : World} {ro : AH} {a0 : ByteArray} {σ : AH} {Q : Bool → AH → Prop} (h : Sep ro σ → f_path_Name B ro a0 σ Q) : c_path_Name B ro a0 σ Q := by
  refine ACalls.of_sep fun hsep => ?_
  replace h := h hsep
  refine ACalls.of_body (args := [.string a0]) Tryz.func129 rfl (by rw [Tryz.ntmps129]; simp) ?_
  rw [Tryz.ntmps129]
  unfold f_path_Name at h
  refine AW.seq ?_
  refine AW.reg ?_
  refine Lp (V_asg rfl rfl) rfl rfl ?_
  refine Lnil ?_
  refine thenN ?_
  refine AW.seq ?_
  refine AW.seq ?_
  refine AW.reg ?_
  refine Lp (V_move rfl rfl) rfl rfl ?_
  refine Lp (V_eqlS rfl rfl rfl) rfl rfl ?_
  refine Lp (V_move rfl rfl) rfl rfl ?_
  refine Lsplit 4 (decide (a0 = (⟨#[]⟩ : ByteArray))) [(0, .string a0), (11, .bool ((decide (a0 = (⟨#[]⟩ : ByteArray))) || (decide (32 < (a0.size : Int)))))] ?_ ?_ ?_
  · intro e2 hk2
    refine Ln rfl rfl rfl rfl (.inl (by rw [e2]; rfl)) ?_
    refine Ln rfl rfl rfl rfl (.inl (by rw [e2]; rfl)) ?_
    refine Ln rfl rfl rfl rfl (.inl (by rw [e2]; rfl)) ?_
    refine Lp (V_pickT rfl (evb e2) rfl) rfl rfl ?_
    exact hk2 _ (FrLe.cons rfl (FrLe.cons (by rw [e2]; rfl) (FrLe.nil _)))
  · intro e2 hk2
    refine Lypb (V_move rfl rfl) rfl rfl rfl rfl e2 ?_
    refine Lypb (V_lenS rfl rfl Tryz.underlying9 rfl rfl) rfl rfl rfl rfl e2 ?_
    refine Lypb (V_gtr rfl rfl rfl) rfl rfl rfl rfl e2 ?_
    refine Lp (V_pickF rfl (evb e2) rfl) rfl rfl ?_
    exact hk2 _ (FrLe.cons rfl (FrLe.cons (by rw [e2]; rfl) (FrLe.nil _)))
  intro fr hl
  refine Lfr hl ?_
  refine Lp (V_move rfl rfl) rfl rfl ?_
  refine Lsplit 3 ((decide (a0 = (⟨#[]⟩ : ByteArray))) || (decide (32 < (a0.size : Int)))) [(0, .string a0), (15, .bool (((decide (a0 = (⟨#[]⟩ : ByteArray))) || (decide (32 < (a0.size : Int)))) || (decide (a0 = (⟨#[46]⟩ : ByteArray)))))] ?_ ?_ ?_
  · intro e7 hk7
    refine Ln rfl rfl rfl rfl (.inl (by rw [e7]; rfl)) ?_
    refine Ln rfl rfl rfl rfl (.inl (by rw [e7]; rfl)) ?_
    refine Lp (V_pickT rfl (evb e7) rfl) rfl rfl ?_
    exact hk7 _ (FrLe.cons rfl (FrLe.cons (by rw [e7]; rfl) (FrLe.nil _)))
  · intro e7 hk7
    refine Lypb (V_move rfl rfl) rfl rfl rfl rfl e7 ?_
    refine Lypb (V_eqlS rfl rfl rfl) rfl rfl rfl rfl e7 ?_
    refine Lp (V_pickF rfl (evb e7) rfl) rfl rfl ?_
    exact hk7 _ (FrLe.cons rfl (FrLe.cons (by rw [e7]; rfl) (FrLe.nil _)))
  intro fr hl
  refine Lfr hl ?_
  refine Lp (V_move rfl rfl) rfl rfl ?_
  refine Lsplit 3 (((decide (a0 = (⟨#[]⟩ : ByteArray))) || (decide (32 < (a0.size : Int)))) || (decide (a0 = (⟨#[46]⟩ : ByteArray)))) [(0, .string a0), (19, .bool ((((decide (a0 = (⟨#[]⟩ : ByteArray))) || (decide (32 < (a0.size : Int)))) || (decide (a0 = (⟨#[46]⟩ : ByteArray)))) || (decide (a0 = (⟨#[46, 46]⟩ : ByteArray)))))] ?_ ?_ ?_
  · intro e11 hk11
    refine Ln rfl rfl rfl rfl (.inl (by rw [e11]; rfl)) ?_
    refine Ln rfl rfl rfl rfl (.inl (by rw [e11]; rfl)) ?_
    refine Lp (V_pickT rfl (evb e11) rfl) rfl rfl ?_
    exact hk11 _ (FrLe.cons rfl (FrLe.cons (by rw [e11]; rfl) (FrLe.nil _)))
  · intro e11 hk11
    refine Lypb (V_move rfl rfl) rfl rfl rfl rfl e11 ?_
    refine Lypb (V_eqlS rfl rfl rfl) rfl rfl rfl rfl e11 ?_
    refine Lp (V_pickF rfl (evb e11) rfl) rfl rfl ?_
    exact hk11 _ (FrLe.cons rfl (FrLe.cons (by rw [e11]; rfl) (FrLe.nil _)))
  intro fr hl
  refine Lfr hl ?_
  refine Lnil ?_
  refine thenN ?_
  refine AW.iff rfl (bor_iff (bor_iff (bor_iff decide_eq_true_iff decide_eq_true_iff) decide_eq_true_iff) decide_eq_true_iff) h (fun h => ?_) (fun h => ?_)
  · refine AW.seq ?_
    refine AW.reg ?_
    refine Lp (V_asg rfl rfl) rfl rfl ?_
    refine Lnil ?_
    refine thenN ?_
    refine AW.ret ?_
    refine thenR ?_
    exact bR1 Tryz.results129 rfl ⟨_, rfl, h⟩
  refine AW.skip ?_
  refine thenN ?_
  refine AW.seqJ (fun fr σ => FrLe [] fr ∧ j1_path_Name B ro Q σ) ?_ ?_
  · rintro fr σ ⟨hl, h⟩
    refine AW.weaken ?_ hl (HLe.refl _)
    unfold j1_path_Name at h
    refine AW.seq ?_
    refine AW.reg ?_
    refine Lp (V_asg rfl rfl) rfl rfl ?_
    refine Lnil ?_
    refine thenN ?_
    refine AW.ret ?_
    exact bR1 Tryz.results129 rfl ⟨_, rfl, h⟩
  refine AW.seq ?_
  refine AW.reg ?_
  refine Lp (V_move rfl rfl) rfl rfl ?_
  refine Ls rfl rfl (X_rng rfl rfl (awp_mono _ h ?_))
  rintro v σ ⟨p21_2, rfl, h⟩
  refine Lnil ?_
  refine thenN ?_
  refine AW.block ?_
  refine ARound.loop (fr' := [(21, .pointer (some p21_2))]) ?_ (FrLe.cons rfl (FrLe.nil _))
  refine h (fun _ σ => ARound _ _ _ _ _ _ [(21, .pointer (some p21_2))] σ) ?_
  rintro _ σ Y3 hY3 h
  show AW _ _ _ _ _ _ _ _
  unfold l3_path_Name at h
  refine AW.seq ?_
  refine AW.reg ?_
  refine Ls rfl rfl (X_nxt rfl rfl rfl (awp_mono _ h ?_))
  rintro v σ (⟨rfl, h⟩ | ⟨x22_4, x22_5, rfl, h⟩)
  · refine Lp (V_ext rfl rfl rfl) rfl rfl ?_
    refine Lnil ?_
    refine thenN ?_
    refine AW.seq ?_
    refine AW.no rfl ?_
    refine AW.exit ?_
    refine thenE ?_
    refine thenE ?_
    refine blockE ?_
    refine thenN ?_
    exact ⟨(FrLe.nil _), h⟩
  · refine Lp (V_ext rfl rfl rfl) rfl rfl ?_
    refine Lnil ?_
    refine thenN ?_
    refine AW.seq ?_
    refine AW.yes rfl ?_
    refine AW.skip ?_
    refine thenN ?_
    refine AW.block ?_
    refine AW.seq ?_
    refine AW.reg ?_
    refine Lp (V_ext rfl rfl rfl) rfl rfl ?_
    refine Lp (V_asg rfl rfl) rfl rfl ?_
    refine Lnil ?_
    refine thenN ?_
    refine AW.block ?_
    refine AW.seqJ (fun fr σ => ∃ (x25_7 : Bool), FrLe [(21, .pointer (some p21_2)), (25, .bool x25_7)] fr ∧ j6_path_Name B ro p21_2 Q Y3 x25_7 σ) ?_ ?_
    · rintro fr σ ⟨x25_7, hl, h⟩
      refine AW.weaken ?_ hl (HLe.refl _)
      unfold j6_path_Name at h
      refine AW.iff rfl Iff.rfl h (fun h => ?_) (fun h => ?_)
      · refine AW.skip ?_
        refine blockN ?_
        refine blockN ?_
        refine thenN ?_
        refine ARound.head (fr' := [(21, .pointer (some p21_2))]) ?_ (FrLe.cons rfl (FrLe.nil _))
        exact hY3 _ _ h
      refine AW.seq ?_
      refine AW.reg ?_
      refine Lp (V_asg rfl rfl) rfl rfl ?_
      refine Lnil ?_
      refine thenN ?_
      refine AW.ret ?_
      refine blockR ?_
      refine blockR ?_
      refine thenR ?_
      refine blockR ?_
      refine thenR ?_
      exact bR1 Tryz.results129 rfl ⟨_, rfl, h⟩
    refine AW.seq ?_
    refine AW.reg ?_
    refine Lp (V_move rfl rfl) rfl rfl ?_
    refine Lp (V_geq rfl rfl rfl) rfl rfl ?_
    refine Lp (V_move rfl rfl) rfl rfl ?_
    refine Lsplit 3 (decide (97 ≤ x22_5)) [(4, .int .i32 x22_5), (21, .pointer (some p21_2)), (31, .bool ((decide (97 ≤ x22_5)) && (decide (x22_5 ≤ 122))))] ?_ ?_ ?_
    · intro e2 hk2
      refine Lypb (V_move rfl rfl) rfl rfl rfl rfl e2 ?_
      refine Lypb (V_leq rfl rfl rfl) rfl rfl rfl rfl e2 ?_
      refine Lp (V_pickT rfl (evb e2) rfl) rfl rfl ?_
      exact hk2 _ (FrLe.cons rfl (FrLe.cons rfl (FrLe.cons (by rw [e2]; rfl) (FrLe.nil _))))
    · intro e2 hk2
      refine Ln rfl rfl rfl rfl (.inl (by rw [e2]; rfl)) ?_
      refine Ln rfl rfl rfl rfl (.inl (by rw [e2]; rfl)) ?_
      refine Lp (V_pickF rfl (evb e2) rfl) rfl rfl ?_
      exact hk2 _ (FrLe.cons rfl (FrLe.cons rfl (FrLe.cons (by rw [e2]; rfl) (FrLe.nil _))))
    intro fr hl
    refine Lfr hl ?_
    refine Lp (V_asg rfl rfl) rfl rfl ?_
    refine Lnil ?_
    refine thenN ?_
    refine AW.iff rfl (band_iff decide_eq_true_iff decide_eq_true_iff) h (fun h => ?_) (fun h => ?_)
    · refine AW.skip ?_
      refine thenN ?_
      exact ⟨_, (FrLe.cons rfl (FrLe.cons rfl (FrLe.nil _))), h⟩
    refine AW.seq ?_
    refine AW.reg ?_
    refine Lp (V_move rfl rfl) rfl rfl ?_
    refine Lp (V_geq rfl rfl rfl) rfl rfl ?_
    refine Lp (V_move rfl rfl) rfl rfl ?_
    refine Lsplit 3 (decide (48 ≤ x22_5)) [(4, .int .i32 x22_5), (21, .pointer (some p21_2)), (37, .bool ((decide (48 ≤ x22_5)) && (decide (x22_5 ≤ 57))))] ?_ ?_ ?_
    · intro e2 hk2
      refine Lypb (V_move rfl rfl) rfl rfl rfl rfl e2 ?_
      refine Lypb (V_leq rfl rfl rfl) rfl rfl rfl rfl e2 ?_
      refine Lp (V_pickT rfl (evb e2) rfl) rfl rfl ?_
      exact hk2 _ (FrLe.cons rfl (FrLe.cons rfl (FrLe.cons (by rw [e2]; rfl) (FrLe.nil _))))
    · intro e2 hk2
      refine Ln rfl rfl rfl rfl (.inl (by rw [e2]; rfl)) ?_
      refine Ln rfl rfl rfl rfl (.inl (by rw [e2]; rfl)) ?_
      refine Lp (V_pickF rfl (evb e2) rfl) rfl rfl ?_
      exact hk2 _ (FrLe.cons rfl (FrLe.cons rfl (FrLe.cons (by rw [e2]; rfl) (FrLe.nil _))))
    intro fr hl
    refine Lfr hl ?_
    refine Lp (V_asg rfl rfl) rfl rfl ?_
    refine Lnil ?_
    refine thenN ?_
    refine AW.iff rfl (band_iff decide_eq_true_iff decide_eq_true_iff) h (fun h => ?_) (fun h => ?_)
    · refine AW.skip ?_
      refine thenN ?_
      exact ⟨_, (FrLe.cons rfl (FrLe.cons rfl (FrLe.nil _))), h⟩
    refine AW.seq ?_
    refine AW.reg ?_
    refine Lp (V_move rfl rfl) rfl rfl ?_
    refine Lp (V_eql rfl rfl rfl) rfl rfl ?_
    refine Lp (V_asg rfl rfl) rfl rfl ?_
    refine Lnil ?_
    refine thenN ?_
    refine AW.iff rfl decide_eq_true_iff h (fun h => ?_) (fun h => ?_)
    · refine AW.skip ?_
      refine thenN ?_
      exact ⟨_, (FrLe.cons rfl (FrLe.cons rfl (FrLe.nil _))), h⟩
    refine AW.seq ?_
    refine AW.reg ?_
    refine Lp (V_move rfl rfl) rfl rfl ?_
    refine Lp (V_eql rfl rfl rfl) rfl rfl ?_
    refine Lp (V_asg rfl rfl) rfl rfl ?_
    refine Lnil ?_
    refine thenN ?_
    refine AW.iff rfl decide_eq_true_iff h (fun h => ?_) (fun h => ?_)
    · refine AW.skip ?_
      refine thenN ?_
      exact ⟨_, (FrLe.cons rfl (FrLe.cons rfl (FrLe.nil _))), h⟩
    refine AW.reg ?_
    refine Lp (V_move rfl rfl) rfl rfl ?_
    refine Lp (V_eql rfl rfl rfl) rfl rfl ?_
    refine Lp (V_asg rfl rfl) rfl rfl ?_
    refine Lnil ?_
    refine thenN ?_
    exact ⟨_, (FrLe.cons rfl (FrLe.cons rfl (FrLe.nil _))), h⟩

end Go.Proofs.YthfpmipeejjogaaGreatDoor.G
