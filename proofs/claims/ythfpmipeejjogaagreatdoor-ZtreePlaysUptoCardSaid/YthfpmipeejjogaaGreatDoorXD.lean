/- GPath, GR2 -/
import Derived.Test.YthfpmipeejjogaaGreatDoorXC
/- Functions as predicate transformers, and the proofs that the code does what they tell: printed by wip/tools/gen.py. -/
namespace Go.Proofs.YthfpmipeejjogaaGreatDoor.G
open Go Go.Proofs.YthfpmipeejjogaaGreatDoor.SL
set_option linter.unusedVariables false
set_option linter.unusedSimpArgs false

def f_path_Check (B : World) (ro : AH) (a0 : ByteArray) (σ : AH) (Q : Int → AH → Prop) : Prop :=
 c_path_Parts B ro a0 σ fun x7_1 x7_2 σ =>
 Q x7_2 σ

set_option maxRecDepth 100000 in
set_option maxHeartbeats 4000000 in
theorem path_Check_ok {B : World} {ro : AH} {a0 : ByteArray} {σ : AH} {Q : Int → AH → Prop} (h : Sep ro σ → f_path_Check B ro a0 σ Q) : c_path_Check B ro a0 σ Q := by
  refine ACalls.of_sep fun hsep => ?_
  replace h := h hsep
  refine ACalls.of_body (args := [.string a0]) Tryz.func55 rfl (by rw [Tryz.ntmps55]; simp) ?_
  rw [Tryz.ntmps55]
  unfold f_path_Check at h
  refine AW.seq ?_
  refine AW.reg ?_
  refine Lp (V_asg rfl rfl) rfl rfl ?_
  refine Lnil ?_
  refine thenN ?_
  refine AW.seq ?_
  refine AW.reg ?_
  refine Lp (V_move rfl rfl) rfl rfl ?_
  refine Ls rfl rfl (X_call rfl Tryz.func106 rfl rfl rfl (ACalls.mono h ?_))
  rintro v σ ⟨x7_1, x7_2, rfl, h⟩
  refine Lp (V_move rfl rfl) rfl rfl ?_
  refine Lp (V_ext rfl rfl rfl) rfl rfl ?_
  refine Lp (V_ext rfl rfl rfl) rfl rfl ?_
  refine Lp (V_asg rfl rfl) rfl rfl ?_
  refine Lp (V_asg rfl rfl) rfl rfl ?_
  refine Lnil ?_
  refine thenN ?_
  refine AW.seq ?_
  refine AW.reg ?_
  refine Lp (V_move rfl rfl) rfl rfl ?_
  refine Lp (V_asg rfl rfl) rfl rfl ?_
  refine Lnil ?_
  refine thenN ?_
  refine AW.ret ?_
  exact bR1 Tryz.results55 rfl ⟨_, rfl, h⟩

def j4_path_Under (B : World) (ro : AH) (Q : Bool → Int → AH → Prop) (x26_5 : Bool) (σ : AH) : Prop :=
 Q x26_5 0 σ

def j2_path_Under (B : World) (ro : AH) (a0 : ByteArray) (a1 : ByteArray) (Q : Bool → Int → AH → Prop) (x13_3 : Bool) (σ : AH) : Prop :=
 if x13_3 = true then
  Q false 20 σ
 else
 if (a0 = (⟨#[47]⟩ : ByteArray)) ∨ (a1 = a0) then
  j4_path_Under B ro Q true σ
 else
 a0.size + (⟨#[47]⟩ : ByteArray).size ≤ 9223372036854775807 ∧
 c_strings_HasPrefix B ro a1 (a0 ++ (⟨#[47]⟩ : ByteArray)) σ fun x25_6 σ =>
 j4_path_Under B ro Q x25_6 σ

def f_path_Under (B : World) (ro : AH) (a0 : ByteArray) (a1 : ByteArray) (σ : AH) (Q : Bool → Int → AH → Prop) : Prop :=
 c_path_Check B ro a0 σ fun x7_1 σ =>
 if ¬ (x7_1 = 0) then
  j2_path_Under B ro a0 a1 Q true σ
 else
 c_path_Check B ro a1 σ fun x11_7 σ =>
 j2_path_Under B ro a0 a1 Q (!(decide (x11_7 = 0))) σ

set_option maxRecDepth 100000 in
set_option maxHeartbeats 4000000 in
theorem path_Under_ok {B : World} {ro : AH} {a0 : ByteArray} {a1 : ByteArray} {σ : AH} {Q : Bool → Int → AH → Prop} (h : Sep ro σ → f_path_Under B ro a0 a1 σ Q) : c_path_Under B ro a0 a1 σ Q := by
  refine ACalls.of_sep fun hsep => ?_
  replace h := h hsep
  refine ACalls.of_body (args := [.string a0, .string a1]) Tryz.func59 rfl (by rw [Tryz.ntmps59]; simp) ?_
  rw [Tryz.ntmps59]
  unfold f_path_Under at h
  refine AW.seq ?_
  refine AW.reg ?_
  refine Lp (V_asg rfl rfl) rfl rfl ?_
  refine Lp (V_asg rfl rfl) rfl rfl ?_
  refine Lnil ?_
  refine thenN ?_
  refine AW.seq ?_
  refine AW.seq ?_
  refine AW.reg ?_
  refine Lp (V_move rfl rfl) rfl rfl ?_
  refine Ls rfl rfl (X_call rfl Tryz.func55 rfl rfl rfl (ACalls.mono h ?_))
  rintro v σ ⟨x7_1, rfl, h⟩
  refine Lp (V_neq rfl rfl rfl) rfl rfl ?_
  refine Lp (V_move rfl rfl) rfl rfl ?_
  refine LsplitJ 4 (!(decide (x7_1 = 0))) (bnot_iff decide_eq_true_iff) h (fun fr σ => ∃ (x13_3 : Bool), FrLe [(0, .string a0), (1, .string a1), (13, .bool x13_3)] fr ∧ j2_path_Under B ro a0 a1 Q x13_3 σ) ?_ ?_ ?_
  · intro h e3 hk3
    refine Ln rfl rfl rfl rfl (.inl (by rw [e3]; rfl)) ?_
    refine Ln rfl rfl rfl rfl (.inl (by rw [e3]; rfl)) ?_
    refine Ln rfl rfl rfl rfl (.inl (by rw [e3]; rfl)) ?_
    refine Lp (V_pickT rfl (evb e3) rfl) rfl rfl ?_
    exact hk3 _ _ ⟨_, (FrLe.cons rfl (FrLe.cons rfl (FrLe.cons rfl (FrLe.nil _)))), h⟩
  · intro h e3 hk3
    refine Lypb (V_move rfl rfl) rfl rfl rfl rfl e3 ?_
    refine Lyb rfl rfl rfl rfl e3 (X_call rfl Tryz.func55 rfl rfl rfl (ACalls.mono h ?_))
    rintro v σ ⟨x11_7, rfl, h⟩
    refine Lypb (V_neq rfl rfl rfl) rfl rfl rfl rfl e3 ?_
    refine Lp (V_pickF rfl (evb e3) rfl) rfl rfl ?_
    exact hk3 _ _ ⟨_, (FrLe.cons rfl (FrLe.cons rfl (FrLe.cons rfl (FrLe.nil _)))), h⟩
  rintro fr σ ⟨x13_3, hl, h⟩
  unfold j2_path_Under at h
  refine Lfr hl ?_
  refine Lnil ?_
  refine thenN ?_
  refine AW.iff rfl Iff.rfl h (fun h => ?_) (fun h => ?_)
  · refine AW.seq ?_
    refine AW.reg ?_
    refine Lp (V_asg rfl rfl) rfl rfl ?_
    refine Lp (V_asg rfl rfl) rfl rfl ?_
    refine Lnil ?_
    refine thenN ?_
    refine AW.ret ?_
    refine thenR ?_
    exact bR2 Tryz.results59 rfl rfl ⟨_, _, rfl, h⟩
  refine AW.skip ?_
  refine thenN ?_
  refine AW.seq ?_
  refine AW.reg ?_
  refine Lp (V_move rfl rfl) rfl rfl ?_
  refine Lp (V_eqlS rfl rfl rfl) rfl rfl ?_
  refine Lp (V_move rfl rfl) rfl rfl ?_
  refine Lsplit 4 (decide (a0 = (⟨#[47]⟩ : ByteArray))) [(0, .string a0), (1, .string a1), (20, .bool ((decide (a0 = (⟨#[47]⟩ : ByteArray))) || (decide (a1 = a0))))] ?_ ?_ ?_
  · intro e2 hk2
    refine Ln rfl rfl rfl rfl (.inl (by rw [e2]; rfl)) ?_
    refine Ln rfl rfl rfl rfl (.inl (by rw [e2]; rfl)) ?_
    refine Ln rfl rfl rfl rfl (.inl (by rw [e2]; rfl)) ?_
    refine Lp (V_pickT rfl (evb e2) rfl) rfl rfl ?_
    exact hk2 _ (FrLe.cons rfl (FrLe.cons rfl (FrLe.cons (by rw [e2]; rfl) (FrLe.nil _))))
  · intro e2 hk2
    refine Lypb (V_move rfl rfl) rfl rfl rfl rfl e2 ?_
    refine Lypb (V_move rfl rfl) rfl rfl rfl rfl e2 ?_
    refine Lypb (V_eqlS rfl rfl rfl) rfl rfl rfl rfl e2 ?_
    refine Lp (V_pickF rfl (evb e2) rfl) rfl rfl ?_
    exact hk2 _ (FrLe.cons rfl (FrLe.cons rfl (FrLe.cons (by rw [e2]; rfl) (FrLe.nil _))))
  intro fr hl
  refine Lfr hl ?_
  refine Lp (V_move rfl rfl) rfl rfl ?_
  refine LsplitJ 5 ((decide (a0 = (⟨#[47]⟩ : ByteArray))) || (decide (a1 = a0))) (bor_iff decide_eq_true_iff decide_eq_true_iff) h (fun fr σ => ∃ (x26_5 : Bool), FrLe [(26, .bool x26_5)] fr ∧ j4_path_Under B ro Q x26_5 σ) ?_ ?_ ?_
  · intro h e7 hk7
    refine Ln rfl rfl rfl rfl (.inl (by rw [e7]; rfl)) ?_
    refine Ln rfl rfl rfl rfl (.inl (by rw [e7]; rfl)) ?_
    refine Ln rfl rfl rfl rfl (.inl (by rw [e7]; rfl)) ?_
    refine Ln rfl rfl rfl rfl (.inl (by rw [e7]; rfl)) ?_
    refine Lp (V_pickT rfl (evb e7) rfl) rfl rfl ?_
    exact hk7 _ _ ⟨_, (FrLe.cons rfl (FrLe.nil _)), h⟩
  · intro h e7 hk7
    refine Lypb (V_move rfl rfl) rfl rfl rfl rfl e7 ?_
    refine Lypb (V_move rfl rfl) rfl rfl rfl rfl e7 ?_
    obtain ⟨hc, h⟩ := h
    refine Lypb (V_cat rfl rfl rfl hc) rfl rfl rfl rfl e7 ?_
    refine Lyb rfl rfl rfl rfl e7 (X_call rfl Tryz.func110 rfl rfl rfl (ACalls.mono h ?_))
    rintro v σ ⟨x25_6, rfl, h⟩
    refine Lp (V_pickF rfl (evb e7) rfl) rfl rfl ?_
    exact hk7 _ _ ⟨_, (FrLe.cons rfl (FrLe.nil _)), h⟩
  rintro fr σ ⟨x26_5, hl, h⟩
  unfold j4_path_Under at h
  refine Lfr hl ?_
  refine Lp (V_asg rfl rfl) rfl rfl ?_
  refine Lp (V_asg rfl rfl) rfl rfl ?_
  refine Lnil ?_
  refine thenN ?_
  refine AW.ret ?_
  exact bR2 Tryz.results59 rfl rfl ⟨_, _, rfl, h⟩

def j1_path_Parent (B : World) (ro : AH) (a0 : ByteArray) (Q : ByteArray → Int → AH → Prop) (x10_2 : Bool) (σ : AH) : Prop :=
 if x10_2 = true then
  Q (⟨#[]⟩ : ByteArray) 20 σ
 else
 c_strings_LastIndexByte B ro a0 47 σ fun x13_3 σ =>
 cutOk none (some (if 1 < x13_3 then x13_3 else 1)) a0.size a0.size ∧
 Q (a0.extract (0) (Int.toNat (if 1 < x13_3 then x13_3 else 1))) 0 σ

def f_path_Parent (B : World) (ro : AH) (a0 : ByteArray) (σ : AH) (Q : ByteArray → Int → AH → Prop) : Prop :=
 if a0 = (⟨#[47]⟩ : ByteArray) then
  j1_path_Parent B ro a0 Q true σ
 else
 c_path_Check B ro a0 σ fun x8_4 σ =>
 j1_path_Parent B ro a0 Q (!(decide (x8_4 = 0))) σ

set_option maxRecDepth 100000 in
set_option maxHeartbeats 4000000 in
theorem path_Parent_ok {B : World} {ro : AH} {a0 : ByteArray} {σ : AH} {Q : ByteArray → Int → AH → Prop} (h : Sep ro σ → f_path_Parent B ro a0 σ Q) : c_path_Parent B ro a0 σ Q := by
  refine ACalls.of_sep fun hsep => ?_
  replace h := h hsep
  refine ACalls.of_body (args := [.string a0]) Tryz.func62 rfl (by rw [Tryz.ntmps62]; simp) ?_
  rw [Tryz.ntmps62]
  unfold f_path_Parent at h
  refine AW.seq ?_
  refine AW.reg ?_
  refine Lp (V_asg rfl rfl) rfl rfl ?_
  refine Lp (V_asg rfl rfl) rfl rfl ?_
  refine Lnil ?_
  refine thenN ?_
  refine AW.seq ?_
  refine AW.seq ?_
  refine AW.reg ?_
  refine Lp (V_move rfl rfl) rfl rfl ?_
  refine Lp (V_eqlS rfl rfl rfl) rfl rfl ?_
  refine Lp (V_move rfl rfl) rfl rfl ?_
  refine LsplitJ 4 (decide (a0 = (⟨#[47]⟩ : ByteArray))) decide_eq_true_iff h (fun fr σ => ∃ (x10_2 : Bool), FrLe [(0, .string a0), (10, .bool x10_2)] fr ∧ j1_path_Parent B ro a0 Q x10_2 σ) ?_ ?_ ?_
  · intro h e2 hk2
    refine Ln rfl rfl rfl rfl (.inl (by rw [e2]; rfl)) ?_
    refine Ln rfl rfl rfl rfl (.inl (by rw [e2]; rfl)) ?_
    refine Ln rfl rfl rfl rfl (.inl (by rw [e2]; rfl)) ?_
    refine Lp (V_pickT rfl (evb e2) rfl) rfl rfl ?_
    exact hk2 _ _ ⟨_, (FrLe.cons rfl (FrLe.cons rfl (FrLe.nil _))), h⟩
  · intro h e2 hk2
    refine Lypb (V_move rfl rfl) rfl rfl rfl rfl e2 ?_
    refine Lyb rfl rfl rfl rfl e2 (X_call rfl Tryz.func55 rfl rfl rfl (ACalls.mono h ?_))
    rintro v σ ⟨x8_4, rfl, h⟩
    refine Lypb (V_neq rfl rfl rfl) rfl rfl rfl rfl e2 ?_
    refine Lp (V_pickF rfl (evb e2) rfl) rfl rfl ?_
    exact hk2 _ _ ⟨_, (FrLe.cons rfl (FrLe.cons rfl (FrLe.nil _))), h⟩
  rintro fr σ ⟨x10_2, hl, h⟩
  unfold j1_path_Parent at h
  refine Lfr hl ?_
  refine Lnil ?_
  refine thenN ?_
  refine AW.iff rfl Iff.rfl h (fun h => ?_) (fun h => ?_)
  · refine AW.seq ?_
    refine AW.reg ?_
    refine Lp (V_asg rfl rfl) rfl rfl ?_
    refine Lp (V_asg rfl rfl) rfl rfl ?_
    refine Lnil ?_
    refine thenN ?_
    refine AW.ret ?_
    refine thenR ?_
    exact bR2 Tryz.results62 rfl rfl ⟨_, _, rfl, h⟩
  refine AW.skip ?_
  refine thenN ?_
  refine AW.seq ?_
  refine AW.reg ?_
  refine Lp (V_move rfl rfl) rfl rfl ?_
  refine Lp (V_move rfl rfl) rfl rfl ?_
  refine Ls rfl rfl (X_call rfl Tryz.func111 rfl rfl rfl (ACalls.mono h ?_))
  rintro v σ ⟨x13_3, rfl, h⟩
  refine Lp (V_max2 rfl rfl) rfl rfl ?_
  obtain ⟨hc, h⟩ := h
  refine Lp (V_slS (lo := none) (hi := (some (if 1 < x13_3 then x13_3 else 1))) rfl Tryz.underlying9 rfl optI_none (optI_some rfl) hc) rfl rfl ?_
  refine Lp (V_asg rfl rfl) rfl rfl ?_
  refine Lp (V_asg rfl rfl) rfl rfl ?_
  refine Lnil ?_
  refine thenN ?_
  refine AW.ret ?_
  exact bR2 Tryz.results62 rfl rfl ⟨_, _, rfl, h⟩

def j1_path_Base (B : World) (ro : AH) (a0 : ByteArray) (Q : ByteArray → Int → AH → Prop) (x10_2 : Bool) (σ : AH) : Prop :=
 if x10_2 = true then
  Q (⟨#[]⟩ : ByteArray) 20 σ
 else
 c_strings_LastIndexByte B ro a0 47 σ fun x13_3 σ =>
 cutOk (some (IntKind.i64.wrap (x13_3 + 1))) none a0.size a0.size ∧
 Q (a0.extract (Int.toNat (IntKind.i64.wrap (x13_3 + 1))) (a0.size)) 0 σ

def f_path_Base (B : World) (ro : AH) (a0 : ByteArray) (σ : AH) (Q : ByteArray → Int → AH → Prop) : Prop :=
 if a0 = (⟨#[47]⟩ : ByteArray) then
  j1_path_Base B ro a0 Q true σ
 else
 c_path_Check B ro a0 σ fun x8_4 σ =>
 j1_path_Base B ro a0 Q (!(decide (x8_4 = 0))) σ

set_option maxRecDepth 100000 in
set_option maxHeartbeats 4000000 in
theorem path_Base_ok {B : World} {ro : AH} {a0 : ByteArray} {σ : AH} {Q : ByteArray → Int → AH → Prop} (h : Sep ro σ → f_path_Base B ro a0 σ Q) : c_path_Base B ro a0 σ Q := by
  refine ACalls.of_sep fun hsep => ?_
  replace h := h hsep
  refine ACalls.of_body (args := [.string a0]) Tryz.func63 rfl (by rw [Tryz.ntmps63]; simp) ?_
  rw [Tryz.ntmps63]
  unfold f_path_Base at h
  refine AW.seq ?_
  refine AW.reg ?_
  refine Lp (V_asg rfl rfl) rfl rfl ?_
  refine Lp (V_asg rfl rfl) rfl rfl ?_
  refine Lnil ?_
  refine thenN ?_
  refine AW.seq ?_
  refine AW.seq ?_
  refine AW.reg ?_
  refine Lp (V_move rfl rfl) rfl rfl ?_
  refine Lp (V_eqlS rfl rfl rfl) rfl rfl ?_
  refine Lp (V_move rfl rfl) rfl rfl ?_
  refine LsplitJ 4 (decide (a0 = (⟨#[47]⟩ : ByteArray))) decide_eq_true_iff h (fun fr σ => ∃ (x10_2 : Bool), FrLe [(0, .string a0), (10, .bool x10_2)] fr ∧ j1_path_Base B ro a0 Q x10_2 σ) ?_ ?_ ?_
  · intro h e2 hk2
    refine Ln rfl rfl rfl rfl (.inl (by rw [e2]; rfl)) ?_
    refine Ln rfl rfl rfl rfl (.inl (by rw [e2]; rfl)) ?_
    refine Ln rfl rfl rfl rfl (.inl (by rw [e2]; rfl)) ?_
    refine Lp (V_pickT rfl (evb e2) rfl) rfl rfl ?_
    exact hk2 _ _ ⟨_, (FrLe.cons rfl (FrLe.cons rfl (FrLe.nil _))), h⟩
  · intro h e2 hk2
    refine Lypb (V_move rfl rfl) rfl rfl rfl rfl e2 ?_
    refine Lyb rfl rfl rfl rfl e2 (X_call rfl Tryz.func55 rfl rfl rfl (ACalls.mono h ?_))
    rintro v σ ⟨x8_4, rfl, h⟩
    refine Lypb (V_neq rfl rfl rfl) rfl rfl rfl rfl e2 ?_
    refine Lp (V_pickF rfl (evb e2) rfl) rfl rfl ?_
    exact hk2 _ _ ⟨_, (FrLe.cons rfl (FrLe.cons rfl (FrLe.nil _))), h⟩
  rintro fr σ ⟨x10_2, hl, h⟩
  unfold j1_path_Base at h
  refine Lfr hl ?_
  refine Lnil ?_
  refine thenN ?_
  refine AW.iff rfl Iff.rfl h (fun h => ?_) (fun h => ?_)
  · refine AW.seq ?_
    refine AW.reg ?_
    refine Lp (V_asg rfl rfl) rfl rfl ?_
    refine Lp (V_asg rfl rfl) rfl rfl ?_
    refine Lnil ?_
    refine thenN ?_
    refine AW.ret ?_
    refine thenR ?_
    exact bR2 Tryz.results63 rfl rfl ⟨_, _, rfl, h⟩
  refine AW.skip ?_
  refine thenN ?_
  refine AW.seq ?_
  refine AW.reg ?_
  refine Lp (V_move rfl rfl) rfl rfl ?_
  refine Lp (V_move rfl rfl) rfl rfl ?_
  refine Ls rfl rfl (X_call rfl Tryz.func111 rfl rfl rfl (ACalls.mono h ?_))
  rintro v σ ⟨x13_3, rfl, h⟩
  refine Lp (V_add rfl rfl rfl) rfl rfl ?_
  obtain ⟨hc, h⟩ := h
  refine Lp (V_slS (lo := (some (IntKind.i64.wrap (x13_3 + 1)))) (hi := none) rfl Tryz.underlying9 rfl (optI_some rfl) optI_none hc) rfl rfl ?_
  refine Lp (V_asg rfl rfl) rfl rfl ?_
  refine Lp (V_asg rfl rfl) rfl rfl ?_
  refine Lnil ?_
  refine thenN ?_
  refine AW.ret ?_
  exact bR2 Tryz.results63 rfl rfl ⟨_, _, rfl, h⟩

def j1_path_Suffix (B : World) (ro : AH) (a0 : ByteArray) (a1 : Int) (Q : ByteArray → Int → AH → Prop) (x22_2 : Bool) (σ : AH) : Prop :=
 if x22_2 = true then
  Q (⟨#[]⟩ : ByteArray) 20 σ
 else
 c_strconv_Itoa B ro a1 σ fun x24_3 σ =>
 c_strings_Repeat B ro (⟨#[48]⟩ : ByteArray) (IntKind.i64.wrap (10 - (x24_3.size : Int))) σ fun x29_4 σ =>
 x29_4.size + x24_3.size ≤ 9223372036854775807 ∧
 a0.size + (x29_4 ++ x24_3).size ≤ 9223372036854775807 ∧
 c_path_Check B ro (a0 ++ (x29_4 ++ x24_3)) σ fun x34_5 σ =>
 if ¬ (x34_5 = 0) then
  Q (⟨#[]⟩ : ByteArray) x34_5 σ
 else
 Q (a0 ++ (x29_4 ++ x24_3)) 0 σ

def f_path_Suffix (B : World) (ro : AH) (a0 : ByteArray) (a1 : Int) (σ : AH) (Q : ByteArray → Int → AH → Prop) : Prop :=
 if ((a0 = (⟨#[47]⟩ : ByteArray)) ∨ (a1 < 0)) ∨ (9999999999 < a1) then
  j1_path_Suffix B ro a0 a1 Q true σ
 else
 c_path_Check B ro a0 σ fun x20_6 σ =>
 j1_path_Suffix B ro a0 a1 Q (!(decide (x20_6 = 0))) σ

set_option maxRecDepth 100000 in
set_option maxHeartbeats 4000000 in
theorem path_Suffix_ok {B : World} {ro : AH} {a0 : ByteArray} {a1 : Int} {σ : AH} {Q : ByteArray → Int → AH → Prop} (h : Sep ro σ → f_path_Suffix B ro a0 a1 σ Q) : c_path_Suffix B ro a0 a1 σ Q := by
  refine ACalls.of_sep fun hsep => ?_
  replace h := h hsep
  refine ACalls.of_body (args := [.string a0, .int .i64 a1]) Tryz.func71 rfl (by rw [Tryz.ntmps71]; simp) ?_
  rw [Tryz.ntmps71]
  unfold f_path_Suffix at h
  refine AW.seq ?_
  refine AW.reg ?_
  refine Lp (V_asg rfl rfl) rfl rfl ?_
  refine Lp (V_asg rfl rfl) rfl rfl ?_
  refine Lnil ?_
  refine thenN ?_
  refine AW.seq ?_
  refine AW.seq ?_
  refine AW.reg ?_
  refine Lp (V_move rfl rfl) rfl rfl ?_
  refine Lp (V_eqlS rfl rfl rfl) rfl rfl ?_
  refine Lp (V_move rfl rfl) rfl rfl ?_
  refine Lsplit 3 (decide (a0 = (⟨#[47]⟩ : ByteArray))) [(0, .string a0), (1, .int .i64 a1), (13, .bool ((decide (a0 = (⟨#[47]⟩ : ByteArray))) || (decide (a1 < 0))))] ?_ ?_ ?_
  · intro e2 hk2
    refine Ln rfl rfl rfl rfl (.inl (by rw [e2]; rfl)) ?_
    refine Ln rfl rfl rfl rfl (.inl (by rw [e2]; rfl)) ?_
    refine Lp (V_pickT rfl (evb e2) rfl) rfl rfl ?_
    exact hk2 _ (FrLe.cons rfl (FrLe.cons rfl (FrLe.cons (by rw [e2]; rfl) (FrLe.nil _))))
  · intro e2 hk2
    refine Lypb (V_move rfl rfl) rfl rfl rfl rfl e2 ?_
    refine Lypb (V_lss rfl rfl rfl) rfl rfl rfl rfl e2 ?_
    refine Lp (V_pickF rfl (evb e2) rfl) rfl rfl ?_
    exact hk2 _ (FrLe.cons rfl (FrLe.cons rfl (FrLe.cons (by rw [e2]; rfl) (FrLe.nil _))))
  intro fr hl
  refine Lfr hl ?_
  refine Lp (V_move rfl rfl) rfl rfl ?_
  refine Lsplit 3 ((decide (a0 = (⟨#[47]⟩ : ByteArray))) || (decide (a1 < 0))) [(0, .string a0), (1, .int .i64 a1), (17, .bool (((decide (a0 = (⟨#[47]⟩ : ByteArray))) || (decide (a1 < 0))) || (decide (9999999999 < a1))))] ?_ ?_ ?_
  · intro e6 hk6
    refine Ln rfl rfl rfl rfl (.inl (by rw [e6]; rfl)) ?_
    refine Ln rfl rfl rfl rfl (.inl (by rw [e6]; rfl)) ?_
    refine Lp (V_pickT rfl (evb e6) rfl) rfl rfl ?_
    exact hk6 _ (FrLe.cons rfl (FrLe.cons rfl (FrLe.cons (by rw [e6]; rfl) (FrLe.nil _))))
  · intro e6 hk6
    refine Lypb (V_move rfl rfl) rfl rfl rfl rfl e6 ?_
    refine Lypb (V_gtr rfl rfl rfl) rfl rfl rfl rfl e6 ?_
    refine Lp (V_pickF rfl (evb e6) rfl) rfl rfl ?_
    exact hk6 _ (FrLe.cons rfl (FrLe.cons rfl (FrLe.cons (by rw [e6]; rfl) (FrLe.nil _))))
  intro fr hl
  refine Lfr hl ?_
  refine Lp (V_move rfl rfl) rfl rfl ?_
  refine LsplitJ 4 (((decide (a0 = (⟨#[47]⟩ : ByteArray))) || (decide (a1 < 0))) || (decide (9999999999 < a1))) (bor_iff (bor_iff decide_eq_true_iff decide_eq_true_iff) decide_eq_true_iff) h (fun fr σ => ∃ (x22_2 : Bool), FrLe [(0, .string a0), (1, .int .i64 a1), (22, .bool x22_2)] fr ∧ j1_path_Suffix B ro a0 a1 Q x22_2 σ) ?_ ?_ ?_
  · intro h e10 hk10
    refine Ln rfl rfl rfl rfl (.inl (by rw [e10]; rfl)) ?_
    refine Ln rfl rfl rfl rfl (.inl (by rw [e10]; rfl)) ?_
    refine Ln rfl rfl rfl rfl (.inl (by rw [e10]; rfl)) ?_
    refine Lp (V_pickT rfl (evb e10) rfl) rfl rfl ?_
    exact hk10 _ _ ⟨_, (FrLe.cons rfl (FrLe.cons rfl (FrLe.cons rfl (FrLe.nil _)))), h⟩
  · intro h e10 hk10
    refine Lypb (V_move rfl rfl) rfl rfl rfl rfl e10 ?_
    refine Lyb rfl rfl rfl rfl e10 (X_call rfl Tryz.func55 rfl rfl rfl (ACalls.mono h ?_))
    rintro v σ ⟨x20_6, rfl, h⟩
    refine Lypb (V_neq rfl rfl rfl) rfl rfl rfl rfl e10 ?_
    refine Lp (V_pickF rfl (evb e10) rfl) rfl rfl ?_
    exact hk10 _ _ ⟨_, (FrLe.cons rfl (FrLe.cons rfl (FrLe.cons rfl (FrLe.nil _)))), h⟩
  rintro fr σ ⟨x22_2, hl, h⟩
  unfold j1_path_Suffix at h
  refine Lfr hl ?_
  refine Lnil ?_
  refine thenN ?_
  refine AW.iff rfl Iff.rfl h (fun h => ?_) (fun h => ?_)
  · refine AW.seq ?_
    refine AW.reg ?_
    refine Lp (V_asg rfl rfl) rfl rfl ?_
    refine Lp (V_asg rfl rfl) rfl rfl ?_
    refine Lnil ?_
    refine thenN ?_
    refine AW.ret ?_
    refine thenR ?_
    exact bR2 Tryz.results71 rfl rfl ⟨_, _, rfl, h⟩
  refine AW.skip ?_
  refine thenN ?_
  refine AW.seq ?_
  refine AW.reg ?_
  refine Lp (V_move rfl rfl) rfl rfl ?_
  refine Ls rfl rfl (X_call rfl Tryz.func117 rfl rfl rfl (ACalls.mono h ?_))
  rintro v σ ⟨x24_3, rfl, h⟩
  refine Lp (V_asg rfl rfl) rfl rfl ?_
  refine Lnil ?_
  refine thenN ?_
  refine AW.seq ?_
  refine AW.reg ?_
  refine Lp (V_move rfl rfl) rfl rfl ?_
  refine Lp (V_move rfl rfl) rfl rfl ?_
  refine Lp (V_lenS rfl rfl Tryz.underlying9 rfl rfl) rfl rfl ?_
  refine Lp (V_sub rfl rfl rfl) rfl rfl ?_
  refine Ls rfl rfl (X_call rfl Tryz.func118 rfl rfl rfl (ACalls.mono h ?_))
  rintro v σ ⟨x29_4, rfl, h⟩
  refine Lp (V_move rfl rfl) rfl rfl ?_
  obtain ⟨hc, h⟩ := h
  refine Lp (V_cat rfl rfl rfl hc) rfl rfl ?_
  obtain ⟨hc, h⟩ := h
  refine Lp (V_cat rfl rfl rfl hc) rfl rfl ?_
  refine Lp (V_asg rfl rfl) rfl rfl ?_
  refine Lnil ?_
  refine thenN ?_
  refine AW.seq ?_
  refine AW.seq ?_
  refine AW.reg ?_
  refine Lp (V_move rfl rfl) rfl rfl ?_
  refine Ls rfl rfl (X_call rfl Tryz.func55 rfl rfl rfl (ACalls.mono h ?_))
  rintro v σ ⟨x34_5, rfl, h⟩
  refine Lp (V_asg rfl rfl) rfl rfl ?_
  refine Lnil ?_
  refine thenN ?_
  refine AW.seq ?_
  refine AW.reg ?_
  refine Lp (V_move rfl rfl) rfl rfl ?_
  refine Lp (V_neq rfl rfl rfl) rfl rfl ?_
  refine Lnil ?_
  refine thenN ?_
  refine AW.iff rfl (bnot_iff decide_eq_true_iff) h (fun h => ?_) (fun h => ?_)
  · refine AW.seq ?_
    refine AW.reg ?_
    refine Lp (V_move rfl rfl) rfl rfl ?_
    refine Lp (V_asg rfl rfl) rfl rfl ?_
    refine Lp (V_asg rfl rfl) rfl rfl ?_
    refine Lnil ?_
    refine thenN ?_
    refine AW.ret ?_
    refine thenR ?_
    exact bR2 Tryz.results71 rfl rfl ⟨_, _, rfl, h⟩
  refine AW.skip ?_
  refine thenN ?_
  refine AW.seq ?_
  refine AW.reg ?_
  refine Lp (V_move rfl rfl) rfl rfl ?_
  refine Lp (V_asg rfl rfl) rfl rfl ?_
  refine Lp (V_asg rfl rfl) rfl rfl ?_
  refine Lnil ?_
  refine thenN ?_
  refine AW.ret ?_
  exact bR2 Tryz.results71 rfl rfl ⟨_, _, rfl, h⟩

def j4_path_Parts (B : World) (ro : AH) (x19_3 : Sl) (Q : Sl → Int → AH → Prop) (σ : AH) : Prop :=
 Q x19_3 0 σ

def l5_path_Parts (B : World) (ro : AH) (x19_3 : Sl) (Q : Sl → Int → AH → Prop) : (Int) → AH → ((Int) → AH → Prop) → Prop := fun x25_6 σ Y5 =>
 if x25_6 < (x19_3.len : Int) then
  ∃ p27_7 : Addr, x19_3.a = some p27_7 ∧ (0 : Int) ≤ x25_6 ∧ x25_6 < (x19_3.len : Int) ∧
  ∃ (x28_8 : ByteArray), acell ro σ (p27_7.add (Int.toNat x25_6 * 1)) = some (.string x28_8) ∧
  c_path_Name B ro x28_8 σ fun x30_9 σ =>
  if ¬ (x30_9 = true) then
   Q (⟨none, 0, 0⟩ : Sl) 20 σ
  else
  Y5 (IntKind.i64.wrap (x25_6 + 1)) σ
 else
 j4_path_Parts B ro x19_3 Q σ

def j1_path_Parts (B : World) (ro : AH) (a0 : ByteArray) (Q : Sl → Int → AH → Prop) (x16_2 : Bool) (σ : AH) : Prop :=
 if x16_2 = true then
  Q (⟨none, 0, 0⟩ : Sl) 20 σ
 else
 cutOk (some 1) none a0.size a0.size ∧
 c_strings_Split B ro (a0.extract (Int.toNat 1) (a0.size)) (⟨#[47]⟩ : ByteArray) σ fun x19_3 σ =>
 if 8 < (x19_3.len : Int) then
  Q (⟨none, 0, 0⟩ : Sl) 20 σ
 else
 lfpD (l5_path_Parts B ro x19_3 Q ) (0) σ

def f_path_Parts (B : World) (ro : AH) (a0 : ByteArray) (σ : AH) (Q : Sl → Int → AH → Prop) : Prop :=
 if a0 = (⟨#[47]⟩ : ByteArray) then
  Q (⟨none, 0, 0⟩ : Sl) 0 σ
 else
 if 128 < (a0.size : Int) then
  j1_path_Parts B ro a0 Q true σ
 else
 c_strings_HasPrefix B ro a0 (⟨#[47]⟩ : ByteArray) σ fun x14_10 σ =>
 j1_path_Parts B ro a0 Q (!x14_10) σ

set_option maxRecDepth 100000 in
set_option maxHeartbeats 4000000 in
theorem path_Parts_ok {B : World} {ro : AH} {a0 : ByteArray} {σ : AH} {Q : Sl → Int → AH → Prop} (h : Sep ro σ → f_path_Parts B ro a0 σ Q) : c_path_Parts B ro a0 σ Q := by
  refine ACalls.of_sep fun hsep => ?_
  replace h := h hsep
  refine ACalls.of_body (args := [.string a0]) Tryz.func106 rfl (by rw [Tryz.ntmps106]; simp) ?_
  rw [Tryz.ntmps106]
  unfold f_path_Parts at h
  refine AW.seq ?_
  refine AW.reg ?_
  refine Lp (V_asg rfl rfl) rfl rfl ?_
  refine Lp (V_asg rfl rfl) rfl rfl ?_
  refine Lnil ?_
  refine thenN ?_
  refine AW.seq ?_
  refine AW.seq ?_
  refine AW.reg ?_
  refine Lp (V_move rfl rfl) rfl rfl ?_
  refine Lp (V_eqlS rfl rfl rfl) rfl rfl ?_
  refine Lnil ?_
  refine thenN ?_
  refine AW.iff rfl decide_eq_true_iff h (fun h => ?_) (fun h => ?_)
  · refine AW.seq ?_
    refine AW.reg ?_
    refine Lp (V_asg rfl rfl) rfl rfl ?_
    refine Lp (V_asg rfl rfl) rfl rfl ?_
    refine Lnil ?_
    refine thenN ?_
    refine AW.ret ?_
    refine thenR ?_
    exact bR2 Tryz.results106 rfl rfl ⟨_, _, rfl, h⟩
  refine AW.skip ?_
  refine thenN ?_
  refine AW.seq ?_
  refine AW.seq ?_
  refine AW.reg ?_
  refine Lp (V_move rfl rfl) rfl rfl ?_
  refine Lp (V_lenS rfl rfl Tryz.underlying9 rfl rfl) rfl rfl ?_
  refine Lp (V_gtr rfl rfl rfl) rfl rfl ?_
  refine Lp (V_move rfl rfl) rfl rfl ?_
  refine LsplitJ 4 (decide (128 < (a0.size : Int))) decide_eq_true_iff h (fun fr σ => ∃ (x16_2 : Bool), FrLe [(0, .string a0), (16, .bool x16_2)] fr ∧ j1_path_Parts B ro a0 Q x16_2 σ) ?_ ?_ ?_
  · intro h e3 hk3
    refine Ln rfl rfl rfl rfl (.inl (by rw [e3]; rfl)) ?_
    refine Ln rfl rfl rfl rfl (.inl (by rw [e3]; rfl)) ?_
    refine Ln rfl rfl rfl rfl (.inl (by rw [e3]; rfl)) ?_
    refine Lp (V_pickT rfl (evb e3) rfl) rfl rfl ?_
    exact hk3 _ _ ⟨_, (FrLe.cons rfl (FrLe.cons rfl (FrLe.nil _))), h⟩
  · intro h e3 hk3
    refine Lypb (V_move rfl rfl) rfl rfl rfl rfl e3 ?_
    refine Lyb rfl rfl rfl rfl e3 (X_call rfl Tryz.func110 rfl rfl rfl (ACalls.mono h ?_))
    rintro v σ ⟨x14_10, rfl, h⟩
    refine Lypb (V_not rfl rfl) rfl rfl rfl rfl e3 ?_
    refine Lp (V_pickF rfl (evb e3) rfl) rfl rfl ?_
    exact hk3 _ _ ⟨_, (FrLe.cons rfl (FrLe.cons rfl (FrLe.nil _))), h⟩
  rintro fr σ ⟨x16_2, hl, h⟩
  unfold j1_path_Parts at h
  refine Lfr hl ?_
  refine Lnil ?_
  refine thenN ?_
  refine AW.iff rfl Iff.rfl h (fun h => ?_) (fun h => ?_)
  · refine AW.seq ?_
    refine AW.reg ?_
    refine Lp (V_asg rfl rfl) rfl rfl ?_
    refine Lp (V_asg rfl rfl) rfl rfl ?_
    refine Lnil ?_
    refine thenN ?_
    refine AW.ret ?_
    refine thenR ?_
    exact bR2 Tryz.results106 rfl rfl ⟨_, _, rfl, h⟩
  refine AW.skip ?_
  refine thenN ?_
  refine AW.seq ?_
  refine AW.reg ?_
  refine Lp (V_move rfl rfl) rfl rfl ?_
  obtain ⟨hc, h⟩ := h
  refine Lp (V_slS (lo := (some 1)) (hi := none) rfl Tryz.underlying9 rfl (optI_some rfl) optI_none hc) rfl rfl ?_
  refine Ls rfl rfl (X_call rfl Tryz.func128 rfl rfl rfl (ACalls.mono h ?_))
  rintro v σ ⟨x19_3, rfl, h⟩
  refine Lp (V_asg rfl rfl) rfl rfl ?_
  refine Lnil ?_
  refine thenN ?_
  refine AW.seq ?_
  refine AW.seq ?_
  refine AW.reg ?_
  refine Lp (V_move rfl rfl) rfl rfl ?_
  refine Lp (V_lenL rfl rfl Tryz.underlying25 rfl rfl) rfl rfl ?_
  refine Lp (V_gtr rfl rfl rfl) rfl rfl ?_
  refine Lnil ?_
  refine thenN ?_
  refine AW.iff rfl decide_eq_true_iff h (fun h => ?_) (fun h => ?_)
  · refine AW.seq ?_
    refine AW.reg ?_
    refine Lp (V_asg rfl rfl) rfl rfl ?_
    refine Lp (V_asg rfl rfl) rfl rfl ?_
    refine Lnil ?_
    refine thenN ?_
    refine AW.ret ?_
    refine thenR ?_
    exact bR2 Tryz.results106 rfl rfl ⟨_, _, rfl, h⟩
  refine AW.skip ?_
  refine thenN ?_
  refine AW.seqJ (fun fr σ => FrLe [(4, Sl.v x19_3)] fr ∧ j4_path_Parts B ro x19_3 Q σ) ?_ ?_
  · rintro fr σ ⟨hl, h⟩
    refine AW.weaken ?_ hl (HLe.refl _)
    unfold j4_path_Parts at h
    refine AW.seq ?_
    refine AW.reg ?_
    refine Lp (V_move rfl rfl) rfl rfl ?_
    refine Lp (V_asg rfl rfl) rfl rfl ?_
    refine Lp (V_asg rfl rfl) rfl rfl ?_
    refine Lnil ?_
    refine thenN ?_
    refine AW.ret ?_
    exact bR2 Tryz.results106 rfl rfl ⟨_, _, rfl, h⟩
  refine AW.seq ?_
  refine AW.reg ?_
  refine Lp (V_move rfl rfl) rfl rfl ?_
  refine Lp (V_lenL rfl rfl Tryz.underlying25 rfl rfl) rfl rfl ?_
  refine Lp (V_move rfl rfl) rfl rfl ?_
  refine Lnil ?_
  refine thenN ?_
  refine AW.block ?_
  refine ARound.loop (fr' := [(4, Sl.v x19_3), (23, Sl.v x19_3), (24, .int .i64 (x19_3.len : Int)), (25, .int .i64 0)]) ?_ (FrLe.cons rfl (FrLe.cons rfl (FrLe.cons rfl (FrLe.cons rfl (FrLe.nil _)))))
  refine h (fun x25_6 σ => ARound _ _ _ _ _ _ [(4, Sl.v x19_3), (23, Sl.v x19_3), (24, .int .i64 (x19_3.len : Int)), (25, .int .i64 x25_6)] σ) ?_
  rintro x25_6 σ Y5 hY5 h
  show AW _ _ _ _ _ _ _ _
  unfold l5_path_Parts at h
  refine AW.seq ?_
  refine AW.reg ?_
  refine Lp (V_lss rfl rfl rfl) rfl rfl ?_
  refine Lnil ?_
  refine thenN ?_
  refine AW.seq ?_
  refine AW.iff rfl decide_eq_true_iff h (fun h => ?_) (fun h => ?_)
  rotate_left
  · refine AW.exit ?_
    refine thenE ?_
    refine thenE ?_
    refine blockE ?_
    refine thenN ?_
    exact ⟨(FrLe.cons rfl (FrLe.nil _)), h⟩
  refine AW.skip ?_
  refine thenN ?_
  refine AW.seq ?_
  refine AW.block ?_
  refine AW.seq ?_
  refine AW.reg ?_
  obtain ⟨p27_7, ha, h0, h1, h⟩ := h
  refine Lp (V_ixA rfl Tryz.underlying25 ty9 (ixL rfl ha) rfl h0 h1) rfl rfl ?_
  obtain ⟨x28_8, hc, h⟩ := h
  refine Ls rfl rfl (X_ld rfl Tryz.underlying9 rfl rfl hc ?_)
  refine Lp (V_asg rfl rfl) rfl rfl ?_
  refine Lnil ?_
  refine thenN ?_
  refine AW.seq ?_
  refine AW.reg ?_
  refine Lp (V_move rfl rfl) rfl rfl ?_
  refine Ls rfl rfl (X_call rfl Tryz.func129 rfl rfl rfl (ACalls.mono h ?_))
  rintro v σ ⟨x30_9, rfl, h⟩
  refine Lp (V_not rfl rfl) rfl rfl ?_
  refine Lnil ?_
  refine thenN ?_
  refine AW.iff rfl (bnot_iff Iff.rfl) h (fun h => ?_) (fun h => ?_)
  · refine AW.seq ?_
    refine AW.reg ?_
    refine Lp (V_asg rfl rfl) rfl rfl ?_
    refine Lp (V_asg rfl rfl) rfl rfl ?_
    refine Lnil ?_
    refine thenN ?_
    refine AW.ret ?_
    refine blockR ?_
    refine thenR ?_
    refine thenR ?_
    refine blockR ?_
    refine thenR ?_
    exact bR2 Tryz.results106 rfl rfl ⟨_, _, rfl, h⟩
  refine AW.skip ?_
  refine blockN ?_
  refine thenN ?_
  refine AW.reg ?_
  refine Lp (V_add rfl rfl rfl) rfl rfl ?_
  refine Lp (V_move rfl rfl) rfl rfl ?_
  refine Lnil ?_
  refine thenN ?_
  refine ARound.head (fr' := [(4, Sl.v x19_3), (23, Sl.v x19_3), (24, .int .i64 (x19_3.len : Int)), (25, .int .i64 (IntKind.i64.wrap (x25_6 + 1)))]) ?_ (FrLe.cons rfl (FrLe.cons rfl (FrLe.cons rfl (FrLe.cons rfl (FrLe.nil _)))))
  exact hY5 _ _ h

def j1_path_Name (B : World) (ro : AH) (Q : Bool → AH → Prop) (σ : AH) : Prop :=
 Q true σ

def j6_path_Name (B : World) (ro : AH) (p21_2 : Addr) (Q : Bool → AH → Prop) (Y3 : (Unit) → AH → Prop) (x25_7 : Bool) (σ : AH) : Prop :=
 if x25_7 = true then
  Y3 () σ
 else
 Q false σ

def l3_path_Name (B : World) (ro : AH) (p21_2 : Addr) (Q : Bool → AH → Prop) : (Unit) → AH → ((Unit) → AH → Prop) → Prop := fun _ σ Y3 =>
 awp Tryz.prog ro (Instr.next (.pointer (some p21_2)) true 0) (fun v σ =>
  (v = .tuple #[.bool false] ∧
   j1_path_Name B ro Q σ) ∨
  (∃ (x22_4 : Int) (x22_5 : Int), v = .tuple #[.bool true, .int .i64 x22_4, .int .i32 x22_5] ∧
   if (97 ≤ x22_5) ∧ (x22_5 ≤ 122) then
    j6_path_Name B ro p21_2 Q Y3 ((decide (97 ≤ x22_5)) && (decide (x22_5 ≤ 122))) σ
   else
   if (48 ≤ x22_5) ∧ (x22_5 ≤ 57) then
    j6_path_Name B ro p21_2 Q Y3 ((decide (48 ≤ x22_5)) && (decide (x22_5 ≤ 57))) σ
   else
   if x22_5 = 46 then
    j6_path_Name B ro p21_2 Q Y3 (decide (x22_5 = 46)) σ
   else
   if x22_5 = 95 then
    j6_path_Name B ro p21_2 Q Y3 (decide (x22_5 = 95)) σ
   else
   j6_path_Name B ro p21_2 Q Y3 (decide (x22_5 = 45)) σ)) σ

def f_path_Name (B : World) (ro : AH) (a0 : ByteArray) (σ : AH) (Q : Bool → AH → Prop) : Prop :=
 if (((a0 = (⟨#[]⟩ : ByteArray)) ∨ (32 < (a0.size : Int))) ∨ (a0 = (⟨#[46]⟩ : ByteArray))) ∨ (a0 = (⟨#[46, 46]⟩ : ByteArray)) then
  Q false σ
 else
 awp Tryz.prog ro (Instr.range 9 (.string a0)) (fun v σ =>
  (∃ (p21_2 : Addr), v = .pointer (some p21_2) ∧
   lfpD (l3_path_Name B ro p21_2 Q ) () σ)) σ

set_option maxRecDepth 100000 in
set_option maxHeartbeats 4000000 in
theorem path_Name_ok {B : World} {ro : AH} {a0 : ByteArray} {σ : AH} {Q : Bool → AH → Prop} (h : Sep ro σ → f_path_Name B ro a0 σ Q) : c_path_Name B ro a0 σ Q := by
  refine ACalls.of_sep fun hsep => ?_
  replace h := h hsep
  refine ACalls.of_body (args := [.string a0]) Tryz.func129 rfl (by rw [Tryz.ntmps129]; simp) ?_
  rw [Tryz.ntmps129]
  unfold f_path_Name at h
  refine AW.seq ?_
  refine AW.reg ?_
  refine Lp (V_asg rfl rfl) rfl rfl ?_
  refine Lnil ?_
  refine thenN ?_
  refine AW.seq ?_
  refine AW.seq ?_
  refine AW.reg ?_
  refine Lp (V_move rfl rfl) rfl rfl ?_
  refine Lp (V_eqlS rfl rfl rfl) rfl rfl ?_
  refine Lp (V_move rfl rfl) rfl rfl ?_
  refine Lsplit 4 (decide (a0 = (⟨#[]⟩ : ByteArray))) [(0, .string a0), (11, .bool ((decide (a0 = (⟨#[]⟩ : ByteArray))) || (decide (32 < (a0.size : Int)))))] ?_ ?_ ?_
  · intro e2 hk2
    refine Ln rfl rfl rfl rfl (.inl (by rw [e2]; rfl)) ?_
    refine Ln rfl rfl rfl rfl (.inl (by rw [e2]; rfl)) ?_
    refine Ln rfl rfl rfl rfl (.inl (by rw [e2]; rfl)) ?_
    refine Lp (V_pickT rfl (evb e2) rfl) rfl rfl ?_
    exact hk2 _ (FrLe.cons rfl (FrLe.cons (by rw [e2]; rfl) (FrLe.nil _)))
  · intro e2 hk2
    refine Lypb (V_move rfl rfl) rfl rfl rfl rfl e2 ?_
    refine Lypb (V_lenS rfl rfl Tryz.underlying9 rfl rfl) rfl rfl rfl rfl e2 ?_
    refine Lypb (V_gtr rfl rfl rfl) rfl rfl rfl rfl e2 ?_
    refine Lp (V_pickF rfl (evb e2) rfl) rfl rfl ?_
    exact hk2 _ (FrLe.cons rfl (FrLe.cons (by rw [e2]; rfl) (FrLe.nil _)))
  intro fr hl
  refine Lfr hl ?_
  refine Lp (V_move rfl rfl) rfl rfl ?_
  refine Lsplit 3 ((decide (a0 = (⟨#[]⟩ : ByteArray))) || (decide (32 < (a0.size : Int)))) [(0, .string a0), (15, .bool (((decide (a0 = (⟨#[]⟩ : ByteArray))) || (decide (32 < (a0.size : Int)))) || (decide (a0 = (⟨#[46]⟩ : ByteArray)))))] ?_ ?_ ?_
  · intro e7 hk7
    refine Ln rfl rfl rfl rfl (.inl (by rw [e7]; rfl)) ?_
    refine Ln rfl rfl rfl rfl (.inl (by rw [e7]; rfl)) ?_
    refine Lp (V_pickT rfl (evb e7) rfl) rfl rfl ?_
    exact hk7 _ (FrLe.cons rfl (FrLe.cons (by rw [e7]; rfl) (FrLe.nil _)))
  · intro e7 hk7
    refine Lypb (V_move rfl rfl) rfl rfl rfl rfl e7 ?_
    refine Lypb (V_eqlS rfl rfl rfl) rfl rfl rfl rfl e7 ?_
    refine Lp (V_pickF rfl (evb e7) rfl) rfl rfl ?_
    exact hk7 _ (FrLe.cons rfl (FrLe.cons (by rw [e7]; rfl) (FrLe.nil _)))
  intro fr hl
  refine Lfr hl ?_
  refine Lp (V_move rfl rfl) rfl rfl ?_
  refine Lsplit 3 (((decide (a0 = (⟨#[]⟩ : ByteArray))) || (decide (32 < (a0.size : Int)))) || (decide (a0 = (⟨#[46]⟩ : ByteArray)))) [(0, .string a0), (19, .bool ((((decide (a0 = (⟨#[]⟩ : ByteArray))) || (decide (32 < (a0.size : Int)))) || (decide (a0 = (⟨#[46]⟩ : ByteArray)))) || (decide (a0 = (⟨#[46, 46]⟩ : ByteArray)))))] ?_ ?_ ?_
  · intro e11 hk11
    refine Ln rfl rfl rfl rfl (.inl (by rw [e11]; rfl)) ?_
    refine Ln rfl rfl rfl rfl (.inl (by rw [e11]; rfl)) ?_
    refine Lp (V_pickT rfl (evb e11) rfl) rfl rfl ?_
    exact hk11 _ (FrLe.cons rfl (FrLe.cons (by rw [e11]; rfl) (FrLe.nil _)))
  · intro e11 hk11
    refine Lypb (V_move rfl rfl) rfl rfl rfl rfl e11 ?_
    refine Lypb (V_eqlS rfl rfl rfl) rfl rfl rfl rfl e11 ?_
    refine Lp (V_pickF rfl (evb e11) rfl) rfl rfl ?_
    exact hk11 _ (FrLe.cons rfl (FrLe.cons (by rw [e11]; rfl) (FrLe.nil _)))
  intro fr hl
  refine Lfr hl ?_
  refine Lnil ?_
  refine thenN ?_
  refine AW.iff rfl (bor_iff (bor_iff (bor_iff decide_eq_true_iff decide_eq_true_iff) decide_eq_true_iff) decide_eq_true_iff) h (fun h => ?_) (fun h => ?_)
  · refine AW.seq ?_
    refine AW.reg ?_
    refine Lp (V_asg rfl rfl) rfl rfl ?_
    refine Lnil ?_
    refine thenN ?_
    refine AW.ret ?_
    refine thenR ?_
    exact bR1 Tryz.results129 rfl ⟨_, rfl, h⟩
  refine AW.skip ?_
  refine thenN ?_
  refine AW.seqJ (fun fr σ => FrLe [] fr ∧ j1_path_Name B ro Q σ) ?_ ?_
  · rintro fr σ ⟨hl, h⟩
    refine AW.weaken ?_ hl (HLe.refl _)
    unfold j1_path_Name at h
    refine AW.seq ?_
    refine AW.reg ?_
    refine Lp (V_asg rfl rfl) rfl rfl ?_
    refine Lnil ?_
    refine thenN ?_
    refine AW.ret ?_
    exact bR1 Tryz.results129 rfl ⟨_, rfl, h⟩
  refine AW.seq ?_
  refine AW.reg ?_
  refine Lp (V_move rfl rfl) rfl rfl ?_
  refine Ls rfl rfl (X_rng rfl rfl (awp_mono _ h ?_))
  rintro v σ ⟨p21_2, rfl, h⟩
  refine Lnil ?_
  refine thenN ?_
  refine AW.block ?_
  refine ARound.loop (fr' := [(21, .pointer (some p21_2))]) ?_ (FrLe.cons rfl (FrLe.nil _))
  refine h (fun _ σ => ARound _ _ _ _ _ _ [(21, .pointer (some p21_2))] σ) ?_
  rintro _ σ Y3 hY3 h
  show AW _ _ _ _ _ _ _ _
  unfold l3_path_Name at h
  refine AW.seq ?_
  refine AW.reg ?_
  refine Ls rfl rfl (X_nxt rfl rfl rfl (awp_mono _ h ?_))
  rintro v σ (⟨rfl, h⟩ | ⟨x22_4, x22_5, rfl, h⟩)
  · refine Lp (V_ext rfl rfl rfl) rfl rfl ?_
    refine Lnil ?_
    refine thenN ?_
    refine AW.seq ?_
    refine AW.no rfl ?_
    refine AW.exit ?_
    refine thenE ?_
    refine thenE ?_
    refine blockE ?_
    refine thenN ?_
    exact ⟨(FrLe.nil _), h⟩
  · refine Lp (V_ext rfl rfl rfl) rfl rfl ?_
    refine Lnil ?_
    refine thenN ?_
    refine AW.seq ?_
    refine AW.yes rfl ?_
    refine AW.skip ?_
    refine thenN ?_
    refine AW.block ?_
    refine AW.seq ?_
    refine AW.reg ?_
    refine Lp (V_ext rfl rfl rfl) rfl rfl ?_
    refine Lp (V_asg rfl rfl) rfl rfl ?_
    refine Lnil ?_
    refine thenN ?_
    refine AW.block ?_
    refine AW.seqJ (fun fr σ => ∃ (x25_7 : Bool), FrLe [(21, .pointer (some p21_2)), (25, .bool x25_7)] fr ∧ j6_path_Name B ro p21_2 Q Y3 x25_7 σ) ?_ ?_
    · rintro fr σ ⟨x25_7, hl, h⟩
      refine AW.weaken ?_ hl (HLe.refl _)
      unfold j6_path_Name at h
      refine AW.iff rfl Iff.rfl h (fun h => ?_) (fun h => ?_)
      · refine AW.skip ?_
        refine blockN ?_
        refine blockN ?_
        refine thenN ?_
        refine ARound.head (fr' := [(21, .pointer (some p21_2))]) ?_ (FrLe.cons rfl (FrLe.nil _))
        exact hY3 _ _ h
      refine AW.seq ?_
      refine AW.reg ?_
      refine Lp (V_asg rfl rfl) rfl rfl ?_
      refine Lnil ?_
      refine thenN ?_
      refine AW.ret ?_
      refine blockR ?_
      refine blockR ?_
      refine thenR ?_
      refine blockR ?_
      refine thenR ?_
      exact bR1 Tryz.results129 rfl ⟨_, rfl, h⟩
    refine AW.seq ?_
    refine AW.reg ?_
    refine Lp (V_move rfl rfl) rfl rfl ?_
    refine Lp (V_geq rfl rfl rfl) rfl rfl ?_
    refine Lp (V_move rfl rfl) rfl rfl ?_
    refine Lsplit 3 (decide (97 ≤ x22_5)) [(4, .int .i32 x22_5), (21, .pointer (some p21_2)), (31, .bool ((decide (97 ≤ x22_5)) && (decide (x22_5 ≤ 122))))] ?_ ?_ ?_
    · intro e2 hk2
      refine Lypb (V_move rfl rfl) rfl rfl rfl rfl e2 ?_
      refine Lypb (V_leq rfl rfl rfl) rfl rfl rfl rfl e2 ?_
      refine Lp (V_pickT rfl (evb e2) rfl) rfl rfl ?_
      exact hk2 _ (FrLe.cons rfl (FrLe.cons rfl (FrLe.cons (by rw [e2]; rfl) (FrLe.nil _))))
    · intro e2 hk2
      refine Ln rfl rfl rfl rfl (.inl (by rw [e2]; rfl)) ?_
      refine Ln rfl rfl rfl rfl (.inl (by rw [e2]; rfl)) ?_
      refine Lp (V_pickF rfl (evb e2) rfl) rfl rfl ?_
      exact hk2 _ (FrLe.cons rfl (FrLe.cons rfl (FrLe.cons (by rw [e2]; rfl) (FrLe.nil _))))
    intro fr hl
    refine Lfr hl ?_
    refine Lp (V_asg rfl rfl) rfl rfl ?_
    refine Lnil ?_
    refine thenN ?_
    refine AW.iff rfl (band_iff decide_eq_true_iff decide_eq_true_iff) h (fun h => ?_) (fun h => ?_)
    · refine AW.skip ?_
      refine thenN ?_
      exact ⟨_, (FrLe.cons rfl (FrLe.cons rfl (FrLe.nil _))), h⟩
    refine AW.seq ?_
    refine AW.reg ?_
    refine Lp (V_move rfl rfl) rfl rfl ?_
    refine Lp (V_geq rfl rfl rfl) rfl rfl ?_
    refine Lp (V_move rfl rfl) rfl rfl ?_
    refine Lsplit 3 (decide (48 ≤ x22_5)) [(4, .int .i32 x22_5), (21, .pointer (some p21_2)), (37, .bool ((decide (48 ≤ x22_5)) && (decide (x22_5 ≤ 57))))] ?_ ?_ ?_
    · intro e2 hk2
      refine Lypb (V_move rfl rfl) rfl rfl rfl rfl e2 ?_
      refine Lypb (V_leq rfl rfl rfl) rfl rfl rfl rfl e2 ?_
      refine Lp (V_pickT rfl (evb e2) rfl) rfl rfl ?_
      exact hk2 _ (FrLe.cons rfl (FrLe.cons rfl (FrLe.cons (by rw [e2]; rfl) (FrLe.nil _))))
    · intro e2 hk2
      refine Ln rfl rfl rfl rfl (.inl (by rw [e2]; rfl)) ?_
      refine Ln rfl rfl rfl rfl (.inl (by rw [e2]; rfl)) ?_
      refine Lp (V_pickF rfl (evb e2) rfl) rfl rfl ?_
      exact hk2 _ (FrLe.cons rfl (FrLe.cons rfl (FrLe.cons (by rw [e2]; rfl) (FrLe.nil _))))
    intro fr hl
    refine Lfr hl ?_
    refine Lp (V_asg rfl rfl) rfl rfl ?_
    refine Lnil ?_
    refine thenN ?_
    refine AW.iff rfl (band_iff decide_eq_true_iff decide_eq_true_iff) h (fun h => ?_) (fun h => ?_)
    · refine AW.skip ?_
      refine thenN ?_
      exact ⟨_, (FrLe.cons rfl (FrLe.cons rfl (FrLe.nil _))), h⟩
    refine AW.seq ?_
    refine AW.reg ?_
    refine Lp (V_move rfl rfl) rfl rfl ?_
    refine Lp (V_eql rfl rfl rfl) rfl rfl ?_
    refine Lp (V_asg rfl rfl) rfl rfl ?_
    refine Lnil ?_
    refine thenN ?_
    refine AW.iff rfl decide_eq_true_iff h (fun h => ?_) (fun h => ?_)
    · refine AW.skip ?_
      refine thenN ?_
      exact ⟨_, (FrLe.cons rfl (FrLe.cons rfl (FrLe.nil _))), h⟩
    refine AW.seq ?_
    refine AW.reg ?_
    refine Lp (V_move rfl rfl) rfl rfl ?_
    refine Lp (V_eql rfl rfl rfl) rfl rfl ?_
    refine Lp (V_asg rfl rfl) rfl rfl ?_
    refine Lnil ?_
    refine thenN ?_
    refine AW.iff rfl decide_eq_true_iff h (fun h => ?_) (fun h => ?_)
    · refine AW.skip ?_
      refine thenN ?_
      exact ⟨_, (FrLe.cons rfl (FrLe.cons rfl (FrLe.nil _))), h⟩
    refine AW.reg ?_
    refine Lp (V_move rfl rfl) rfl rfl ?_
    refine Lp (V_eql rfl rfl rfl) rfl rfl ?_
    refine Lp (V_asg rfl rfl) rfl rfl ?_
    refine Lnil ?_
    refine thenN ?_
    exact ⟨_, (FrLe.cons rfl (FrLe.cons rfl (FrLe.nil _))), h⟩

end Go.Proofs.YthfpmipeejjogaaGreatDoor.G

/- Functions as predicate transformers, and the proofs that the code does what they tell: printed by wip/tools/gen.py. -/
namespace Go.Proofs.YthfpmipeejjogaaGreatDoor.G
open Go Go.Proofs.YthfpmipeejjogaaGreatDoor.SL
set_option linter.unusedVariables false
set_option linter.unusedSimpArgs false

def f_ref02_Parent (B : World) (ro : AH) (a0 : ByteArray) (σ : AH) (Q : ByteArray → Bool → AH → Prop) : Prop :=
 c_ref02_Parts B ro a0 σ fun x8_1 x8_2 σ =>
 if (¬ (x8_2 = true)) ∨ ((x8_1.len : Int) = 0) then
  Q (⟨#[]⟩ : ByteArray) false σ
 else
 cutOk none (some (IntKind.i64.wrap ((x8_1.len : Int) - 1))) x8_1.len x8_1.cap ∧
 c_ref02_Make B ro (⟨cutA x8_1.a (0) x8_1.cap 1, Int.toNat (IntKind.i64.wrap ((x8_1.len : Int) - 1)) - 0, x8_1.cap - 0⟩ : Sl) σ fun x23_3 σ =>
 Q x23_3 true σ

set_option maxRecDepth 100000 in
set_option maxHeartbeats 4000000 in
theorem ref02_Parent_ok {B : World} {ro : AH} {a0 : ByteArray} {σ : AH} {Q : ByteArray → Bool → AH → Prop} (h : Sep ro σ → f_ref02_Parent B ro a0 σ Q) : c_ref02_Parent B ro a0 σ Q := by
  refine ACalls.of_sep fun hsep => ?_
  replace h := h hsep
  refine ACalls.of_body (args := [.string a0]) Tryz.func19 rfl (by rw [Tryz.ntmps19]; simp) ?_
  rw [Tryz.ntmps19]
  unfold f_ref02_Parent at h
  refine AW.seq ?_
  refine AW.reg ?_
  refine Lp (V_asg rfl rfl) rfl rfl ?_
  refine Lp (V_asg rfl rfl) rfl rfl ?_
  refine Lnil ?_
  refine thenN ?_
  refine AW.seq ?_
  refine AW.reg ?_
  refine Lp (V_move rfl rfl) rfl rfl ?_
  refine Ls rfl rfl (X_call rfl Tryz.func64 rfl rfl rfl (ACalls.mono h ?_))
  rintro v σ ⟨x8_1, x8_2, rfl, h⟩
  refine Lp (V_move rfl rfl) rfl rfl ?_
  refine Lp (V_ext rfl rfl rfl) rfl rfl ?_
  refine Lp (V_ext rfl rfl rfl) rfl rfl ?_
  refine Lp (V_asg rfl rfl) rfl rfl ?_
  refine Lp (V_asg rfl rfl) rfl rfl ?_
  refine Lnil ?_
  refine thenN ?_
  refine AW.seq ?_
  refine AW.seq ?_
  refine AW.reg ?_
  refine Lp (V_move rfl rfl) rfl rfl ?_
  refine Lp (V_not rfl rfl) rfl rfl ?_
  refine Lp (V_move rfl rfl) rfl rfl ?_
  refine Lsplit 4 (!x8_2) [(4, Sl.v x8_1), (17, .bool ((!x8_2) || (decide ((x8_1.len : Int) = 0))))] ?_ ?_ ?_
  · intro e2 hk2
    refine Ln rfl rfl rfl rfl (.inl (by rw [e2]; rfl)) ?_
    refine Ln rfl rfl rfl rfl (.inl (by rw [e2]; rfl)) ?_
    refine Ln rfl rfl rfl rfl (.inl (by rw [e2]; rfl)) ?_
    refine Lp (V_pickT rfl (evb e2) rfl) rfl rfl ?_
    exact hk2 _ (FrLe.cons rfl (FrLe.cons (by rw [e2]; rfl) (FrLe.nil _)))
  · intro e2 hk2
    refine Lypb (V_move rfl rfl) rfl rfl rfl rfl e2 ?_
    refine Lypb (V_lenL rfl rfl Tryz.underlying25 rfl rfl) rfl rfl rfl rfl e2 ?_
    refine Lypb (V_eql rfl rfl rfl) rfl rfl rfl rfl e2 ?_
    refine Lp (V_pickF rfl (evb e2) rfl) rfl rfl ?_
    exact hk2 _ (FrLe.cons rfl (FrLe.cons (by rw [e2]; rfl) (FrLe.nil _)))
  intro fr hl
  refine Lfr hl ?_
  refine Lnil ?_
  refine thenN ?_
  refine AW.iff rfl (bor_iff (bnot_iff Iff.rfl) decide_eq_true_iff) h (fun h => ?_) (fun h => ?_)
  · refine AW.seq ?_
    refine AW.reg ?_
    refine Lp (V_asg rfl rfl) rfl rfl ?_
    refine Lp (V_asg rfl rfl) rfl rfl ?_
    refine Lnil ?_
    refine thenN ?_
    refine AW.ret ?_
    refine thenR ?_
    exact bR2 Tryz.results19 rfl rfl ⟨_, _, rfl, h⟩
  refine AW.skip ?_
  refine thenN ?_
  refine AW.seq ?_
  refine AW.reg ?_
  refine Lp (V_move rfl rfl) rfl rfl ?_
  refine Lp (V_move rfl rfl) rfl rfl ?_
  refine Lp (V_lenL rfl rfl Tryz.underlying25 rfl rfl) rfl rfl ?_
  refine Lp (V_sub rfl rfl rfl) rfl rfl ?_
  obtain ⟨hc, h⟩ := h
  refine Lp (V_slL (lo := none) (hi := (some (IntKind.i64.wrap ((x8_1.len : Int) - 1)))) rfl Tryz.underlying25 ty9 rfl optI_none (optI_some rfl) hc) rfl rfl ?_
  refine Ls rfl rfl (X_call rfl Tryz.func65 rfl rfl rfl (ACalls.mono h ?_))
  rintro v σ ⟨x23_3, rfl, h⟩
  refine Lp (V_asg rfl rfl) rfl rfl ?_
  refine Lp (V_asg rfl rfl) rfl rfl ?_
  refine Lnil ?_
  refine thenN ?_
  refine AW.ret ?_
  exact bR2 Tryz.results19 rfl rfl ⟨_, _, rfl, h⟩

def j3_ref02_Parts (B : World) (ro : AH) (Q : Sl → Bool → AH → Prop) (x4_4 : Sl) (σ : AH) : Prop :=
 if 8 < (x4_4.len : Int) then
  Q (⟨none, 0, 0⟩ : Sl) false σ
 else
 Q x4_4 true σ

def j9_ref02_Parts (B : World) (ro : AH) (a0 : ByteArray) (x6_8 : Int) (Q : Sl → Bool → AH → Prop) (Y5 : (Sl × Int × Int) → AH → Prop) (x4_10 : Sl) (x5_11 : Int) (σ : AH) : Prop :=
 Y5 (x4_10, x5_11, IntKind.i64.wrap (x6_8 + 1)) σ

def j12_ref02_Parts (B : World) (ro : AH) (a0 : ByteArray) (x4_6 : Sl) (x5_7 : Int) (x6_8 : Int) (Q : Sl → Bool → AH → Prop) (Y5 : (Sl × Int × Int) → AH → Prop) (x38_13 : Bool) (σ : AH) : Prop :=
 if x38_13 = true then
  cutOk (some x5_7) (some x6_8) a0.size a0.size ∧
  c_ref02_Name B ro (a0.extract (Int.toNat x5_7) (Int.toNat x6_8)) σ fun x43_14 σ =>
  if ¬ (x43_14 = true) then
   Q (⟨none, 0, 0⟩ : Sl) false σ
  else
  cutOk (some x5_7) (some x6_8) a0.size a0.size ∧
  nw ro σ (.cells #[.string (a0.extract (Int.toNat x5_7) (Int.toNat x6_8))] 9) fun x50_15 σ =>
  awp Tryz.prog ro (Builtin.append_ #[25, 25] 25 #[Sl.v x4_6, Sl.v (⟨some ⟨x50_15, 0, none⟩, 1, 1⟩ : Sl)]) (fun v σ => ∃ (x51_16 : Sl), v = Sl.v x51_16 ∧
   j9_ref02_Parts B ro a0 x6_8 Q Y5 x51_16 (IntKind.i64.wrap (x6_8 + 1)) σ) σ
 else
 j9_ref02_Parts B ro a0 x6_8 Q Y5 x4_6 x5_7 σ

def l5_ref02_Parts (B : World) (ro : AH) (a0 : ByteArray) (Q : Sl → Bool → AH → Prop) : (Sl × Int × Int) → AH → ((Sl × Int × Int) → AH → Prop) → Prop := fun ⟨x4_6, x5_7, x6_8⟩ σ Y5 =>
 if x6_8 ≤ (a0.size : Int) then
  if x6_8 = (a0.size : Int) then
   j12_ref02_Parts B ro a0 x4_6 x5_7 x6_8 Q Y5 true σ
  else
  ∃ x36_17 : UInt8, (0 : Int) ≤ x6_8 ∧ a0[Int.toNat x6_8]? = some x36_17 ∧
  j12_ref02_Parts B ro a0 x4_6 x5_7 x6_8 Q Y5 (decide ((x36_17.toNat : Int) = 47)) σ
 else
 j3_ref02_Parts B ro Q x4_6 σ

def j1_ref02_Parts (B : World) (ro : AH) (a0 : ByteArray) (Q : Sl → Bool → AH → Prop) (x22_2 : Bool) (σ : AH) : Prop :=
 if x22_2 = true then
  Q (⟨none, 0, 0⟩ : Sl) false σ
 else
 lfpD (l5_ref02_Parts B ro a0 Q ) ((⟨none, 0, 0⟩ : Sl), 1, 1) σ

def f_ref02_Parts (B : World) (ro : AH) (a0 : ByteArray) (σ : AH) (Q : Sl → Bool → AH → Prop) : Prop :=
 if a0 = (⟨#[47]⟩ : ByteArray) then
  Q (⟨none, 0, 0⟩ : Sl) true σ
 else
 if ((a0.size : Int) < 1) ∨ (128 < (a0.size : Int)) then
  j1_ref02_Parts B ro a0 Q true σ
 else
 ∃ x20_18 : UInt8, (0 : Int) ≤ 0 ∧ a0[Int.toNat 0]? = some x20_18 ∧
 j1_ref02_Parts B ro a0 Q (!(decide ((x20_18.toNat : Int) = 47))) σ

set_option maxRecDepth 100000 in
set_option maxHeartbeats 4000000 in
theorem ref02_Parts_ok {B : World} {ro : AH} {a0 : ByteArray} {σ : AH} {Q : Sl → Bool → AH → Prop} (h : Sep ro σ → f_ref02_Parts B ro a0 σ Q) : c_ref02_Parts B ro a0 σ Q := by
  refine ACalls.of_sep fun hsep => ?_
  replace h := h hsep
  refine ACalls.of_body (args := [.string a0]) Tryz.func64 rfl (by rw [Tryz.ntmps64]; simp) ?_
  rw [Tryz.ntmps64]
  unfold f_ref02_Parts at h
  refine AW.seq ?_
  refine AW.reg ?_
  refine Lp (V_asg rfl rfl) rfl rfl ?_
  refine Lp (V_asg rfl rfl) rfl rfl ?_
  refine Lnil ?_
  refine thenN ?_
  refine AW.seq ?_
  refine AW.reg ?_
  refine Lp (V_asg rfl rfl) rfl rfl ?_
  refine Lnil ?_
  refine thenN ?_
  refine AW.seq ?_
  refine AW.seq ?_
  refine AW.reg ?_
  refine Lp (V_move rfl rfl) rfl rfl ?_
  refine Lp (V_eqlS rfl rfl rfl) rfl rfl ?_
  refine Lnil ?_
  refine thenN ?_
  refine AW.iff rfl decide_eq_true_iff h (fun h => ?_) (fun h => ?_)
  · refine AW.seq ?_
    refine AW.reg ?_
    refine Lp (V_move rfl rfl) rfl rfl ?_
    refine Lp (V_asg rfl rfl) rfl rfl ?_
    refine Lp (V_asg rfl rfl) rfl rfl ?_
    refine Lnil ?_
    refine thenN ?_
    refine AW.ret ?_
    refine thenR ?_
    exact bR2 Tryz.results64 rfl rfl ⟨_, _, rfl, h⟩
  refine AW.skip ?_
  refine thenN ?_
  refine AW.seq ?_
  refine AW.seq ?_
  refine AW.reg ?_
  refine Lp (V_move rfl rfl) rfl rfl ?_
  refine Lp (V_lenS rfl rfl Tryz.underlying9 rfl rfl) rfl rfl ?_
  refine Lp (V_lss rfl rfl rfl) rfl rfl ?_
  refine Lp (V_move rfl rfl) rfl rfl ?_
  refine Lsplit 4 (decide ((a0.size : Int) < 1)) [(0, .string a0), (4, Sl.v (⟨none, 0, 0⟩ : Sl)), (17, .bool ((decide ((a0.size : Int) < 1)) || (decide (128 < (a0.size : Int)))))] ?_ ?_ ?_
  · intro e3 hk3
    refine Ln rfl rfl rfl rfl (.inl (by rw [e3]; rfl)) ?_
    refine Ln rfl rfl rfl rfl (.inl (by rw [e3]; rfl)) ?_
    refine Ln rfl rfl rfl rfl (.inl (by rw [e3]; rfl)) ?_
    refine Lp (V_pickT rfl (evb e3) rfl) rfl rfl ?_
    exact hk3 _ (FrLe.cons rfl (FrLe.cons rfl (FrLe.cons (by rw [e3]; rfl) (FrLe.nil _))))
  · intro e3 hk3
    refine Lypb (V_move rfl rfl) rfl rfl rfl rfl e3 ?_
    refine Lypb (V_lenS rfl rfl Tryz.underlying9 rfl rfl) rfl rfl rfl rfl e3 ?_
    refine Lypb (V_gtr rfl rfl rfl) rfl rfl rfl rfl e3 ?_
    refine Lp (V_pickF rfl (evb e3) rfl) rfl rfl ?_
    exact hk3 _ (FrLe.cons rfl (FrLe.cons rfl (FrLe.cons (by rw [e3]; rfl) (FrLe.nil _))))
  intro fr hl
  refine Lfr hl ?_
  refine Lp (V_move rfl rfl) rfl rfl ?_
  refine LsplitJ 4 ((decide ((a0.size : Int) < 1)) || (decide (128 < (a0.size : Int)))) (bor_iff decide_eq_true_iff decide_eq_true_iff) h (fun fr σ => ∃ (x22_2 : Bool), FrLe [(0, .string a0), (4, Sl.v (⟨none, 0, 0⟩ : Sl)), (22, .bool x22_2)] fr ∧ j1_ref02_Parts B ro a0 Q x22_2 σ) ?_ ?_ ?_
  · intro h e8 hk8
    refine Ln rfl rfl rfl rfl (.inl (by rw [e8]; rfl)) ?_
    refine Ln rfl rfl rfl rfl (.inl (by rw [e8]; rfl)) ?_
    refine Ln rfl rfl rfl rfl (.inl (by rw [e8]; rfl)) ?_
    refine Lp (V_pickT rfl (evb e8) rfl) rfl rfl ?_
    exact hk8 _ _ ⟨_, (FrLe.cons rfl (FrLe.cons rfl (FrLe.cons rfl (FrLe.nil _)))), h⟩
  · intro h e8 hk8
    refine Lypb (V_move rfl rfl) rfl rfl rfl rfl e8 ?_
    obtain ⟨x20_18, h0, hc, h⟩ := h
    refine Lypb (V_idxS rfl Tryz.underlying9 rfl rfl h0 hc) rfl rfl rfl rfl e8 ?_
    refine Lypb (V_neq rfl rfl rfl) rfl rfl rfl rfl e8 ?_
    refine Lp (V_pickF rfl (evb e8) rfl) rfl rfl ?_
    exact hk8 _ _ ⟨_, (FrLe.cons rfl (FrLe.cons rfl (FrLe.cons rfl (FrLe.nil _)))), h⟩
  rintro fr σ ⟨x22_2, hl, h⟩
  unfold j1_ref02_Parts at h
  refine Lfr hl ?_
  refine Lnil ?_
  refine thenN ?_
  refine AW.iff rfl Iff.rfl h (fun h => ?_) (fun h => ?_)
  · refine AW.seq ?_
    refine AW.reg ?_
    refine Lp (V_asg rfl rfl) rfl rfl ?_
    refine Lp (V_asg rfl rfl) rfl rfl ?_
    refine Lnil ?_
    refine thenN ?_
    refine AW.ret ?_
    refine thenR ?_
    exact bR2 Tryz.results64 rfl rfl ⟨_, _, rfl, h⟩
  refine AW.skip ?_
  refine thenN ?_
  refine AW.seq ?_
  refine AW.reg ?_
  refine Lp (V_asg rfl rfl) rfl rfl ?_
  refine Lnil ?_
  refine thenN ?_
  refine AW.seqJ (fun fr σ => ∃ (x4_4 : Sl), FrLe [(4, Sl.v x4_4)] fr ∧ j3_ref02_Parts B ro Q x4_4 σ) ?_ ?_
  · rintro fr σ ⟨x4_4, hl, h⟩
    refine AW.weaken ?_ hl (HLe.refl _)
    unfold j3_ref02_Parts at h
    refine AW.seq ?_
    refine AW.seq ?_
    refine AW.reg ?_
    refine Lp (V_move rfl rfl) rfl rfl ?_
    refine Lp (V_lenL rfl rfl Tryz.underlying25 rfl rfl) rfl rfl ?_
    refine Lp (V_gtr rfl rfl rfl) rfl rfl ?_
    refine Lnil ?_
    refine thenN ?_
    refine AW.iff rfl decide_eq_true_iff h (fun h => ?_) (fun h => ?_)
    · refine AW.seq ?_
      refine AW.reg ?_
      refine Lp (V_asg rfl rfl) rfl rfl ?_
      refine Lp (V_asg rfl rfl) rfl rfl ?_
      refine Lnil ?_
      refine thenN ?_
      refine AW.ret ?_
      refine thenR ?_
      exact bR2 Tryz.results64 rfl rfl ⟨_, _, rfl, h⟩
    refine AW.skip ?_
    refine thenN ?_
    refine AW.seq ?_
    refine AW.reg ?_
    refine Lp (V_move rfl rfl) rfl rfl ?_
    refine Lp (V_asg rfl rfl) rfl rfl ?_
    refine Lp (V_asg rfl rfl) rfl rfl ?_
    refine Lnil ?_
    refine thenN ?_
    refine AW.ret ?_
    exact bR2 Tryz.results64 rfl rfl ⟨_, _, rfl, h⟩
  refine AW.seq ?_
  refine AW.reg ?_
  refine Lp (V_asg rfl rfl) rfl rfl ?_
  refine Lnil ?_
  refine thenN ?_
  refine AW.block ?_
  refine ARound.loop (fr' := [(0, .string a0), (4, Sl.v (⟨none, 0, 0⟩ : Sl)), (5, .int .i64 1), (6, .int .i64 1)]) ?_ (FrLe.cons rfl (FrLe.cons rfl (FrLe.cons rfl (FrLe.cons rfl (FrLe.nil _)))))
  refine h (fun ⟨x4_6, x5_7, x6_8⟩ σ => ARound _ _ _ _ _ _ [(0, .string a0), (4, Sl.v x4_6), (5, .int .i64 x5_7), (6, .int .i64 x6_8)] σ) ?_
  rintro ⟨x4_6, x5_7, x6_8⟩ σ Y5 hY5 h
  show AW _ _ _ _ _ _ _ _
  unfold l5_ref02_Parts at h
  dsimp only at h
  refine AW.seq ?_
  refine AW.seq ?_
  refine AW.reg ?_
  refine Lp (V_move rfl rfl) rfl rfl ?_
  refine Lp (V_move rfl rfl) rfl rfl ?_
  refine Lp (V_lenS rfl rfl Tryz.underlying9 rfl rfl) rfl rfl ?_
  refine Lp (V_leq rfl rfl rfl) rfl rfl ?_
  refine Lnil ?_
  refine thenN ?_
  refine AW.iff rfl decide_eq_true_iff h (fun h => ?_) (fun h => ?_)
  rotate_left
  · refine AW.exit ?_
    refine thenE ?_
    refine thenE ?_
    refine blockE ?_
    refine thenN ?_
    exact ⟨_, (FrLe.cons rfl (FrLe.nil _)), h⟩
  refine AW.skip ?_
  refine thenN ?_
  refine AW.seqJ (fun fr σ => ∃ (x4_10 : Sl) (x5_11 : Int), FrLe [(0, .string a0), (6, .int .i64 x6_8), (4, Sl.v x4_10), (5, .int .i64 x5_11)] fr ∧ j9_ref02_Parts B ro a0 x6_8 Q Y5 x4_10 x5_11 σ) ?_ ?_
  · rintro fr σ ⟨x4_10, x5_11, hl, h⟩
    refine AW.weaken ?_ hl (HLe.refl _)
    unfold j9_ref02_Parts at h
    refine AW.reg ?_
    refine Lp (V_move rfl rfl) rfl rfl ?_
    refine Lp (V_add rfl rfl rfl) rfl rfl ?_
    refine Lp (V_asg rfl rfl) rfl rfl ?_
    refine Lnil ?_
    refine thenN ?_
    refine ARound.head (fr' := [(0, .string a0), (4, Sl.v x4_10), (5, .int .i64 x5_11), (6, .int .i64 (IntKind.i64.wrap (x6_8 + 1)))]) ?_ (FrLe.cons rfl (FrLe.cons rfl (FrLe.cons rfl (FrLe.cons rfl (FrLe.nil _)))))
    exact hY5 _ _ h
  refine AW.block ?_
  refine AW.seq ?_
  refine AW.reg ?_
  refine Lp (V_move rfl rfl) rfl rfl ?_
  refine Lp (V_move rfl rfl) rfl rfl ?_
  refine Lp (V_lenS rfl rfl Tryz.underlying9 rfl rfl) rfl rfl ?_
  refine Lp (V_eql rfl rfl rfl) rfl rfl ?_
  refine Lp (V_move rfl rfl) rfl rfl ?_
  refine LsplitJ 5 (decide (x6_8 = (a0.size : Int))) decide_eq_true_iff h (fun fr σ => ∃ (x38_13 : Bool), FrLe [(0, .string a0), (4, Sl.v x4_6), (5, .int .i64 x5_7), (6, .int .i64 x6_8), (38, .bool x38_13)] fr ∧ j12_ref02_Parts B ro a0 x4_6 x5_7 x6_8 Q Y5 x38_13 σ) ?_ ?_ ?_
  · intro h e4 hk4
    refine Ln rfl rfl rfl rfl (.inl (by rw [e4]; rfl)) ?_
    refine Ln rfl rfl rfl rfl (.inl (by rw [e4]; rfl)) ?_
    refine Ln rfl rfl rfl rfl (.inl (by rw [e4]; rfl)) ?_
    refine Ln rfl rfl rfl rfl (.inl (by rw [e4]; rfl)) ?_
    refine Lp (V_pickT rfl (evb e4) rfl) rfl rfl ?_
    exact hk4 _ _ ⟨_, (FrLe.cons rfl (FrLe.cons rfl (FrLe.cons rfl (FrLe.cons rfl (FrLe.cons rfl (FrLe.nil _)))))), h⟩
  · intro h e4 hk4
    refine Lypb (V_move rfl rfl) rfl rfl rfl rfl e4 ?_
    refine Lypb (V_move rfl rfl) rfl rfl rfl rfl e4 ?_
    obtain ⟨x36_17, h0, hc, h⟩ := h
    refine Lypb (V_idxS rfl Tryz.underlying9 rfl rfl h0 hc) rfl rfl rfl rfl e4 ?_
    refine Lypb (V_eql rfl rfl rfl) rfl rfl rfl rfl e4 ?_
    refine Lp (V_pickF rfl (evb e4) rfl) rfl rfl ?_
    exact hk4 _ _ ⟨_, (FrLe.cons rfl (FrLe.cons rfl (FrLe.cons rfl (FrLe.cons rfl (FrLe.cons rfl (FrLe.nil _)))))), h⟩
  rintro fr σ ⟨x38_13, hl, h⟩
  unfold j12_ref02_Parts at h
  refine Lfr hl ?_
  refine Lnil ?_
  refine thenN ?_
  refine AW.iff rfl Iff.rfl h (fun h => ?_) (fun h => ?_)
  rotate_left
  · refine AW.skip ?_
    refine blockN ?_
    refine thenN ?_
    exact ⟨_, _, (FrLe.cons rfl (FrLe.cons rfl (FrLe.cons rfl (FrLe.cons rfl (FrLe.nil _))))), h⟩
  refine AW.seq ?_
  refine AW.seq ?_
  refine AW.reg ?_
  refine Lp (V_move rfl rfl) rfl rfl ?_
  refine Lp (V_move rfl rfl) rfl rfl ?_
  refine Lp (V_move rfl rfl) rfl rfl ?_
  obtain ⟨hc, h⟩ := h
  refine Lp (V_slS (lo := (some x5_7)) (hi := (some x6_8)) rfl Tryz.underlying9 rfl (optI_some rfl) (optI_some rfl) hc) rfl rfl ?_
  refine Ls rfl rfl (X_call rfl Tryz.func112 rfl rfl rfl (ACalls.mono h ?_))
  rintro v σ ⟨x43_14, rfl, h⟩
  refine Lp (V_not rfl rfl) rfl rfl ?_
  refine Lnil ?_
  refine thenN ?_
  refine AW.iff rfl (bnot_iff Iff.rfl) h (fun h => ?_) (fun h => ?_)
  · refine AW.seq ?_
    refine AW.reg ?_
    refine Lp (V_asg rfl rfl) rfl rfl ?_
    refine Lp (V_asg rfl rfl) rfl rfl ?_
    refine Lnil ?_
    refine thenN ?_
    refine AW.ret ?_
    refine thenR ?_
    refine blockR ?_
    refine thenR ?_
    refine thenR ?_
    refine blockR ?_
    refine thenR ?_
    exact bR2 Tryz.results64 rfl rfl ⟨_, _, rfl, h⟩
  refine AW.skip ?_
  refine thenN ?_
  refine AW.seq ?_
  refine AW.reg ?_
  refine Lp (V_move rfl rfl) rfl rfl ?_
  refine Lp (V_move rfl rfl) rfl rfl ?_
  refine Lp (V_move rfl rfl) rfl rfl ?_
  refine Lp (V_move rfl rfl) rfl rfl ?_
  obtain ⟨hc, h⟩ := h
  refine Lp (V_slS (lo := (some x5_7)) (hi := (some x6_8)) rfl Tryz.underlying9 rfl (optI_some rfl) (optI_some rfl) hc) rfl rfl ?_
  refine Ls rfl rfl (X_new (A_bsl (vs := [(0, .string (a0.extract (Int.toNat x5_7) (Int.toNat x6_8)))]) (cs := #[.string (a0.extract (Int.toNat x5_7) (Int.toNat x6_8))]) rfl Tryz.underlying25 ty9 (by decide) rfl rfl) fun x50_15 g1 g2 => ?_)
  replace h := h x50_15 g1 g2
  refine Ls rfl rfl (X_bi (s := Builtin.append_ #[25, 25] 25 #[Sl.v x4_6, Sl.v (⟨some ⟨x50_15, 0, none⟩, 1, 1⟩ : Sl)]) rfl rfl (fun _ => rfl) (awp_mono _ h ?_))
  rintro v σ ⟨x51_16, rfl, h⟩
  refine Lp (V_asg rfl rfl) rfl rfl ?_
  refine Lnil ?_
  refine thenN ?_
  refine AW.reg ?_
  refine Lp (V_move rfl rfl) rfl rfl ?_
  refine Lp (V_add rfl rfl rfl) rfl rfl ?_
  refine Lp (V_asg rfl rfl) rfl rfl ?_
  refine Lnil ?_
  refine blockN ?_
  refine thenN ?_
  exact ⟨_, _, (FrLe.cons rfl (FrLe.cons rfl (FrLe.cons rfl (FrLe.cons rfl (FrLe.nil _))))), h⟩

def j1_ref02_Make (B : World) (ro : AH) (Q : ByteArray → AH → Prop) (x3_2 : ByteArray) (σ : AH) : Prop :=
 Q x3_2 σ

def l3_ref02_Make (B : World) (ro : AH) (a0 : Sl) (Q : ByteArray → AH → Prop) : (ByteArray × Int) → AH → ((ByteArray × Int) → AH → Prop) → Prop := fun ⟨x3_4, x4_5⟩ σ Y3 =>
 if x4_5 < (a0.len : Int) then
  ∃ p17_6 : Addr, a0.a = some p17_6 ∧ (0 : Int) ≤ x4_5 ∧ x4_5 < (a0.len : Int) ∧
  ∃ (x18_7 : ByteArray), acell ro σ (p17_6.add (Int.toNat x4_5 * 1)) = some (.string x18_7) ∧
  (⟨#[47]⟩ : ByteArray).size + x18_7.size ≤ 9223372036854775807 ∧
  x3_4.size + ((⟨#[47]⟩ : ByteArray) ++ x18_7).size ≤ 9223372036854775807 ∧
  Y3 (x3_4 ++ ((⟨#[47]⟩ : ByteArray) ++ x18_7), IntKind.i64.wrap (x4_5 + 1)) σ
 else
 j1_ref02_Make B ro Q x3_4 σ

def f_ref02_Make (B : World) (ro : AH) (a0 : Sl) (σ : AH) (Q : ByteArray → AH → Prop) : Prop :=
 if (a0.len : Int) = 0 then
  Q (⟨#[47]⟩ : ByteArray) σ
 else
 lfpD (l3_ref02_Make B ro a0 Q ) ((⟨#[]⟩ : ByteArray), 0) σ

set_option maxRecDepth 100000 in
set_option maxHeartbeats 4000000 in
theorem ref02_Make_ok {B : World} {ro : AH} {a0 : Sl} {σ : AH} {Q : ByteArray → AH → Prop} (h : Sep ro σ → f_ref02_Make B ro a0 σ Q) : c_ref02_Make B ro a0 σ Q := by
  refine ACalls.of_sep fun hsep => ?_
  replace h := h hsep
  refine ACalls.of_body (args := [Sl.v a0]) Tryz.func65 rfl (by rw [Tryz.ntmps65]; simp) ?_
  rw [Tryz.ntmps65]
  unfold f_ref02_Make at h
  refine AW.seq ?_
  refine AW.reg ?_
  refine Lp (V_asg rfl rfl) rfl rfl ?_
  refine Lnil ?_
  refine thenN ?_
  refine AW.seq ?_
  refine AW.seq ?_
  refine AW.reg ?_
  refine Lp (V_move rfl rfl) rfl rfl ?_
  refine Lp (V_lenL rfl rfl Tryz.underlying25 rfl rfl) rfl rfl ?_
  refine Lp (V_eql rfl rfl rfl) rfl rfl ?_
  refine Lnil ?_
  refine thenN ?_
  refine AW.iff rfl decide_eq_true_iff h (fun h => ?_) (fun h => ?_)
  · refine AW.seq ?_
    refine AW.reg ?_
    refine Lp (V_asg rfl rfl) rfl rfl ?_
    refine Lnil ?_
    refine thenN ?_
    refine AW.ret ?_
    refine thenR ?_
    exact bR1 Tryz.results65 rfl ⟨_, rfl, h⟩
  refine AW.skip ?_
  refine thenN ?_
  refine AW.seq ?_
  refine AW.reg ?_
  refine Lp (V_asg rfl rfl) rfl rfl ?_
  refine Lnil ?_
  refine thenN ?_
  refine AW.seqJ (fun fr σ => ∃ (x3_2 : ByteArray), FrLe [(3, .string x3_2)] fr ∧ j1_ref02_Make B ro Q x3_2 σ) ?_ ?_
  · rintro fr σ ⟨x3_2, hl, h⟩
    refine AW.weaken ?_ hl (HLe.refl _)
    unfold j1_ref02_Make at h
    refine AW.seq ?_
    refine AW.reg ?_
    refine Lp (V_move rfl rfl) rfl rfl ?_
    refine Lp (V_asg rfl rfl) rfl rfl ?_
    refine Lnil ?_
    refine thenN ?_
    refine AW.ret ?_
    exact bR1 Tryz.results65 rfl ⟨_, rfl, h⟩
  refine AW.seq ?_
  refine AW.reg ?_
  refine Lp (V_asg rfl rfl) rfl rfl ?_
  refine Lnil ?_
  refine thenN ?_
  refine AW.block ?_
  refine ARound.loop (fr' := [(0, Sl.v a0), (3, .string (⟨#[]⟩ : ByteArray)), (4, .int .i64 0)]) ?_ (FrLe.cons rfl (FrLe.cons rfl (FrLe.cons rfl (FrLe.nil _))))
  refine h (fun ⟨x3_4, x4_5⟩ σ => ARound _ _ _ _ _ _ [(0, Sl.v a0), (3, .string x3_4), (4, .int .i64 x4_5)] σ) ?_
  rintro ⟨x3_4, x4_5⟩ σ Y3 hY3 h
  show AW _ _ _ _ _ _ _ _
  unfold l3_ref02_Make at h
  dsimp only at h
  refine AW.seq ?_
  refine AW.seq ?_
  refine AW.reg ?_
  refine Lp (V_move rfl rfl) rfl rfl ?_
  refine Lp (V_move rfl rfl) rfl rfl ?_
  refine Lp (V_lenL rfl rfl Tryz.underlying25 rfl rfl) rfl rfl ?_
  refine Lp (V_lss rfl rfl rfl) rfl rfl ?_
  refine Lnil ?_
  refine thenN ?_
  refine AW.iff rfl decide_eq_true_iff h (fun h => ?_) (fun h => ?_)
  rotate_left
  · refine AW.exit ?_
    refine thenE ?_
    refine thenE ?_
    refine blockE ?_
    refine thenN ?_
    exact ⟨_, (FrLe.cons rfl (FrLe.nil _)), h⟩
  refine AW.skip ?_
  refine thenN ?_
  refine AW.seq ?_
  refine AW.block ?_
  refine AW.reg ?_
  refine Lp (V_move rfl rfl) rfl rfl ?_
  refine Lp (V_move rfl rfl) rfl rfl ?_
  refine Lp (V_move rfl rfl) rfl rfl ?_
  obtain ⟨p17_6, ha, h0, h1, h⟩ := h
  refine Lp (V_ixA rfl Tryz.underlying25 ty9 (ixL rfl ha) rfl h0 h1) rfl rfl ?_
  obtain ⟨x18_7, hc, h⟩ := h
  refine Ls rfl rfl (X_ld rfl Tryz.underlying9 rfl rfl hc ?_)
  obtain ⟨hc, h⟩ := h
  refine Lp (V_cat rfl rfl rfl hc) rfl rfl ?_
  obtain ⟨hc, h⟩ := h
  refine Lp (V_cat rfl rfl rfl hc) rfl rfl ?_
  refine Lp (V_asg rfl rfl) rfl rfl ?_
  refine Lnil ?_
  refine blockN ?_
  refine thenN ?_
  refine AW.reg ?_
  refine Lp (V_move rfl rfl) rfl rfl ?_
  refine Lp (V_add rfl rfl rfl) rfl rfl ?_
  refine Lp (V_asg rfl rfl) rfl rfl ?_
  refine Lnil ?_
  refine thenN ?_
  refine ARound.head (fr' := [(0, Sl.v a0), (3, .string (x3_4 ++ ((⟨#[47]⟩ : ByteArray) ++ x18_7))), (4, .int .i64 (IntKind.i64.wrap (x4_5 + 1)))]) ?_ (FrLe.cons rfl (FrLe.cons rfl (FrLe.cons rfl (FrLe.nil _))))
  exact hY3 _ _ h

def j1_ref02_SameTexts (B : World) (ro : AH) (Q : Bool → AH → Prop) (σ : AH) : Prop :=
 Q true σ

def l2_ref02_SameTexts (B : World) (ro : AH) (a0 : Sl) (a1 : Sl) (Q : Bool → AH → Prop) : (Int) → AH → ((Int) → AH → Prop) → Prop := fun x5_3 σ Y2 =>
 if x5_3 < (a0.len : Int) then
  ∃ p19_4 : Addr, a0.a = some p19_4 ∧ (0 : Int) ≤ x5_3 ∧ x5_3 < (a0.len : Int) ∧
  ∃ p23_5 : Addr, a1.a = some p23_5 ∧ (0 : Int) ≤ x5_3 ∧ x5_3 < (a1.len : Int) ∧
  ∃ (x20_6 : ByteArray), acell ro σ (p19_4.add (Int.toNat x5_3 * 1)) = some (.string x20_6) ∧
  ∃ (x24_7 : ByteArray), acell ro σ (p23_5.add (Int.toNat x5_3 * 1)) = some (.string x24_7) ∧
  if ¬ (x20_6 = x24_7) then
   Q false σ
  else
  Y2 (IntKind.i64.wrap (x5_3 + 1)) σ
 else
 j1_ref02_SameTexts B ro Q σ

def f_ref02_SameTexts (B : World) (ro : AH) (a0 : Sl) (a1 : Sl) (σ : AH) (Q : Bool → AH → Prop) : Prop :=
 if ¬ ((a0.len : Int) = (a1.len : Int)) then
  Q false σ
 else
 lfpD (l2_ref02_SameTexts B ro a0 a1 Q ) (0) σ

set_option maxRecDepth 100000 in
set_option maxHeartbeats 4000000 in
theorem ref02_SameTexts_ok {B : World} {ro : AH} {a0 : Sl} {a1 : Sl} {σ : AH} {Q : Bool → AH → Prop} (h : Sep ro σ → f_ref02_SameTexts B ro a0 a1 σ Q) : c_ref02_SameTexts B ro a0 a1 σ Q := by
  refine ACalls.of_sep fun hsep => ?_
  replace h := h hsep
  refine ACalls.of_body (args := [Sl.v a0, Sl.v a1]) Tryz.func86 rfl (by rw [Tryz.ntmps86]; simp) ?_
  rw [Tryz.ntmps86]
  unfold f_ref02_SameTexts at h
  refine AW.seq ?_
  refine AW.reg ?_
  refine Lp (V_asg rfl rfl) rfl rfl ?_
  refine Lnil ?_
  refine thenN ?_
  refine AW.seq ?_
  refine AW.seq ?_
  refine AW.reg ?_
  refine Lp (V_move rfl rfl) rfl rfl ?_
  refine Lp (V_lenL rfl rfl Tryz.underlying25 rfl rfl) rfl rfl ?_
  refine Lp (V_move rfl rfl) rfl rfl ?_
  refine Lp (V_lenL rfl rfl Tryz.underlying25 rfl rfl) rfl rfl ?_
  refine Lp (V_neq rfl rfl rfl) rfl rfl ?_
  refine Lnil ?_
  refine thenN ?_
  refine AW.iff rfl (bnot_iff decide_eq_true_iff) h (fun h => ?_) (fun h => ?_)
  · refine AW.seq ?_
    refine AW.reg ?_
    refine Lp (V_asg rfl rfl) rfl rfl ?_
    refine Lnil ?_
    refine thenN ?_
    refine AW.ret ?_
    refine thenR ?_
    exact bR1 Tryz.results86 rfl ⟨_, rfl, h⟩
  refine AW.skip ?_
  refine thenN ?_
  refine AW.seqJ (fun fr σ => FrLe [] fr ∧ j1_ref02_SameTexts B ro Q σ) ?_ ?_
  · rintro fr σ ⟨hl, h⟩
    refine AW.weaken ?_ hl (HLe.refl _)
    unfold j1_ref02_SameTexts at h
    refine AW.seq ?_
    refine AW.reg ?_
    refine Lp (V_asg rfl rfl) rfl rfl ?_
    refine Lnil ?_
    refine thenN ?_
    refine AW.ret ?_
    exact bR1 Tryz.results86 rfl ⟨_, rfl, h⟩
  refine AW.seq ?_
  refine AW.reg ?_
  refine Lp (V_asg rfl rfl) rfl rfl ?_
  refine Lnil ?_
  refine thenN ?_
  refine AW.block ?_
  refine ARound.loop (fr' := [(0, Sl.v a0), (1, Sl.v a1), (5, .int .i64 0)]) ?_ (FrLe.cons rfl (FrLe.cons rfl (FrLe.cons rfl (FrLe.nil _))))
  refine h (fun x5_3 σ => ARound _ _ _ _ _ _ [(0, Sl.v a0), (1, Sl.v a1), (5, .int .i64 x5_3)] σ) ?_
  rintro x5_3 σ Y2 hY2 h
  show AW _ _ _ _ _ _ _ _
  unfold l2_ref02_SameTexts at h
  refine AW.seq ?_
  refine AW.seq ?_
  refine AW.reg ?_
  refine Lp (V_move rfl rfl) rfl rfl ?_
  refine Lp (V_move rfl rfl) rfl rfl ?_
  refine Lp (V_lenL rfl rfl Tryz.underlying25 rfl rfl) rfl rfl ?_
  refine Lp (V_lss rfl rfl rfl) rfl rfl ?_
  refine Lnil ?_
  refine thenN ?_
  refine AW.iff rfl decide_eq_true_iff h (fun h => ?_) (fun h => ?_)
  rotate_left
  · refine AW.exit ?_
    refine thenE ?_
    refine thenE ?_
    refine blockE ?_
    refine thenN ?_
    exact ⟨(FrLe.nil _), h⟩
  refine AW.skip ?_
  refine thenN ?_
  refine AW.seq ?_
  refine AW.block ?_
  refine AW.seq ?_
  refine AW.drawn0 (fun i => ([0, 0, 0, 3, 0, 0, 0, 3, 0] : List Nat).getD i 2) [] [0, 1, 2, 4, 5, 6, 3, 7, 8] Tryz.mixed (by decide +kernel) ?_
  refine Dp rfl rfl rfl rfl (V_move rfl rfl) ?_
  refine Dp rfl rfl rfl rfl (V_move rfl rfl) ?_
  obtain ⟨p19_4, ha, h0, h1, h⟩ := h
  refine Dp rfl rfl rfl rfl (V_ixA rfl Tryz.underlying25 ty9 (ixL rfl ha) rfl h0 h1) ?_
  refine Dp rfl rfl rfl rfl (V_move rfl rfl) ?_
  refine Dp rfl rfl rfl rfl (V_move rfl rfl) ?_
  obtain ⟨p23_5, ha, h0, h1, h⟩ := h
  refine Dp rfl rfl rfl rfl (V_ixA rfl Tryz.underlying25 ty9 (ixL rfl ha) rfl h0 h1) ?_
  obtain ⟨x20_6, hc, h⟩ := h
  refine Dr rfl rfl rfl rfl (R_ld rfl Tryz.underlying9 rfl rfl hc) ?_
  obtain ⟨x24_7, hc, h⟩ := h
  refine Dr rfl rfl rfl rfl (R_ld rfl Tryz.underlying9 rfl rfl hc) ?_
  refine Dp rfl rfl rfl rfl (V_neqS rfl rfl rfl) ?_
  refine Dend ?_
  refine thenN ?_
  refine AW.iff rfl (bnot_iff decide_eq_true_iff) h (fun h => ?_) (fun h => ?_)
  · refine AW.seq ?_
    refine AW.reg ?_
    refine Lp (V_asg rfl rfl) rfl rfl ?_
    refine Lnil ?_
    refine thenN ?_
    refine AW.ret ?_
    refine blockR ?_
    refine thenR ?_
    refine thenR ?_
    refine blockR ?_
    refine thenR ?_
    exact bR1 Tryz.results86 rfl ⟨_, rfl, h⟩
  refine AW.skip ?_
  refine blockN ?_
  refine thenN ?_
  refine AW.reg ?_
  refine Lp (V_move rfl rfl) rfl rfl ?_
  refine Lp (V_add rfl rfl rfl) rfl rfl ?_
  refine Lp (V_asg rfl rfl) rfl rfl ?_
  refine Lnil ?_
  refine thenN ?_
  refine ARound.head (fr' := [(0, Sl.v a0), (1, Sl.v a1), (5, .int .i64 (IntKind.i64.wrap (x5_3 + 1)))]) ?_ (FrLe.cons rfl (FrLe.cons rfl (FrLe.cons rfl (FrLe.nil _))))
  exact hY2 _ _ h

def f_ref02_Suffix (B : World) (ro : AH) (a0 : ByteArray) (a1 : Int) (σ : AH) (Q : ByteArray → Bool → AH → Prop) : Prop :=
 c_ref02_Parts B ro a0 σ fun x11_1 x11_2 σ =>
 if (((¬ (x11_2 = true)) ∨ ((x11_1.len : Int) = 0)) ∨ (a1 < 0)) ∨ (9999999999 < a1) then
  Q (⟨#[]⟩ : ByteArray) false σ
 else
 c_ref02_Digits B ro a1 σ fun x31_3 σ =>
 a0.size + x31_3.size ≤ 9223372036854775807 ∧
 c_ref02_Parts B ro (a0 ++ x31_3) σ fun x35_4 x35_5 σ =>
 if ¬ (x35_5 = true) then
  Q (⟨#[]⟩ : ByteArray) false σ
 else
 Q (a0 ++ x31_3) true σ

set_option maxRecDepth 100000 in
set_option maxHeartbeats 4000000 in
theorem ref02_Suffix_ok {B : World} {ro : AH} {a0 : ByteArray} {a1 : Int} {σ : AH} {Q : ByteArray → Bool → AH → Prop} (h : Sep ro σ → f_ref02_Suffix B ro a0 a1 σ Q) : c_ref02_Suffix B ro a0 a1 σ Q := by
  refine ACalls.of_sep fun hsep => ?_
  replace h := h hsep
  refine ACalls.of_body (args := [.string a0, .int .i64 a1]) Tryz.func93 rfl (by rw [Tryz.ntmps93]; simp) ?_
  rw [Tryz.ntmps93]
  unfold f_ref02_Suffix at h
  refine AW.seq ?_
  refine AW.reg ?_
  refine Lp (V_asg rfl rfl) rfl rfl ?_
  refine Lp (V_asg rfl rfl) rfl rfl ?_
  refine Lnil ?_
  refine thenN ?_
  refine AW.seq ?_
  refine AW.reg ?_
  refine Lp (V_move rfl rfl) rfl rfl ?_
  refine Ls rfl rfl (X_call rfl Tryz.func64 rfl rfl rfl (ACalls.mono h ?_))
  rintro v σ ⟨x11_1, x11_2, rfl, h⟩
  refine Lp (V_move rfl rfl) rfl rfl ?_
  refine Lp (V_ext rfl rfl rfl) rfl rfl ?_
  refine Lp (V_ext rfl rfl rfl) rfl rfl ?_
  refine Lp (V_asg rfl rfl) rfl rfl ?_
  refine Lp (V_asg rfl rfl) rfl rfl ?_
  refine Lnil ?_
  refine thenN ?_
  refine AW.seq ?_
  refine AW.seq ?_
  refine AW.reg ?_
  refine Lp (V_move rfl rfl) rfl rfl ?_
  refine Lp (V_not rfl rfl) rfl rfl ?_
  refine Lp (V_move rfl rfl) rfl rfl ?_
  refine Lsplit 4 (!x11_2) [(0, .string a0), (1, .int .i64 a1), (20, .bool ((!x11_2) || (decide ((x11_1.len : Int) = 0))))] ?_ ?_ ?_
  · intro e2 hk2
    refine Ln rfl rfl rfl rfl (.inl (by rw [e2]; rfl)) ?_
    refine Ln rfl rfl rfl rfl (.inl (by rw [e2]; rfl)) ?_
    refine Ln rfl rfl rfl rfl (.inl (by rw [e2]; rfl)) ?_
    refine Lp (V_pickT rfl (evb e2) rfl) rfl rfl ?_
    exact hk2 _ (FrLe.cons rfl (FrLe.cons rfl (FrLe.cons (by rw [e2]; rfl) (FrLe.nil _))))
  · intro e2 hk2
    refine Lypb (V_move rfl rfl) rfl rfl rfl rfl e2 ?_
    refine Lypb (V_lenL rfl rfl Tryz.underlying25 rfl rfl) rfl rfl rfl rfl e2 ?_
    refine Lypb (V_eql rfl rfl rfl) rfl rfl rfl rfl e2 ?_
    refine Lp (V_pickF rfl (evb e2) rfl) rfl rfl ?_
    exact hk2 _ (FrLe.cons rfl (FrLe.cons rfl (FrLe.cons (by rw [e2]; rfl) (FrLe.nil _))))
  intro fr hl
  refine Lfr hl ?_
  refine Lp (V_move rfl rfl) rfl rfl ?_
  refine Lsplit 3 ((!x11_2) || (decide ((x11_1.len : Int) = 0))) [(0, .string a0), (1, .int .i64 a1), (24, .bool (((!x11_2) || (decide ((x11_1.len : Int) = 0))) || (decide (a1 < 0))))] ?_ ?_ ?_
  · intro e7 hk7
    refine Ln rfl rfl rfl rfl (.inl (by rw [e7]; rfl)) ?_
    refine Ln rfl rfl rfl rfl (.inl (by rw [e7]; rfl)) ?_
    refine Lp (V_pickT rfl (evb e7) rfl) rfl rfl ?_
    exact hk7 _ (FrLe.cons rfl (FrLe.cons rfl (FrLe.cons (by rw [e7]; rfl) (FrLe.nil _))))
  · intro e7 hk7
    refine Lypb (V_move rfl rfl) rfl rfl rfl rfl e7 ?_
    refine Lypb (V_lss rfl rfl rfl) rfl rfl rfl rfl e7 ?_
    refine Lp (V_pickF rfl (evb e7) rfl) rfl rfl ?_
    exact hk7 _ (FrLe.cons rfl (FrLe.cons rfl (FrLe.cons (by rw [e7]; rfl) (FrLe.nil _))))
  intro fr hl
  refine Lfr hl ?_
  refine Lp (V_move rfl rfl) rfl rfl ?_
  refine Lsplit 3 (((!x11_2) || (decide ((x11_1.len : Int) = 0))) || (decide (a1 < 0))) [(0, .string a0), (1, .int .i64 a1), (28, .bool ((((!x11_2) || (decide ((x11_1.len : Int) = 0))) || (decide (a1 < 0))) || (decide (9999999999 < a1))))] ?_ ?_ ?_
  · intro e11 hk11
    refine Ln rfl rfl rfl rfl (.inl (by rw [e11]; rfl)) ?_
    refine Ln rfl rfl rfl rfl (.inl (by rw [e11]; rfl)) ?_
    refine Lp (V_pickT rfl (evb e11) rfl) rfl rfl ?_
    exact hk11 _ (FrLe.cons rfl (FrLe.cons rfl (FrLe.cons (by rw [e11]; rfl) (FrLe.nil _))))
  · intro e11 hk11
    refine Lypb (V_move rfl rfl) rfl rfl rfl rfl e11 ?_
    refine Lypb (V_gtr rfl rfl rfl) rfl rfl rfl rfl e11 ?_
    refine Lp (V_pickF rfl (evb e11) rfl) rfl rfl ?_
    exact hk11 _ (FrLe.cons rfl (FrLe.cons rfl (FrLe.cons (by rw [e11]; rfl) (FrLe.nil _))))
  intro fr hl
  refine Lfr hl ?_
  refine Lnil ?_
  refine thenN ?_
  refine AW.iff rfl (bor_iff (bor_iff (bor_iff (bnot_iff Iff.rfl) decide_eq_true_iff) decide_eq_true_iff) decide_eq_true_iff) h (fun h => ?_) (fun h => ?_)
  · refine AW.seq ?_
    refine AW.reg ?_
    refine Lp (V_asg rfl rfl) rfl rfl ?_
    refine Lp (V_asg rfl rfl) rfl rfl ?_
    refine Lnil ?_
    refine thenN ?_
    refine AW.ret ?_
    refine thenR ?_
    exact bR2 Tryz.results93 rfl rfl ⟨_, _, rfl, h⟩
  refine AW.skip ?_
  refine thenN ?_
  refine AW.seq ?_
  refine AW.reg ?_
  refine Lp (V_move rfl rfl) rfl rfl ?_
  refine Lp (V_move rfl rfl) rfl rfl ?_
  refine Ls rfl rfl (X_call rfl Tryz.func124 rfl rfl rfl (ACalls.mono h ?_))
  rintro v σ ⟨x31_3, rfl, h⟩
  obtain ⟨hc, h⟩ := h
  refine Lp (V_cat rfl rfl rfl hc) rfl rfl ?_
  refine Lp (V_asg rfl rfl) rfl rfl ?_
  refine Lnil ?_
  refine thenN ?_
  refine AW.seq ?_
  refine AW.reg ?_
  refine Lp (V_move rfl rfl) rfl rfl ?_
  refine Ls rfl rfl (X_call rfl Tryz.func64 rfl rfl rfl (ACalls.mono h ?_))
  rintro v σ ⟨x35_4, x35_5, rfl, h⟩
  refine Lp (V_move rfl rfl) rfl rfl ?_
  refine Lp (V_ext rfl rfl rfl) rfl rfl ?_
  refine Lp (V_ext rfl rfl rfl) rfl rfl ?_
  refine Lp (V_asg rfl rfl) rfl rfl ?_
  refine Lnil ?_
  refine thenN ?_
  refine AW.seq ?_
  refine AW.seq ?_
  refine AW.reg ?_
  refine Lp (V_move rfl rfl) rfl rfl ?_
  refine Lp (V_not rfl rfl) rfl rfl ?_
  refine Lnil ?_
  refine thenN ?_
  refine AW.iff rfl (bnot_iff Iff.rfl) h (fun h => ?_) (fun h => ?_)
  · refine AW.seq ?_
    refine AW.reg ?_
    refine Lp (V_asg rfl rfl) rfl rfl ?_
    refine Lp (V_asg rfl rfl) rfl rfl ?_
    refine Lnil ?_
    refine thenN ?_
    refine AW.ret ?_
    refine thenR ?_
    exact bR2 Tryz.results93 rfl rfl ⟨_, _, rfl, h⟩
  refine AW.skip ?_
  refine thenN ?_
  refine AW.seq ?_
  refine AW.reg ?_
  refine Lp (V_move rfl rfl) rfl rfl ?_
  refine Lp (V_asg rfl rfl) rfl rfl ?_
  refine Lp (V_asg rfl rfl) rfl rfl ?_
  refine Lnil ?_
  refine thenN ?_
  refine AW.ret ?_
  exact bR2 Tryz.results93 rfl rfl ⟨_, _, rfl, h⟩

def j1_ref02_Name (B : World) (ro : AH) (Q : Bool → AH → Prop) (σ : AH) : Prop :=
 Q true σ

def j5_ref02_Name (B : World) (ro : AH) (a0 : ByteArray) (x3_3 : Int) (x29_4 : UInt8) (Q : Bool → AH → Prop) (Y2 : (Int) → AH → Prop) (x43_6 : Bool) (σ : AH) : Prop :=
 if ¬ ((((x43_6 = true) ∨ ((x29_4.toNat : Int) = 46)) ∨ ((x29_4.toNat : Int) = 95)) ∨ ((x29_4.toNat : Int) = 45)) then
  Q false σ
 else
 Y2 (IntKind.i64.wrap (x3_3 + 1)) σ

def l2_ref02_Name (B : World) (ro : AH) (a0 : ByteArray) (Q : Bool → AH → Prop) : (Int) → AH → ((Int) → AH → Prop) → Prop := fun x3_3 σ Y2 =>
 if x3_3 < (a0.size : Int) then
  ∃ x29_4 : UInt8, (0 : Int) ≤ x3_3 ∧ a0[Int.toNat x3_3]? = some x29_4 ∧
  if (97 ≤ (x29_4.toNat : Int)) ∧ ((x29_4.toNat : Int) ≤ 122) then
   j5_ref02_Name B ro a0 x3_3 x29_4 Q Y2 true σ
  else
  j5_ref02_Name B ro a0 x3_3 x29_4 Q Y2 ((decide (48 ≤ (x29_4.toNat : Int))) && (decide ((x29_4.toNat : Int) ≤ 57))) σ
 else
 j1_ref02_Name B ro Q σ

def f_ref02_Name (B : World) (ro : AH) (a0 : ByteArray) (σ : AH) (Q : Bool → AH → Prop) : Prop :=
 if ((((a0.size : Int) < 1) ∨ (32 < (a0.size : Int))) ∨ (a0 = (⟨#[46]⟩ : ByteArray))) ∨ (a0 = (⟨#[46, 46]⟩ : ByteArray)) then
  Q false σ
 else
 lfpD (l2_ref02_Name B ro a0 Q ) (0) σ

set_option maxRecDepth 100000 in
set_option maxHeartbeats 4000000 in
theorem ref02_Name_ok {B : World} {ro : AH} {a0 : ByteArray} {σ : AH} {Q : Bool → AH → Prop} (h : Sep ro σ → f_ref02_Name B ro a0 σ Q) : c_ref02_Name B ro a0 σ Q := by
  refine ACalls.of_sep fun hsep => ?_
  replace h := h hsep
  refine ACalls.of_body (args := [.string a0]) Tryz.func112 rfl (by rw [Tryz.ntmps112]; simp) ?_
  rw [Tryz.ntmps112]
  unfold f_ref02_Name at h
  refine AW.seq ?_
  refine AW.reg ?_
  refine Lp (V_asg rfl rfl) rfl rfl ?_
  refine Lnil ?_
  refine thenN ?_
  refine AW.seq ?_
  refine AW.seq ?_
  refine AW.reg ?_
  refine Lp (V_move rfl rfl) rfl rfl ?_
  refine Lp (V_lenS rfl rfl Tryz.underlying9 rfl rfl) rfl rfl ?_
  refine Lp (V_lss rfl rfl rfl) rfl rfl ?_
  refine Lp (V_move rfl rfl) rfl rfl ?_
  refine Lsplit 4 (decide ((a0.size : Int) < 1)) [(0, .string a0), (12, .bool ((decide ((a0.size : Int) < 1)) || (decide (32 < (a0.size : Int)))))] ?_ ?_ ?_
  · intro e3 hk3
    refine Ln rfl rfl rfl rfl (.inl (by rw [e3]; rfl)) ?_
    refine Ln rfl rfl rfl rfl (.inl (by rw [e3]; rfl)) ?_
    refine Ln rfl rfl rfl rfl (.inl (by rw [e3]; rfl)) ?_
    refine Lp (V_pickT rfl (evb e3) rfl) rfl rfl ?_
    exact hk3 _ (FrLe.cons rfl (FrLe.cons (by rw [e3]; rfl) (FrLe.nil _)))
  · intro e3 hk3
    refine Lypb (V_move rfl rfl) rfl rfl rfl rfl e3 ?_
    refine Lypb (V_lenS rfl rfl Tryz.underlying9 rfl rfl) rfl rfl rfl rfl e3 ?_
    refine Lypb (V_gtr rfl rfl rfl) rfl rfl rfl rfl e3 ?_
    refine Lp (V_pickF rfl (evb e3) rfl) rfl rfl ?_
    exact hk3 _ (FrLe.cons rfl (FrLe.cons (by rw [e3]; rfl) (FrLe.nil _)))
  intro fr hl
  refine Lfr hl ?_
  refine Lp (V_move rfl rfl) rfl rfl ?_
  refine Lsplit 3 ((decide ((a0.size : Int) < 1)) || (decide (32 < (a0.size : Int)))) [(0, .string a0), (16, .bool (((decide ((a0.size : Int) < 1)) || (decide (32 < (a0.size : Int)))) || (decide (a0 = (⟨#[46]⟩ : ByteArray)))))] ?_ ?_ ?_
  · intro e8 hk8
    refine Ln rfl rfl rfl rfl (.inl (by rw [e8]; rfl)) ?_
    refine Ln rfl rfl rfl rfl (.inl (by rw [e8]; rfl)) ?_
    refine Lp (V_pickT rfl (evb e8) rfl) rfl rfl ?_
    exact hk8 _ (FrLe.cons rfl (FrLe.cons (by rw [e8]; rfl) (FrLe.nil _)))
  · intro e8 hk8
    refine Lypb (V_move rfl rfl) rfl rfl rfl rfl e8 ?_
    refine Lypb (V_eqlS rfl rfl rfl) rfl rfl rfl rfl e8 ?_
    refine Lp (V_pickF rfl (evb e8) rfl) rfl rfl ?_
    exact hk8 _ (FrLe.cons rfl (FrLe.cons (by rw [e8]; rfl) (FrLe.nil _)))
  intro fr hl
  refine Lfr hl ?_
  refine Lp (V_move rfl rfl) rfl rfl ?_
  refine Lsplit 3 (((decide ((a0.size : Int) < 1)) || (decide (32 < (a0.size : Int)))) || (decide (a0 = (⟨#[46]⟩ : ByteArray)))) [(0, .string a0), (20, .bool ((((decide ((a0.size : Int) < 1)) || (decide (32 < (a0.size : Int)))) || (decide (a0 = (⟨#[46]⟩ : ByteArray)))) || (decide (a0 = (⟨#[46, 46]⟩ : ByteArray)))))] ?_ ?_ ?_
  · intro e12 hk12
    refine Ln rfl rfl rfl rfl (.inl (by rw [e12]; rfl)) ?_
    refine Ln rfl rfl rfl rfl (.inl (by rw [e12]; rfl)) ?_
    refine Lp (V_pickT rfl (evb e12) rfl) rfl rfl ?_
    exact hk12 _ (FrLe.cons rfl (FrLe.cons (by rw [e12]; rfl) (FrLe.nil _)))
  · intro e12 hk12
    refine Lypb (V_move rfl rfl) rfl rfl rfl rfl e12 ?_
    refine Lypb (V_eqlS rfl rfl rfl) rfl rfl rfl rfl e12 ?_
    refine Lp (V_pickF rfl (evb e12) rfl) rfl rfl ?_
    exact hk12 _ (FrLe.cons rfl (FrLe.cons (by rw [e12]; rfl) (FrLe.nil _)))
  intro fr hl
  refine Lfr hl ?_
  refine Lnil ?_
  refine thenN ?_
  refine AW.iff rfl (bor_iff (bor_iff (bor_iff decide_eq_true_iff decide_eq_true_iff) decide_eq_true_iff) decide_eq_true_iff) h (fun h => ?_) (fun h => ?_)
  · refine AW.seq ?_
    refine AW.reg ?_
    refine Lp (V_asg rfl rfl) rfl rfl ?_
    refine Lnil ?_
    refine thenN ?_
    refine AW.ret ?_
    refine thenR ?_
    exact bR1 Tryz.results112 rfl ⟨_, rfl, h⟩
  refine AW.skip ?_
  refine thenN ?_
  refine AW.seqJ (fun fr σ => FrLe [] fr ∧ j1_ref02_Name B ro Q σ) ?_ ?_
  · rintro fr σ ⟨hl, h⟩
    refine AW.weaken ?_ hl (HLe.refl _)
    unfold j1_ref02_Name at h
    refine AW.seq ?_
    refine AW.reg ?_
    refine Lp (V_asg rfl rfl) rfl rfl ?_
    refine Lnil ?_
    refine thenN ?_
    refine AW.ret ?_
    exact bR1 Tryz.results112 rfl ⟨_, rfl, h⟩
  refine AW.seq ?_
  refine AW.reg ?_
  refine Lp (V_asg rfl rfl) rfl rfl ?_
  refine Lnil ?_
  refine thenN ?_
  refine AW.block ?_
  refine ARound.loop (fr' := [(0, .string a0), (3, .int .i64 0)]) ?_ (FrLe.cons rfl (FrLe.cons rfl (FrLe.nil _)))
  refine h (fun x3_3 σ => ARound _ _ _ _ _ _ [(0, .string a0), (3, .int .i64 x3_3)] σ) ?_
  rintro x3_3 σ Y2 hY2 h
  show AW _ _ _ _ _ _ _ _
  unfold l2_ref02_Name at h
  refine AW.seq ?_
  refine AW.seq ?_
  refine AW.reg ?_
  refine Lp (V_move rfl rfl) rfl rfl ?_
  refine Lp (V_move rfl rfl) rfl rfl ?_
  refine Lp (V_lenS rfl rfl Tryz.underlying9 rfl rfl) rfl rfl ?_
  refine Lp (V_lss rfl rfl rfl) rfl rfl ?_
  refine Lnil ?_
  refine thenN ?_
  refine AW.iff rfl decide_eq_true_iff h (fun h => ?_) (fun h => ?_)
  rotate_left
  · refine AW.exit ?_
    refine thenE ?_
    refine thenE ?_
    refine blockE ?_
    refine thenN ?_
    exact ⟨(FrLe.nil _), h⟩
  refine AW.skip ?_
  refine thenN ?_
  refine AW.seq ?_
  refine AW.block ?_
  refine AW.seq ?_
  refine AW.reg ?_
  refine Lp (V_move rfl rfl) rfl rfl ?_
  refine Lp (V_move rfl rfl) rfl rfl ?_
  obtain ⟨x29_4, h0, hc, h⟩ := h
  refine Lp (V_idxS rfl Tryz.underlying9 rfl rfl h0 hc) rfl rfl ?_
  refine Lp (V_asg rfl rfl) rfl rfl ?_
  refine Lnil ?_
  refine thenN ?_
  refine AW.seq ?_
  refine AW.reg ?_
  refine Lp (V_move rfl rfl) rfl rfl ?_
  refine Lp (V_geq rfl rfl rfl) rfl rfl ?_
  refine Lp (V_move rfl rfl) rfl rfl ?_
  refine Lsplit 3 (decide (97 ≤ (x29_4.toNat : Int))) [(0, .string a0), (3, .int .i64 x3_3), (4, .int .u8 (x29_4.toNat : Int)), (35, .bool ((decide (97 ≤ (x29_4.toNat : Int))) && (decide ((x29_4.toNat : Int) ≤ 122))))] ?_ ?_ ?_
  · intro e2 hk2
    refine Lypb (V_move rfl rfl) rfl rfl rfl rfl e2 ?_
    refine Lypb (V_leq rfl rfl rfl) rfl rfl rfl rfl e2 ?_
    refine Lp (V_pickT rfl (evb e2) rfl) rfl rfl ?_
    exact hk2 _ (FrLe.cons rfl (FrLe.cons rfl (FrLe.cons rfl (FrLe.cons (by rw [e2]; rfl) (FrLe.nil _)))))
  · intro e2 hk2
    refine Ln rfl rfl rfl rfl (.inl (by rw [e2]; rfl)) ?_
    refine Ln rfl rfl rfl rfl (.inl (by rw [e2]; rfl)) ?_
    refine Lp (V_pickF rfl (evb e2) rfl) rfl rfl ?_
    exact hk2 _ (FrLe.cons rfl (FrLe.cons rfl (FrLe.cons rfl (FrLe.cons (by rw [e2]; rfl) (FrLe.nil _)))))
  intro fr hl
  refine Lfr hl ?_
  refine Lp (V_move rfl rfl) rfl rfl ?_
  refine LsplitJ 7 ((decide (97 ≤ (x29_4.toNat : Int))) && (decide ((x29_4.toNat : Int) ≤ 122))) (band_iff decide_eq_true_iff decide_eq_true_iff) h (fun fr σ => ∃ (x43_6 : Bool), FrLe [(0, .string a0), (3, .int .i64 x3_3), (4, .int .u8 (x29_4.toNat : Int)), (43, .bool x43_6)] fr ∧ j5_ref02_Name B ro a0 x3_3 x29_4 Q Y2 x43_6 σ) ?_ ?_ ?_
  · intro h e6 hk6
    refine Ln rfl rfl rfl rfl (.inl (by rw [e6]; rfl)) ?_
    refine Ln rfl rfl rfl rfl (.inl (by rw [e6]; rfl)) ?_
    refine Ln rfl rfl rfl rfl (.inl (by rw [e6]; rfl)) ?_
    refine Ln rfl rfl rfl rfl (.inr rfl) ?_
    refine Ln rfl rfl rfl rfl (.inr rfl) ?_
    refine Ln rfl rfl rfl rfl (.inl (by rw [e6]; rfl)) ?_
    refine Lp (V_pickT rfl (evb e6) rfl) rfl rfl ?_
    exact hk6 _ _ ⟨_, (FrLe.cons rfl (FrLe.cons rfl (FrLe.cons rfl (FrLe.cons rfl (FrLe.nil _))))), h⟩
  · intro h e6 hk6
    refine Lypb (V_move rfl rfl) rfl rfl rfl rfl e6 ?_
    refine Lypb (V_geq rfl rfl rfl) rfl rfl rfl rfl e6 ?_
    refine Lypb (V_move rfl rfl) rfl rfl rfl rfl e6 ?_
    refine Lsplit 3 (decide (48 ≤ (x29_4.toNat : Int))) [(0, .string a0), (3, .int .i64 x3_3), (4, .int .u8 (x29_4.toNat : Int)), (36, .bool ((decide (97 ≤ (x29_4.toNat : Int))) && (decide ((x29_4.toNat : Int) ≤ 122)))), (42, .bool ((decide (48 ≤ (x29_4.toNat : Int))) && (decide ((x29_4.toNat : Int) ≤ 57))))] ?_ ?_ ?_
    · intro e9 hk9
      refine Lypb (V_move rfl rfl) rfl rfl rfl rfl e9 ?_
      refine Lypb (V_leq rfl rfl rfl) rfl rfl rfl rfl e9 ?_
      refine Lypb (V_pickT rfl (evb e9) rfl) rfl rfl rfl rfl e6 ?_
      exact hk9 _ (FrLe.cons rfl (FrLe.cons rfl (FrLe.cons rfl (FrLe.cons rfl (FrLe.cons (by rw [e9]; rfl) (FrLe.nil _))))))
    · intro e9 hk9
      refine Ln rfl rfl rfl rfl (.inl (by rw [e9]; rfl)) ?_
      refine Ln rfl rfl rfl rfl (.inl (by rw [e9]; rfl)) ?_
      refine Lypb (V_pickF rfl (evb e9) rfl) rfl rfl rfl rfl e6 ?_
      exact hk9 _ (FrLe.cons rfl (FrLe.cons rfl (FrLe.cons rfl (FrLe.cons rfl (FrLe.cons (by rw [e9]; rfl) (FrLe.nil _))))))
    intro fr hl
    refine Lfr hl ?_
    refine Lp (V_pickF rfl (evb e6) rfl) rfl rfl ?_
    exact hk6 _ _ ⟨_, (FrLe.cons rfl (FrLe.cons rfl (FrLe.cons rfl (FrLe.cons rfl (FrLe.nil _))))), h⟩
  rintro fr σ ⟨x43_6, hl, h⟩
  unfold j5_ref02_Name at h
  refine Lfr hl ?_
  refine Lp (V_move rfl rfl) rfl rfl ?_
  refine Lsplit 3 x43_6 [(0, .string a0), (3, .int .i64 x3_3), (4, .int .u8 (x29_4.toNat : Int)), (47, .bool (x43_6 || (decide ((x29_4.toNat : Int) = 46))))] ?_ ?_ ?_
  · intro e14 hk14
    refine Ln rfl rfl rfl rfl (.inl (by rw [e14]; rfl)) ?_
    refine Ln rfl rfl rfl rfl (.inl (by rw [e14]; rfl)) ?_
    refine Lp (V_pickT rfl (evb e14) rfl) rfl rfl ?_
    exact hk14 _ (FrLe.cons rfl (FrLe.cons rfl (FrLe.cons rfl (FrLe.cons (by rw [e14]; rfl) (FrLe.nil _)))))
  · intro e14 hk14
    refine Lypb (V_move rfl rfl) rfl rfl rfl rfl e14 ?_
    refine Lypb (V_eql rfl rfl rfl) rfl rfl rfl rfl e14 ?_
    refine Lp (V_pickF rfl (evb e14) rfl) rfl rfl ?_
    exact hk14 _ (FrLe.cons rfl (FrLe.cons rfl (FrLe.cons rfl (FrLe.cons (by rw [e14]; rfl) (FrLe.nil _)))))
  intro fr hl
  refine Lfr hl ?_
  refine Lp (V_move rfl rfl) rfl rfl ?_
  refine Lsplit 3 (x43_6 || (decide ((x29_4.toNat : Int) = 46))) [(0, .string a0), (3, .int .i64 x3_3), (4, .int .u8 (x29_4.toNat : Int)), (51, .bool ((x43_6 || (decide ((x29_4.toNat : Int) = 46))) || (decide ((x29_4.toNat : Int) = 95))))] ?_ ?_ ?_
  · intro e18 hk18
    refine Ln rfl rfl rfl rfl (.inl (by rw [e18]; rfl)) ?_
    refine Ln rfl rfl rfl rfl (.inl (by rw [e18]; rfl)) ?_
    refine Lp (V_pickT rfl (evb e18) rfl) rfl rfl ?_
    exact hk18 _ (FrLe.cons rfl (FrLe.cons rfl (FrLe.cons rfl (FrLe.cons (by rw [e18]; rfl) (FrLe.nil _)))))
  · intro e18 hk18
    refine Lypb (V_move rfl rfl) rfl rfl rfl rfl e18 ?_
    refine Lypb (V_eql rfl rfl rfl) rfl rfl rfl rfl e18 ?_
    refine Lp (V_pickF rfl (evb e18) rfl) rfl rfl ?_
    exact hk18 _ (FrLe.cons rfl (FrLe.cons rfl (FrLe.cons rfl (FrLe.cons (by rw [e18]; rfl) (FrLe.nil _)))))
  intro fr hl
  refine Lfr hl ?_
  refine Lp (V_move rfl rfl) rfl rfl ?_
  refine Lsplit 3 ((x43_6 || (decide ((x29_4.toNat : Int) = 46))) || (decide ((x29_4.toNat : Int) = 95))) [(0, .string a0), (3, .int .i64 x3_3), (55, .bool (((x43_6 || (decide ((x29_4.toNat : Int) = 46))) || (decide ((x29_4.toNat : Int) = 95))) || (decide ((x29_4.toNat : Int) = 45))))] ?_ ?_ ?_
  · intro e22 hk22
    refine Ln rfl rfl rfl rfl (.inl (by rw [e22]; rfl)) ?_
    refine Ln rfl rfl rfl rfl (.inl (by rw [e22]; rfl)) ?_
    refine Lp (V_pickT rfl (evb e22) rfl) rfl rfl ?_
    exact hk22 _ (FrLe.cons rfl (FrLe.cons rfl (FrLe.cons (by rw [e22]; rfl) (FrLe.nil _))))
  · intro e22 hk22
    refine Lypb (V_move rfl rfl) rfl rfl rfl rfl e22 ?_
    refine Lypb (V_eql rfl rfl rfl) rfl rfl rfl rfl e22 ?_
    refine Lp (V_pickF rfl (evb e22) rfl) rfl rfl ?_
    exact hk22 _ (FrLe.cons rfl (FrLe.cons rfl (FrLe.cons (by rw [e22]; rfl) (FrLe.nil _))))
  intro fr hl
  refine Lfr hl ?_
  refine Lp (V_not rfl rfl) rfl rfl ?_
  refine Lnil ?_
  refine thenN ?_
  refine AW.iff rfl (bnot_iff (bor_iff (bor_iff (bor_iff Iff.rfl decide_eq_true_iff) decide_eq_true_iff) decide_eq_true_iff)) h (fun h => ?_) (fun h => ?_)
  · refine AW.seq ?_
    refine AW.reg ?_
    refine Lp (V_asg rfl rfl) rfl rfl ?_
    refine Lnil ?_
    refine thenN ?_
    refine AW.ret ?_
    refine blockR ?_
    refine thenR ?_
    refine thenR ?_
    refine blockR ?_
    refine thenR ?_
    exact bR1 Tryz.results112 rfl ⟨_, rfl, h⟩
  refine AW.skip ?_
  refine blockN ?_
  refine thenN ?_
  refine AW.reg ?_
  refine Lp (V_move rfl rfl) rfl rfl ?_
  refine Lp (V_add rfl rfl rfl) rfl rfl ?_
  refine Lp (V_asg rfl rfl) rfl rfl ?_
  refine Lnil ?_
  refine thenN ?_
  refine ARound.head (fr' := [(0, .string a0), (3, .int .i64 (IntKind.i64.wrap (x3_3 + 1)))]) ?_ (FrLe.cons rfl (FrLe.cons rfl (FrLe.nil _)))
  exact hY2 _ _ h

def f_ref02_Base (B : World) (ro : AH) (a0 : ByteArray) (σ : AH) (Q : ByteArray → Bool → AH → Prop) : Prop :=
 c_ref02_Parts B ro a0 σ fun x8_1 x8_2 σ =>
 if (¬ (x8_2 = true)) ∨ ((x8_1.len : Int) = 0) then
  Q (⟨#[]⟩ : ByteArray) false σ
 else
 ∃ p22_3 : Addr, x8_1.a = some p22_3 ∧ (0 : Int) ≤ (IntKind.i64.wrap ((x8_1.len : Int) - 1)) ∧ (IntKind.i64.wrap ((x8_1.len : Int) - 1)) < (x8_1.len : Int) ∧
 ∃ (x23_4 : ByteArray), acell ro σ (p22_3.add (Int.toNat (IntKind.i64.wrap ((x8_1.len : Int) - 1)) * 1)) = some (.string x23_4) ∧
 Q x23_4 true σ

set_option maxRecDepth 100000 in
set_option maxHeartbeats 4000000 in
theorem ref02_Base_ok {B : World} {ro : AH} {a0 : ByteArray} {σ : AH} {Q : ByteArray → Bool → AH → Prop} (h : Sep ro σ → f_ref02_Base B ro a0 σ Q) : c_ref02_Base B ro a0 σ Q := by
  refine ACalls.of_sep fun hsep => ?_
  replace h := h hsep
  refine ACalls.of_body (args := [.string a0]) Tryz.func122 rfl (by rw [Tryz.ntmps122]; simp) ?_
  rw [Tryz.ntmps122]
  unfold f_ref02_Base at h
  refine AW.seq ?_
  refine AW.reg ?_
  refine Lp (V_asg rfl rfl) rfl rfl ?_
  refine Lp (V_asg rfl rfl) rfl rfl ?_
  refine Lnil ?_
  refine thenN ?_
  refine AW.seq ?_
  refine AW.reg ?_
  refine Lp (V_move rfl rfl) rfl rfl ?_
  refine Ls rfl rfl (X_call rfl Tryz.func64 rfl rfl rfl (ACalls.mono h ?_))
  rintro v σ ⟨x8_1, x8_2, rfl, h⟩
  refine Lp (V_move rfl rfl) rfl rfl ?_
  refine Lp (V_ext rfl rfl rfl) rfl rfl ?_
  refine Lp (V_ext rfl rfl rfl) rfl rfl ?_
  refine Lp (V_asg rfl rfl) rfl rfl ?_
  refine Lp (V_asg rfl rfl) rfl rfl ?_
  refine Lnil ?_
  refine thenN ?_
  refine AW.seq ?_
  refine AW.seq ?_
  refine AW.reg ?_
  refine Lp (V_move rfl rfl) rfl rfl ?_
  refine Lp (V_not rfl rfl) rfl rfl ?_
  refine Lp (V_move rfl rfl) rfl rfl ?_
  refine Lsplit 4 (!x8_2) [(4, Sl.v x8_1), (17, .bool ((!x8_2) || (decide ((x8_1.len : Int) = 0))))] ?_ ?_ ?_
  · intro e2 hk2
    refine Ln rfl rfl rfl rfl (.inl (by rw [e2]; rfl)) ?_
    refine Ln rfl rfl rfl rfl (.inl (by rw [e2]; rfl)) ?_
    refine Ln rfl rfl rfl rfl (.inl (by rw [e2]; rfl)) ?_
    refine Lp (V_pickT rfl (evb e2) rfl) rfl rfl ?_
    exact hk2 _ (FrLe.cons rfl (FrLe.cons (by rw [e2]; rfl) (FrLe.nil _)))
  · intro e2 hk2
    refine Lypb (V_move rfl rfl) rfl rfl rfl rfl e2 ?_
    refine Lypb (V_lenL rfl rfl Tryz.underlying25 rfl rfl) rfl rfl rfl rfl e2 ?_
    refine Lypb (V_eql rfl rfl rfl) rfl rfl rfl rfl e2 ?_
    refine Lp (V_pickF rfl (evb e2) rfl) rfl rfl ?_
    exact hk2 _ (FrLe.cons rfl (FrLe.cons (by rw [e2]; rfl) (FrLe.nil _)))
  intro fr hl
  refine Lfr hl ?_
  refine Lnil ?_
  refine thenN ?_
  refine AW.iff rfl (bor_iff (bnot_iff Iff.rfl) decide_eq_true_iff) h (fun h => ?_) (fun h => ?_)
  · refine AW.seq ?_
    refine AW.reg ?_
    refine Lp (V_asg rfl rfl) rfl rfl ?_
    refine Lp (V_asg rfl rfl) rfl rfl ?_
    refine Lnil ?_
    refine thenN ?_
    refine AW.ret ?_
    refine thenR ?_
    exact bR2 Tryz.results122 rfl rfl ⟨_, _, rfl, h⟩
  refine AW.skip ?_
  refine thenN ?_
  refine AW.seq ?_
  refine AW.reg ?_
  refine Lp (V_move rfl rfl) rfl rfl ?_
  refine Lp (V_move rfl rfl) rfl rfl ?_
  refine Lp (V_lenL rfl rfl Tryz.underlying25 rfl rfl) rfl rfl ?_
  refine Lp (V_sub rfl rfl rfl) rfl rfl ?_
  obtain ⟨p22_3, ha, h0, h1, h⟩ := h
  refine Lp (V_ixA rfl Tryz.underlying25 ty9 (ixL rfl ha) rfl h0 h1) rfl rfl ?_
  obtain ⟨x23_4, hc, h⟩ := h
  refine Ls rfl rfl (X_ld rfl Tryz.underlying9 rfl rfl hc ?_)
  refine Lp (V_asg rfl rfl) rfl rfl ?_
  refine Lp (V_asg rfl rfl) rfl rfl ?_
  refine Lnil ?_
  refine thenN ?_
  refine AW.ret ?_
  exact bR2 Tryz.results122 rfl rfl ⟨_, _, rfl, h⟩

def j5_ref02_Under (B : World) (ro : AH) (Q : Bool → Bool → AH → Prop) (σ : AH) : Prop :=
 Q true true σ

def l6_ref02_Under (B : World) (ro : AH) (x13_1 : Sl) (x18_3 : Sl) (Q : Bool → Bool → AH → Prop) : (Int) → AH → ((Int) → AH → Prop) → Prop := fun x10_7 σ Y6 =>
 if x10_7 < (x13_1.len : Int) then
  ∃ p40_8 : Addr, x13_1.a = some p40_8 ∧ (0 : Int) ≤ x10_7 ∧ x10_7 < (x13_1.len : Int) ∧
  ∃ p44_9 : Addr, x18_3.a = some p44_9 ∧ (0 : Int) ≤ x10_7 ∧ x10_7 < (x18_3.len : Int) ∧
  ∃ (x41_10 : ByteArray), acell ro σ (p40_8.add (Int.toNat x10_7 * 1)) = some (.string x41_10) ∧
  ∃ (x45_11 : ByteArray), acell ro σ (p44_9.add (Int.toNat x10_7 * 1)) = some (.string x45_11) ∧
  if ¬ (x41_10 = x45_11) then
   Q false true σ
  else
  Y6 (IntKind.i64.wrap (x10_7 + 1)) σ
 else
 j5_ref02_Under B ro Q σ

def f_ref02_Under (B : World) (ro : AH) (a0 : ByteArray) (a1 : ByteArray) (σ : AH) (Q : Bool → Bool → AH → Prop) : Prop :=
 c_ref02_Parts B ro a0 σ fun x13_1 x13_2 σ =>
 c_ref02_Parts B ro a1 σ fun x18_3 x18_4 σ =>
 if (¬ (x13_2 = true)) ∨ (¬ (x18_4 = true)) then
  Q false false σ
 else
 if (x18_3.len : Int) < (x13_1.len : Int) then
  Q false true σ
 else
 lfpD (l6_ref02_Under B ro x13_1 x18_3 Q ) (0) σ

set_option maxRecDepth 100000 in
set_option maxHeartbeats 4000000 in
theorem ref02_Under_ok {B : World} {ro : AH} {a0 : ByteArray} {a1 : ByteArray} {σ : AH} {Q : Bool → Bool → AH → Prop} (h : Sep ro σ → f_ref02_Under B ro a0 a1 σ Q) : c_ref02_Under B ro a0 a1 σ Q := by
  refine ACalls.of_sep fun hsep => ?_
  replace h := h hsep
  refine ACalls.of_body (args := [.string a0, .string a1]) Tryz.func123 rfl (by rw [Tryz.ntmps123]; simp) ?_
  rw [Tryz.ntmps123]
  unfold f_ref02_Under at h
  refine AW.seq ?_
  refine AW.reg ?_
  refine Lp (V_asg rfl rfl) rfl rfl ?_
  refine Lp (V_asg rfl rfl) rfl rfl ?_
  refine Lnil ?_
  refine thenN ?_
  refine AW.seq ?_
  refine AW.reg ?_
  refine Lp (V_move rfl rfl) rfl rfl ?_
  refine Ls rfl rfl (X_call rfl Tryz.func64 rfl rfl rfl (ACalls.mono h ?_))
  rintro v σ ⟨x13_1, x13_2, rfl, h⟩
  refine Lp (V_move rfl rfl) rfl rfl ?_
  refine Lp (V_ext rfl rfl rfl) rfl rfl ?_
  refine Lp (V_ext rfl rfl rfl) rfl rfl ?_
  refine Lp (V_asg rfl rfl) rfl rfl ?_
  refine Lp (V_asg rfl rfl) rfl rfl ?_
  refine Lnil ?_
  refine thenN ?_
  refine AW.seq ?_
  refine AW.reg ?_
  refine Lp (V_move rfl rfl) rfl rfl ?_
  refine Ls rfl rfl (X_call rfl Tryz.func64 rfl rfl rfl (ACalls.mono h ?_))
  rintro v σ ⟨x18_3, x18_4, rfl, h⟩
  refine Lp (V_move rfl rfl) rfl rfl ?_
  refine Lp (V_ext rfl rfl rfl) rfl rfl ?_
  refine Lp (V_ext rfl rfl rfl) rfl rfl ?_
  refine Lp (V_asg rfl rfl) rfl rfl ?_
  refine Lp (V_asg rfl rfl) rfl rfl ?_
  refine Lnil ?_
  refine thenN ?_
  refine AW.seq ?_
  refine AW.seq ?_
  refine AW.reg ?_
  refine Lp (V_move rfl rfl) rfl rfl ?_
  refine Lp (V_not rfl rfl) rfl rfl ?_
  refine Lp (V_move rfl rfl) rfl rfl ?_
  refine Lsplit 3 (!x13_2) [(6, Sl.v x13_1), (8, Sl.v x18_3), (26, .bool ((!x13_2) || (!x18_4)))] ?_ ?_ ?_
  · intro e2 hk2
    refine Ln rfl rfl rfl rfl (.inl (by rw [e2]; rfl)) ?_
    refine Ln rfl rfl rfl rfl (.inl (by rw [e2]; rfl)) ?_
    refine Lp (V_pickT rfl (evb e2) rfl) rfl rfl ?_
    exact hk2 _ (FrLe.cons rfl (FrLe.cons rfl (FrLe.cons (by rw [e2]; rfl) (FrLe.nil _))))
  · intro e2 hk2
    refine Lypb (V_move rfl rfl) rfl rfl rfl rfl e2 ?_
    refine Lypb (V_not rfl rfl) rfl rfl rfl rfl e2 ?_
    refine Lp (V_pickF rfl (evb e2) rfl) rfl rfl ?_
    exact hk2 _ (FrLe.cons rfl (FrLe.cons rfl (FrLe.cons (by rw [e2]; rfl) (FrLe.nil _))))
  intro fr hl
  refine Lfr hl ?_
  refine Lnil ?_
  refine thenN ?_
  refine AW.iff rfl (bor_iff (bnot_iff Iff.rfl) (bnot_iff Iff.rfl)) h (fun h => ?_) (fun h => ?_)
  · refine AW.seq ?_
    refine AW.reg ?_
    refine Lp (V_asg rfl rfl) rfl rfl ?_
    refine Lp (V_asg rfl rfl) rfl rfl ?_
    refine Lnil ?_
    refine thenN ?_
    refine AW.ret ?_
    refine thenR ?_
    exact bR2 Tryz.results123 rfl rfl ⟨_, _, rfl, h⟩
  refine AW.skip ?_
  refine thenN ?_
  refine AW.seq ?_
  refine AW.seq ?_
  refine AW.reg ?_
  refine Lp (V_move rfl rfl) rfl rfl ?_
  refine Lp (V_lenL rfl rfl Tryz.underlying25 rfl rfl) rfl rfl ?_
  refine Lp (V_move rfl rfl) rfl rfl ?_
  refine Lp (V_lenL rfl rfl Tryz.underlying25 rfl rfl) rfl rfl ?_
  refine Lp (V_gtr rfl rfl rfl) rfl rfl ?_
  refine Lnil ?_
  refine thenN ?_
  refine AW.iff rfl decide_eq_true_iff h (fun h => ?_) (fun h => ?_)
  · refine AW.seq ?_
    refine AW.reg ?_
    refine Lp (V_asg rfl rfl) rfl rfl ?_
    refine Lp (V_asg rfl rfl) rfl rfl ?_
    refine Lnil ?_
    refine thenN ?_
    refine AW.ret ?_
    refine thenR ?_
    exact bR2 Tryz.results123 rfl rfl ⟨_, _, rfl, h⟩
  refine AW.skip ?_
  refine thenN ?_
  refine AW.seqJ (fun fr σ => FrLe [] fr ∧ j5_ref02_Under B ro Q σ) ?_ ?_
  · rintro fr σ ⟨hl, h⟩
    refine AW.weaken ?_ hl (HLe.refl _)
    unfold j5_ref02_Under at h
    refine AW.seq ?_
    refine AW.reg ?_
    refine Lp (V_asg rfl rfl) rfl rfl ?_
    refine Lp (V_asg rfl rfl) rfl rfl ?_
    refine Lnil ?_
    refine thenN ?_
    refine AW.ret ?_
    exact bR2 Tryz.results123 rfl rfl ⟨_, _, rfl, h⟩
  refine AW.seq ?_
  refine AW.reg ?_
  refine Lp (V_asg rfl rfl) rfl rfl ?_
  refine Lnil ?_
  refine thenN ?_
  refine AW.block ?_
  refine ARound.loop (fr' := [(6, Sl.v x13_1), (8, Sl.v x18_3), (10, .int .i64 0)]) ?_ (FrLe.cons rfl (FrLe.cons rfl (FrLe.cons rfl (FrLe.nil _))))
  refine h (fun x10_7 σ => ARound _ _ _ _ _ _ [(6, Sl.v x13_1), (8, Sl.v x18_3), (10, .int .i64 x10_7)] σ) ?_
  rintro x10_7 σ Y6 hY6 h
  show AW _ _ _ _ _ _ _ _
  unfold l6_ref02_Under at h
  refine AW.seq ?_
  refine AW.seq ?_
  refine AW.reg ?_
  refine Lp (V_move rfl rfl) rfl rfl ?_
  refine Lp (V_move rfl rfl) rfl rfl ?_
  refine Lp (V_lenL rfl rfl Tryz.underlying25 rfl rfl) rfl rfl ?_
  refine Lp (V_lss rfl rfl rfl) rfl rfl ?_
  refine Lnil ?_
  refine thenN ?_
  refine AW.iff rfl decide_eq_true_iff h (fun h => ?_) (fun h => ?_)
  rotate_left
  · refine AW.exit ?_
    refine thenE ?_
    refine thenE ?_
    refine blockE ?_
    refine thenN ?_
    exact ⟨(FrLe.nil _), h⟩
  refine AW.skip ?_
  refine thenN ?_
  refine AW.seq ?_
  refine AW.block ?_
  refine AW.seq ?_
  refine AW.drawn0 (fun i => ([0, 0, 0, 3, 0, 0, 0, 3, 0] : List Nat).getD i 2) [] [0, 1, 2, 4, 5, 6, 3, 7, 8] Tryz.mixed (by decide +kernel) ?_
  refine Dp rfl rfl rfl rfl (V_move rfl rfl) ?_
  refine Dp rfl rfl rfl rfl (V_move rfl rfl) ?_
  obtain ⟨p40_8, ha, h0, h1, h⟩ := h
  refine Dp rfl rfl rfl rfl (V_ixA rfl Tryz.underlying25 ty9 (ixL rfl ha) rfl h0 h1) ?_
  refine Dp rfl rfl rfl rfl (V_move rfl rfl) ?_
  refine Dp rfl rfl rfl rfl (V_move rfl rfl) ?_
  obtain ⟨p44_9, ha, h0, h1, h⟩ := h
  refine Dp rfl rfl rfl rfl (V_ixA rfl Tryz.underlying25 ty9 (ixL rfl ha) rfl h0 h1) ?_
  obtain ⟨x41_10, hc, h⟩ := h
  refine Dr rfl rfl rfl rfl (R_ld rfl Tryz.underlying9 rfl rfl hc) ?_
  obtain ⟨x45_11, hc, h⟩ := h
  refine Dr rfl rfl rfl rfl (R_ld rfl Tryz.underlying9 rfl rfl hc) ?_
  refine Dp rfl rfl rfl rfl (V_neqS rfl rfl rfl) ?_
  refine Dend ?_
  refine thenN ?_
  refine AW.iff rfl (bnot_iff decide_eq_true_iff) h (fun h => ?_) (fun h => ?_)
  · refine AW.seq ?_
    refine AW.reg ?_
    refine Lp (V_asg rfl rfl) rfl rfl ?_
    refine Lp (V_asg rfl rfl) rfl rfl ?_
    refine Lnil ?_
    refine thenN ?_
    refine AW.ret ?_
    refine blockR ?_
    refine thenR ?_
    refine thenR ?_
    refine blockR ?_
    refine thenR ?_
    exact bR2 Tryz.results123 rfl rfl ⟨_, _, rfl, h⟩
  refine AW.skip ?_
  refine blockN ?_
  refine thenN ?_
  refine AW.reg ?_
  refine Lp (V_move rfl rfl) rfl rfl ?_
  refine Lp (V_add rfl rfl rfl) rfl rfl ?_
  refine Lp (V_asg rfl rfl) rfl rfl ?_
  refine Lnil ?_
  refine thenN ?_
  refine ARound.head (fr' := [(6, Sl.v x13_1), (8, Sl.v x18_3), (10, .int .i64 (IntKind.i64.wrap (x10_7 + 1)))]) ?_ (FrLe.cons rfl (FrLe.cons rfl (FrLe.cons rfl (FrLe.nil _))))
  exact hY6 _ _ h

def j1_ref02_Digits (B : World) (ro : AH) (Q : ByteArray → AH → Prop) (x3_2 : ByteArray) (σ : AH) : Prop :=
 Q x3_2 σ

def l3_ref02_Digits (B : World) (ro : AH) (Q : ByteArray → AH → Prop) : (Int × ByteArray × Int) → AH → ((Int × ByteArray × Int) → AH → Prop) → Prop := fun ⟨x0_4, x3_5, x4_6⟩ σ Y3 =>
 if x4_6 < 10 then
  nw ro σ (.cells #[.int .u8 (IntKind.u8.wrap (IntKind.i64.wrap (48 + (Int.tmod x0_4 10))))] 5) fun x13_7 σ =>
  awp Tryz.prog ro (convert 30 9 (Sl.v (⟨some ⟨x13_7, 0, none⟩, 1, 1⟩ : Sl))) (fun v σ =>
   (∃ (x14_8 : ByteArray), v = .string x14_8 ∧
    x14_8.size + x3_5.size ≤ 9223372036854775807 ∧
    Y3 (IntKind.i64.wrap (Int.tdiv x0_4 10), x14_8 ++ x3_5, IntKind.i64.wrap (x4_6 + 1)) σ)) σ
 else
 j1_ref02_Digits B ro Q x3_5 σ

def f_ref02_Digits (B : World) (ro : AH) (a0 : Int) (σ : AH) (Q : ByteArray → AH → Prop) : Prop :=
 lfpD (l3_ref02_Digits B ro Q ) (a0, (⟨#[]⟩ : ByteArray), 0) σ

set_option maxRecDepth 100000 in
set_option maxHeartbeats 4000000 in
theorem ref02_Digits_ok {B : World} {ro : AH} {a0 : Int} {σ : AH} {Q : ByteArray → AH → Prop} (h : Sep ro σ → f_ref02_Digits B ro a0 σ Q) : c_ref02_Digits B ro a0 σ Q := by
  refine ACalls.of_sep fun hsep => ?_
  replace h := h hsep
  refine ACalls.of_body (args := [.int .i64 a0]) Tryz.func124 rfl (by rw [Tryz.ntmps124]; simp) ?_
  rw [Tryz.ntmps124]
  unfold f_ref02_Digits at h
  refine AW.seq ?_
  refine AW.reg ?_
  refine Lp (V_asg rfl rfl) rfl rfl ?_
  refine Lnil ?_
  refine thenN ?_
  refine AW.seq ?_
  refine AW.reg ?_
  refine Lp (V_asg rfl rfl) rfl rfl ?_
  refine Lnil ?_
  refine thenN ?_
  refine AW.seqJ (fun fr σ => ∃ (x3_2 : ByteArray), FrLe [(3, .string x3_2)] fr ∧ j1_ref02_Digits B ro Q x3_2 σ) ?_ ?_
  · rintro fr σ ⟨x3_2, hl, h⟩
    refine AW.weaken ?_ hl (HLe.refl _)
    unfold j1_ref02_Digits at h
    refine AW.seq ?_
    refine AW.reg ?_
    refine Lp (V_move rfl rfl) rfl rfl ?_
    refine Lp (V_asg rfl rfl) rfl rfl ?_
    refine Lnil ?_
    refine thenN ?_
    refine AW.ret ?_
    exact bR1 Tryz.results124 rfl ⟨_, rfl, h⟩
  refine AW.seq ?_
  refine AW.reg ?_
  refine Lp (V_asg rfl rfl) rfl rfl ?_
  refine Lnil ?_
  refine thenN ?_
  refine AW.block ?_
  refine ARound.loop (fr' := [(0, .int .i64 a0), (3, .string (⟨#[]⟩ : ByteArray)), (4, .int .i64 0)]) ?_ (FrLe.cons rfl (FrLe.cons rfl (FrLe.cons rfl (FrLe.nil _))))
  refine h (fun ⟨x0_4, x3_5, x4_6⟩ σ => ARound _ _ _ _ _ _ [(0, .int .i64 x0_4), (3, .string x3_5), (4, .int .i64 x4_6)] σ) ?_
  rintro ⟨x0_4, x3_5, x4_6⟩ σ Y3 hY3 h
  show AW _ _ _ _ _ _ _ _
  unfold l3_ref02_Digits at h
  dsimp only at h
  refine AW.seq ?_
  refine AW.seq ?_
  refine AW.reg ?_
  refine Lp (V_move rfl rfl) rfl rfl ?_
  refine Lp (V_lss rfl rfl rfl) rfl rfl ?_
  refine Lnil ?_
  refine thenN ?_
  refine AW.iff rfl decide_eq_true_iff h (fun h => ?_) (fun h => ?_)
  rotate_left
  · refine AW.exit ?_
    refine thenE ?_
    refine thenE ?_
    refine blockE ?_
    refine thenN ?_
    exact ⟨_, (FrLe.cons rfl (FrLe.nil _)), h⟩
  refine AW.skip ?_
  refine thenN ?_
  refine AW.seq ?_
  refine AW.block ?_
  refine AW.seq ?_
  refine AW.reg ?_
  refine Lp (V_move rfl rfl) rfl rfl ?_
  refine Lp (V_rem rfl rfl rfl (by decide)) rfl rfl ?_
  refine Lp (V_add rfl rfl rfl) rfl rfl ?_
  refine Lp (V_cvt rfl rfl Tryz.underlying3 Tryz.underlying5) rfl rfl ?_
  refine Ls rfl rfl (X_new (A_bsl (vs := [(0, .int .u8 (IntKind.u8.wrap (IntKind.i64.wrap (48 + (Int.tmod x0_4 10)))))]) (cs := #[.int .u8 (IntKind.u8.wrap (IntKind.i64.wrap (48 + (Int.tmod x0_4 10))))]) rfl Tryz.underlying30 ty5 (by decide) rfl rfl) fun x13_7 g1 g2 => ?_)
  replace h := h x13_7 g1 g2
  refine Ls rfl rfl (X_cvt rfl rfl (awp_mono _ h ?_))
  rintro v σ ⟨x14_8, rfl, h⟩
  refine Lp (V_move rfl rfl) rfl rfl ?_
  obtain ⟨hc, h⟩ := h
  refine Lp (V_cat rfl rfl rfl hc) rfl rfl ?_
  refine Lp (V_asg rfl rfl) rfl rfl ?_
  refine Lnil ?_
  refine thenN ?_
  refine AW.reg ?_
  refine Lp (V_move rfl rfl) rfl rfl ?_
  refine Lp (V_quo rfl rfl rfl (by decide)) rfl rfl ?_
  refine Lp (V_asg rfl rfl) rfl rfl ?_
  refine Lnil ?_
  refine blockN ?_
  refine thenN ?_
  refine AW.reg ?_
  refine Lp (V_move rfl rfl) rfl rfl ?_
  refine Lp (V_add rfl rfl rfl) rfl rfl ?_
  refine Lp (V_asg rfl rfl) rfl rfl ?_
  refine Lnil ?_
  refine thenN ?_
  refine ARound.head (fr' := [(0, .int .i64 (IntKind.i64.wrap (Int.tdiv x0_4 10))), (3, .string (x14_8 ++ x3_5)), (4, .int .i64 (IntKind.i64.wrap (x4_6 + 1)))]) ?_ (FrLe.cons rfl (FrLe.cons rfl (FrLe.cons rfl (FrLe.nil _))))
  exact hY3 _ _ h

end Go.Proofs.YthfpmipeejjogaaGreatDoor.G
