/- Functions as predicate transformers, and the proofs that the code does what they tell: printed by wip/tools/gen.py. -/
import Derived.Test.YtoohfcalhlfniaaGC
namespace Go.Proofs.Ytoohfcalhlfniaa.G
open Go Go.Proofs.Ytoohfcalhlfniaa.SL
set_option linter.unusedVariables false
set_option linter.unusedSimpArgs false

def j1_ref01_SameInts (B : World) (ro : AH) (Q : Bool → AH → Prop) (σ : AH) : Prop :=
 Q true σ

def l2_ref01_SameInts (B : World) (ro : AH) (a0 : Sl) (a1 : Sl) (Q : Bool → AH → Prop) : (Int) → AH → ((Int) → AH → Prop) → Prop := fun x5_3 σ Y2 =>
 if x5_3 < (a0.len : Int) then
  ∃ p19_4 : Addr, a0.a = some p19_4 ∧ (0 : Int) ≤ x5_3 ∧ x5_3 < (a0.len : Int) ∧
  ∃ p23_5 : Addr, a1.a = some p23_5 ∧ (0 : Int) ≤ x5_3 ∧ x5_3 < (a1.len : Int) ∧
  ∃ (x20_6 : Int), acell ro σ (p19_4.add (Int.toNat x5_3 * 1)) = some (.int .i64 x20_6) ∧
  ∃ (x24_7 : Int), acell ro σ (p23_5.add (Int.toNat x5_3 * 1)) = some (.int .i64 x24_7) ∧
  if ¬ (x20_6 = x24_7) then
   Q false σ
  else
  Y2 (IntKind.i64.wrap (x5_3 + 1)) σ
 else
 j1_ref01_SameInts B ro Q σ

def f_ref01_SameInts (B : World) (ro : AH) (a0 : Sl) (a1 : Sl) (σ : AH) (Q : Bool → AH → Prop) : Prop :=
 if ¬ ((a0.len : Int) = (a1.len : Int)) then
  Q false σ
 else
 lfpD (l2_ref01_SameInts B ro a0 a1 Q ) (0) σ

set_option maxRecDepth 100000 in
set_option maxHeartbeats 4000000 in
theorem ref01_SameInts_ok {B : World} {ro : AH} {a0 : Sl} {a1 : Sl} {σ : AH} {Q : Bool → AH → Prop} (h : Sep ro σ → f_ref01_SameInts B ro a0 a1 σ Q) : c_ref01_SameInts B ro a0 a1 σ Q := by
  refine ACalls.of_sep fun hsep => ?_
  replace h := h hsep
  refine ACalls.of_body (args := [Sl.v a0, Sl.v a1]) Try.func6 rfl (by rw [Try.ntmps6]; simp) ?_
  rw [Try.ntmps6]
  unfold f_ref01_SameInts at h
  refine AW.seq ?_
  refine AW.reg ?_
  refine Lp (V_asg rfl rfl) rfl rfl ?_
  refine Lnil ?_
  refine thenN ?_
  refine AW.seq ?_
  refine AW.seq ?_
  refine AW.reg ?_
  refine Lp (V_move rfl rfl) rfl rfl ?_
  refine Lp (V_lenL rfl rfl Try.underlying25 rfl rfl) rfl rfl ?_
  refine Lp (V_move rfl rfl) rfl rfl ?_
  refine Lp (V_lenL rfl rfl Try.underlying25 rfl rfl) rfl rfl ?_
  refine Lp (V_neq rfl rfl rfl) rfl rfl ?_
  refine Lnil ?_
  refine thenN ?_
  refine AW.iff rfl (bnot_iff decide_eq_true_iff) h (fun h => ?_) (fun h => ?_)
  · refine AW.seq ?_
    refine AW.reg ?_
    refine Lp (V_asg rfl rfl) rfl rfl ?_
    refine Lnil ?_
    refine thenN ?_
    refine AW.ret ?_
    refine thenR ?_
    exact bR1 Try.results6 rfl ⟨_, rfl, h⟩
  refine AW.skip ?_
  refine thenN ?_
  refine AW.seqJ (fun fr σ => FrLe [] fr ∧ j1_ref01_SameInts B ro Q σ) ?_ ?_
  · rintro fr σ ⟨hl, h⟩
    refine AW.weaken ?_ hl (HLe.refl _)
    unfold j1_ref01_SameInts at h
    refine AW.seq ?_
    refine AW.reg ?_
    refine Lp (V_asg rfl rfl) rfl rfl ?_
    refine Lnil ?_
    refine thenN ?_
    refine AW.ret ?_
    exact bR1 Try.results6 rfl ⟨_, rfl, h⟩
  refine AW.seq ?_
  refine AW.reg ?_
  refine Lp (V_asg rfl rfl) rfl rfl ?_
  refine Lnil ?_
  refine thenN ?_
  refine AW.block ?_
  refine ARound.loop (fr' := [(0, Sl.v a0), (1, Sl.v a1), (5, .int .i64 0)]) ?_ (FrLe.cons rfl (FrLe.cons rfl (FrLe.cons rfl (FrLe.nil _))))
  refine h (fun x5_3 σ => ARound _ _ _ _ _ _ [(0, Sl.v a0), (1, Sl.v a1), (5, .int .i64 x5_3)] σ) ?_
  rintro x5_3 σ Y2 hY2 h
  show AW _ _ _ _ _ _ _ _
  unfold l2_ref01_SameInts at h
  refine AW.seq ?_
  refine AW.seq ?_
  refine AW.reg ?_
  refine Lp (V_move rfl rfl) rfl rfl ?_
  refine Lp (V_move rfl rfl) rfl rfl ?_
  refine Lp (V_lenL rfl rfl Try.underlying25 rfl rfl) rfl rfl ?_
  refine Lp (V_lss rfl rfl rfl) rfl rfl ?_
  refine Lnil ?_
  refine thenN ?_
  refine AW.iff rfl decide_eq_true_iff h (fun h => ?_) (fun h => ?_)
  rotate_left
  · refine AW.exit ?_
    refine thenE ?_
    refine thenE ?_
    refine blockE ?_
    refine thenN ?_
    exact ⟨(FrLe.nil _), h⟩
  refine AW.skip ?_
  refine thenN ?_
  refine AW.seq ?_
  refine AW.block ?_
  refine AW.seq ?_
  refine AW.drawn0 (fun i => ([0, 0, 0, 3, 0, 0, 0, 3, 0] : List Nat).getD i 2) [] [0, 1, 2, 4, 5, 6, 3, 7, 8] Try.mixed (by decide +kernel) ?_
  refine Dp rfl rfl rfl rfl (V_move rfl rfl) ?_
  refine Dp rfl rfl rfl rfl (V_move rfl rfl) ?_
  obtain ⟨p19_4, ha, h0, h1, h⟩ := h
  refine Dp rfl rfl rfl rfl (V_ixA rfl Try.underlying25 ty3 (ixL rfl ha) rfl h0 h1) ?_
  refine Dp rfl rfl rfl rfl (V_move rfl rfl) ?_
  refine Dp rfl rfl rfl rfl (V_move rfl rfl) ?_
  obtain ⟨p23_5, ha, h0, h1, h⟩ := h
  refine Dp rfl rfl rfl rfl (V_ixA rfl Try.underlying25 ty3 (ixL rfl ha) rfl h0 h1) ?_
  obtain ⟨x20_6, hc, h⟩ := h
  refine Dr rfl rfl rfl rfl (R_ld rfl Try.underlying3 rfl rfl hc) ?_
  obtain ⟨x24_7, hc, h⟩ := h
  refine Dr rfl rfl rfl rfl (R_ld rfl Try.underlying3 rfl rfl hc) ?_
  refine Dp rfl rfl rfl rfl (V_neq rfl rfl rfl) ?_
  refine Dend ?_
  refine thenN ?_
  refine AW.iff rfl (bnot_iff decide_eq_true_iff) h (fun h => ?_) (fun h => ?_)
  · refine AW.seq ?_
    refine AW.reg ?_
    refine Lp (V_asg rfl rfl) rfl rfl ?_
    refine Lnil ?_
    refine thenN ?_
    refine AW.ret ?_
    refine blockR ?_
    refine thenR ?_
    refine thenR ?_
    refine blockR ?_
    refine thenR ?_
    exact bR1 Try.results6 rfl ⟨_, rfl, h⟩
  refine AW.skip ?_
  refine blockN ?_
  refine thenN ?_
  refine AW.reg ?_
  refine Lp (V_move rfl rfl) rfl rfl ?_
  refine Lp (V_add rfl rfl rfl) rfl rfl ?_
  refine Lp (V_asg rfl rfl) rfl rfl ?_
  refine Lnil ?_
  refine thenN ?_
  refine ARound.head (fr' := [(0, Sl.v a0), (1, Sl.v a1), (5, .int .i64 (IntKind.i64.wrap (x5_3 + 1)))]) ?_ (FrLe.cons rfl (FrLe.cons rfl (FrLe.cons rfl (FrLe.nil _))))
  exact hY2 _ _ h

def f_heap_Push (B : World) (ro : AH) (a0 : Value) (a1 : Value) (σ : AH) (Q : AH → Prop) : Prop :=
 callI Try.prog B ro a0 "Push" [a1] σ (fun v σ => v = .tuple #[] ∧
  callI Try.prog B ro a0 "Len" [] σ (fun v σ => ∃ (x9_1 : Int), v = .int .i64 x9_1 ∧
   c_heap_up B ro a0 (IntKind.i64.wrap (x9_1 - 1)) σ fun σ =>
   Q σ))

set_option maxRecDepth 100000 in
set_option maxHeartbeats 4000000 in
theorem heap_Push_ok {B : World} {ro : AH} {a0 : Value} {a1 : Value} {σ : AH} {Q : AH → Prop} (h : Sep ro σ → f_heap_Push B ro a0 a1 σ Q) : c_heap_Push B ro a0 a1 σ Q := by
  refine ACalls.of_sep fun hsep => ?_
  replace h := h hsep
  refine ACalls.of_body (args := [a0, a1]) Try.func7 rfl (by rw [Try.ntmps7]; simp) ?_
  rw [Try.ntmps7]
  unfold f_heap_Push at h
  refine AW.seq ?_
  refine AW.reg ?_
  refine Lp (V_move rfl rfl) rfl rfl ?_
  refine Lp (V_move rfl rfl) rfl rfl ?_
  refine Ls rfl rfl (X_callI rfl rfl rfl (callI_mono h ?_))
  rintro v σ ⟨rfl, h⟩
  refine Lnil ?_
  refine thenN ?_
  refine AW.reg ?_
  refine Lp (V_move rfl rfl) rfl rfl ?_
  refine Lp (V_move rfl rfl) rfl rfl ?_
  refine Ls rfl rfl (X_callI rfl rfl rfl (callI_mono h ?_))
  rintro v σ ⟨x9_1, rfl, h⟩
  refine Lp (V_sub rfl rfl rfl) rfl rfl ?_
  refine Ls rfl rfl (X_call rfl Try.func10 rfl rfl rfl (ACalls.mono h ?_))
  rintro v σ ⟨rfl, h⟩
  refine Lnil ?_
  exact bN0 Try.results7 ⟨rfl, h⟩

def f_sort_IntSlice_Len (B : World) (ro : AH) (a0 : Sl) (σ : AH) (Q : Int → AH → Prop) : Prop :=
 Q (a0.len : Int) σ

set_option maxRecDepth 100000 in
set_option maxHeartbeats 4000000 in
theorem sort_IntSlice_Len_ok {B : World} {ro : AH} {a0 : Sl} {σ : AH} {Q : Int → AH → Prop} (h : Sep ro σ → f_sort_IntSlice_Len B ro a0 σ Q) : c_sort_IntSlice_Len B ro a0 σ Q := by
  refine ACalls.of_sep fun hsep => ?_
  replace h := h hsep
  refine ACalls.of_body (args := [Sl.v a0]) Try.func8 rfl (by rw [Try.ntmps8]; simp) ?_
  rw [Try.ntmps8]
  unfold f_sort_IntSlice_Len at h
  refine AW.seq ?_
  refine AW.reg ?_
  refine Lp (V_asg rfl rfl) rfl rfl ?_
  refine Lnil ?_
  refine thenN ?_
  refine AW.seq ?_
  refine AW.reg ?_
  refine Lp (V_move rfl rfl) rfl rfl ?_
  refine Lp (V_lenL rfl rfl Try.underlying33 rfl rfl) rfl rfl ?_
  refine Lp (V_asg rfl rfl) rfl rfl ?_
  refine Lnil ?_
  refine thenN ?_
  refine AW.ret ?_
  exact bR1 Try.results8 rfl ⟨_, rfl, h⟩

def f_heap_Pop (B : World) (ro : AH) (a0 : Value) (σ : AH) (Q : Value → AH → Prop) : Prop :=
 callI Try.prog B ro a0 "Len" [] σ (fun v σ => ∃ (x5_1 : Int), v = .int .i64 x5_1 ∧
  callI Try.prog B ro a0 "Swap" [.int .i64 0, .int .i64 (IntKind.i64.wrap (x5_1 - 1))] σ (fun v σ => v = .tuple #[] ∧
   c_heap_down B ro a0 0 (IntKind.i64.wrap (x5_1 - 1)) σ fun x12_2 σ =>
   callI Try.prog B ro a0 "Pop" [] σ (fun v σ => ∃ (x14_3 : Value), v = x14_3 ∧
    Q x14_3 σ)))

set_option maxRecDepth 100000 in
set_option maxHeartbeats 4000000 in
theorem heap_Pop_ok {B : World} {ro : AH} {a0 : Value} {σ : AH} {Q : Value → AH → Prop} (h : Sep ro σ → f_heap_Pop B ro a0 σ Q) : c_heap_Pop B ro a0 σ Q := by
  refine ACalls.of_sep fun hsep => ?_
  replace h := h hsep
  refine ACalls.of_body (args := [a0]) Try.func9 rfl (by rw [Try.ntmps9]; simp) ?_
  rw [Try.ntmps9]
  unfold f_heap_Pop at h
  refine AW.seq ?_
  refine AW.reg ?_
  refine Lp (V_asg rfl rfl) rfl rfl ?_
  refine Lnil ?_
  refine thenN ?_
  refine AW.seq ?_
  refine AW.reg ?_
  refine Lp (V_move rfl rfl) rfl rfl ?_
  refine Ls rfl rfl (X_callI rfl rfl rfl (callI_mono h ?_))
  rintro v σ ⟨x5_1, rfl, h⟩
  refine Lp (V_sub rfl rfl rfl) rfl rfl ?_
  refine Lp (V_asg rfl rfl) rfl rfl ?_
  refine Lnil ?_
  refine thenN ?_
  refine AW.seq ?_
  refine AW.reg ?_
  refine Lp (V_move rfl rfl) rfl rfl ?_
  refine Lp (V_move rfl rfl) rfl rfl ?_
  refine Ls rfl rfl (X_callI rfl rfl rfl (callI_mono h ?_))
  rintro v σ ⟨rfl, h⟩
  refine Lnil ?_
  refine thenN ?_
  refine AW.seq ?_
  refine AW.reg ?_
  refine Lp (V_move rfl rfl) rfl rfl ?_
  refine Lp (V_move rfl rfl) rfl rfl ?_
  refine Ls rfl rfl (X_call rfl Try.func11 rfl rfl rfl (ACalls.mono h ?_))
  rintro v σ ⟨x12_2, rfl, h⟩
  refine Lnil ?_
  refine thenN ?_
  refine AW.seq ?_
  refine AW.reg ?_
  refine Lp (V_move rfl rfl) rfl rfl ?_
  refine Ls rfl rfl (X_callI rfl rfl rfl (callI_mono h ?_))
  rintro x14_3 σ ⟨_, rfl, h⟩
  refine Lp (V_asg rfl rfl) rfl rfl ?_
  refine Lnil ?_
  refine thenN ?_
  refine AW.ret ?_
  exact bR1 Try.results9 rfl ⟨_, rfl, h⟩

def j3_heap_up (B : World) (ro : AH) (a0 : Value) (x1_2 : Int) (Q : AH → Prop) (Y1 : (Int) → AH → Prop) (x17_4 : Bool) (σ : AH) : Prop :=
 if x17_4 = true then
  Q σ
 else
 callI Try.prog B ro a0 "Swap" [.int .i64 (IntKind.i64.wrap (Int.tdiv (IntKind.i64.wrap (x1_2 - 1)) 2)), .int .i64 x1_2] σ (fun v σ => v = .tuple #[] ∧
  Y1 (IntKind.i64.wrap (Int.tdiv (IntKind.i64.wrap (x1_2 - 1)) 2)) σ)

def l1_heap_up (B : World) (ro : AH) (a0 : Value) (Q : AH → Prop) : (Int) → AH → ((Int) → AH → Prop) → Prop := fun x1_2 σ Y1 =>
 if (IntKind.i64.wrap (Int.tdiv (IntKind.i64.wrap (x1_2 - 1)) 2)) = x1_2 then
  j3_heap_up B ro a0 x1_2 Q Y1 true σ
 else
 callI Try.prog B ro a0 "Less" [.int .i64 x1_2, .int .i64 (IntKind.i64.wrap (Int.tdiv (IntKind.i64.wrap (x1_2 - 1)) 2))] σ (fun v σ => ∃ (x15_5 : Bool), v = .bool x15_5 ∧
  j3_heap_up B ro a0 x1_2 Q Y1 (!x15_5) σ)

def f_heap_up (B : World) (ro : AH) (a0 : Value) (a1 : Int) (σ : AH) (Q : AH → Prop) : Prop :=
 lfpD (l1_heap_up B ro a0 Q ) (a1) σ

set_option maxRecDepth 100000 in
set_option maxHeartbeats 4000000 in
theorem heap_up_ok {B : World} {ro : AH} {a0 : Value} {a1 : Int} {σ : AH} {Q : AH → Prop} (h : Sep ro σ → f_heap_up B ro a0 a1 σ Q) : c_heap_up B ro a0 a1 σ Q := by
  refine ACalls.of_sep fun hsep => ?_
  replace h := h hsep
  refine ACalls.of_body (args := [a0, .int .i64 a1]) Try.func10 rfl (by rw [Try.ntmps10]; simp) ?_
  rw [Try.ntmps10]
  unfold f_heap_up at h
  refine AW.block ?_
  refine ARound.loop (fr' := [(0, a0), (1, .int .i64 a1)]) ?_ (FrLe.cons rfl (FrLe.cons rfl (FrLe.nil _)))
  refine h (fun x1_2 σ => ARound _ _ _ _ _ _ [(0, a0), (1, .int .i64 x1_2)] σ) ?_
  rintro x1_2 σ Y1 hY1 h
  show AW _ _ _ _ _ _ _ _
  unfold l1_heap_up at h
  refine AW.block ?_
  refine AW.seq ?_
  refine AW.reg ?_
  refine Lp (V_move rfl rfl) rfl rfl ?_
  refine Lp (V_sub rfl rfl rfl) rfl rfl ?_
  refine Lp (V_quo rfl rfl rfl (by decide)) rfl rfl ?_
  refine Lp (V_asg rfl rfl) rfl rfl ?_
  refine Lnil ?_
  refine thenN ?_
  refine AW.seq ?_
  refine AW.seq ?_
  refine AW.reg ?_
  refine Lp (V_move rfl rfl) rfl rfl ?_
  refine Lp (V_move rfl rfl) rfl rfl ?_
  refine Lp (V_eql rfl rfl rfl) rfl rfl ?_
  refine Lp (V_move rfl rfl) rfl rfl ?_
  refine LsplitJ 6 (decide ((IntKind.i64.wrap (Int.tdiv (IntKind.i64.wrap (x1_2 - 1)) 2)) = x1_2)) decide_eq_true_iff h (fun fr σ => ∃ (x17_4 : Bool), FrLe [(0, a0), (1, .int .i64 x1_2), (4, .int .i64 (IntKind.i64.wrap (Int.tdiv (IntKind.i64.wrap (x1_2 - 1)) 2))), (17, .bool x17_4)] fr ∧ j3_heap_up B ro a0 x1_2 Q Y1 x17_4 σ) ?_ ?_ ?_
  · intro h e3 hk3
    refine Ln rfl rfl rfl rfl (.inl (by rw [e3]; rfl)) ?_
    refine Ln rfl rfl rfl rfl (.inl (by rw [e3]; rfl)) ?_
    refine Ln rfl rfl rfl rfl (.inl (by rw [e3]; rfl)) ?_
    refine Ln rfl rfl rfl rfl (.inl (by rw [e3]; rfl)) ?_
    refine Ln rfl rfl rfl rfl (.inl (by rw [e3]; rfl)) ?_
    refine Lp (V_pickT rfl (evb e3) rfl) rfl rfl ?_
    exact hk3 _ _ ⟨_, (FrLe.cons rfl (FrLe.cons rfl (FrLe.cons rfl (FrLe.cons rfl (FrLe.nil _))))), h⟩
  · intro h e3 hk3
    refine Lypb (V_move rfl rfl) rfl rfl rfl rfl e3 ?_
    refine Lypb (V_move rfl rfl) rfl rfl rfl rfl e3 ?_
    refine Lypb (V_move rfl rfl) rfl rfl rfl rfl e3 ?_
    refine Lyb rfl rfl rfl rfl e3 (X_callI rfl rfl rfl (callI_mono h ?_))
    rintro v σ ⟨x15_5, rfl, h⟩
    refine Lypb (V_not rfl rfl) rfl rfl rfl rfl e3 ?_
    refine Lp (V_pickF rfl (evb e3) rfl) rfl rfl ?_
    exact hk3 _ _ ⟨_, (FrLe.cons rfl (FrLe.cons rfl (FrLe.cons rfl (FrLe.cons rfl (FrLe.nil _))))), h⟩
  rintro fr σ ⟨x17_4, hl, h⟩
  unfold j3_heap_up at h
  refine Lfr hl ?_
  refine Lnil ?_
  refine thenN ?_
  refine AW.iff rfl Iff.rfl h (fun h => ?_) (fun h => ?_)
  · refine AW.exit ?_
    refine thenE ?_
    refine blockO rfl ?_
    refine thenE ?_
    refine blockE ?_
    exact bN0 Try.results10 ⟨rfl, h⟩
  refine AW.skip ?_
  refine thenN ?_
  refine AW.seq ?_
  refine AW.reg ?_
  refine Lp (V_move rfl rfl) rfl rfl ?_
  refine Lp (V_move rfl rfl) rfl rfl ?_
  refine Lp (V_move rfl rfl) rfl rfl ?_
  refine Ls rfl rfl (X_callI rfl rfl rfl (callI_mono h ?_))
  rintro v σ ⟨rfl, h⟩
  refine Lnil ?_
  refine thenN ?_
  refine AW.reg ?_
  refine Lp (V_move rfl rfl) rfl rfl ?_
  refine Lp (V_asg rfl rfl) rfl rfl ?_
  refine Lnil ?_
  refine blockN ?_
  refine thenN ?_
  refine ARound.head (fr' := [(0, a0), (1, .int .i64 (IntKind.i64.wrap (Int.tdiv (IntKind.i64.wrap (x1_2 - 1)) 2)))]) ?_ (FrLe.cons rfl (FrLe.cons rfl (FrLe.nil _)))
  exact hY1 _ _ h

def j1_heap_down (B : World) (ro : AH) (a1 : Int) (Q : Bool → AH → Prop) (x7_2 : Int) (σ : AH) : Prop :=
 Q (decide (a1 < x7_2)) σ

def j5_heap_down (B : World) (ro : AH) (a0 : Value) (a1 : Int) (a2 : Int) (x7_4 : Int) (Q : Bool → AH → Prop) (Y3 : (Int) → AH → Prop) (x9_6 : Int) (σ : AH) : Prop :=
 callI Try.prog B ro a0 "Less" [.int .i64 x9_6, .int .i64 x7_4] σ (fun v σ => ∃ (x38_7 : Bool), v = .bool x38_7 ∧
  if ¬ (x38_7 = true) then
   j1_heap_down B ro a1 Q x7_4 σ
  else
  callI Try.prog B ro a0 "Swap" [.int .i64 x7_4, .int .i64 x9_6] σ (fun v σ => v = .tuple #[] ∧
   Y3 (x9_6) σ))

def j8_heap_down (B : World) (ro : AH) (a0 : Value) (a1 : Int) (a2 : Int) (x7_4 : Int) (Q : Bool → AH → Prop) (Y3 : (Int) → AH → Prop) (x33_9 : Bool) (σ : AH) : Prop :=
 if x33_9 = true then
  j5_heap_down B ro a0 a1 a2 x7_4 Q Y3 (IntKind.i64.wrap ((IntKind.i64.wrap ((IntKind.i64.wrap (2 * x7_4)) + 1)) + 1)) σ
 else
 j5_heap_down B ro a0 a1 a2 x7_4 Q Y3 (IntKind.i64.wrap ((IntKind.i64.wrap (2 * x7_4)) + 1)) σ

def l3_heap_down (B : World) (ro : AH) (a0 : Value) (a1 : Int) (a2 : Int) (Q : Bool → AH → Prop) : (Int) → AH → ((Int) → AH → Prop) → Prop := fun x7_4 σ Y3 =>
 if (a2 ≤ (IntKind.i64.wrap ((IntKind.i64.wrap (2 * x7_4)) + 1))) ∨ ((IntKind.i64.wrap ((IntKind.i64.wrap (2 * x7_4)) + 1)) < 0) then
  j1_heap_down B ro a1 Q x7_4 σ
 else
 if (IntKind.i64.wrap ((IntKind.i64.wrap ((IntKind.i64.wrap (2 * x7_4)) + 1)) + 1)) < a2 then
  callI Try.prog B ro a0 "Less" [.int .i64 (IntKind.i64.wrap ((IntKind.i64.wrap ((IntKind.i64.wrap (2 * x7_4)) + 1)) + 1)), .int .i64 (IntKind.i64.wrap ((IntKind.i64.wrap (2 * x7_4)) + 1))] σ (fun v σ => ∃ (x32_10 : Bool), v = .bool x32_10 ∧
   j8_heap_down B ro a0 a1 a2 x7_4 Q Y3 x32_10 σ)
 else
 j8_heap_down B ro a0 a1 a2 x7_4 Q Y3 false σ

def f_heap_down (B : World) (ro : AH) (a0 : Value) (a1 : Int) (a2 : Int) (σ : AH) (Q : Bool → AH → Prop) : Prop :=
 lfpD (l3_heap_down B ro a0 a1 a2 Q ) (a1) σ

set_option maxRecDepth 100000 in
set_option maxHeartbeats 4000000 in
theorem heap_down_ok {B : World} {ro : AH} {a0 : Value} {a1 : Int} {a2 : Int} {σ : AH} {Q : Bool → AH → Prop} (h : Sep ro σ → f_heap_down B ro a0 a1 a2 σ Q) : c_heap_down B ro a0 a1 a2 σ Q := by
  refine ACalls.of_sep fun hsep => ?_
  replace h := h hsep
  refine ACalls.of_body (args := [a0, .int .i64 a1, .int .i64 a2]) Try.func11 rfl (by rw [Try.ntmps11]; simp) ?_
  rw [Try.ntmps11]
  unfold f_heap_down at h
  refine AW.seq ?_
  refine AW.reg ?_
  refine Lp (V_asg rfl rfl) rfl rfl ?_
  refine Lnil ?_
  refine thenN ?_
  refine AW.seq ?_
  refine AW.reg ?_
  refine Lp (V_move rfl rfl) rfl rfl ?_
  refine Lp (V_asg rfl rfl) rfl rfl ?_
  refine Lnil ?_
  refine thenN ?_
  refine AW.seqJ (fun fr σ => ∃ (x7_2 : Int), FrLe [(1, .int .i64 a1), (7, .int .i64 x7_2)] fr ∧ j1_heap_down B ro a1 Q x7_2 σ) ?_ ?_
  · rintro fr σ ⟨x7_2, hl, h⟩
    refine AW.weaken ?_ hl (HLe.refl _)
    unfold j1_heap_down at h
    refine AW.seq ?_
    refine AW.reg ?_
    refine Lp (V_move rfl rfl) rfl rfl ?_
    refine Lp (V_move rfl rfl) rfl rfl ?_
    refine Lp (V_gtr rfl rfl rfl) rfl rfl ?_
    refine Lp (V_asg rfl rfl) rfl rfl ?_
    refine Lnil ?_
    refine thenN ?_
    refine AW.ret ?_
    exact bR1 Try.results11 rfl ⟨_, rfl, h⟩
  refine AW.block ?_
  refine ARound.loop (fr' := [(0, a0), (1, .int .i64 a1), (2, .int .i64 a2), (7, .int .i64 a1)]) ?_ (FrLe.cons rfl (FrLe.cons rfl (FrLe.cons rfl (FrLe.cons rfl (FrLe.nil _)))))
  refine h (fun x7_4 σ => ARound _ _ _ _ _ _ [(0, a0), (1, .int .i64 a1), (2, .int .i64 a2), (7, .int .i64 x7_4)] σ) ?_
  rintro x7_4 σ Y3 hY3 h
  show AW _ _ _ _ _ _ _ _
  unfold l3_heap_down at h
  refine AW.block ?_
  refine AW.seq ?_
  refine AW.reg ?_
  refine Lp (V_move rfl rfl) rfl rfl ?_
  refine Lp (V_mul rfl rfl rfl) rfl rfl ?_
  refine Lp (V_add rfl rfl rfl) rfl rfl ?_
  refine Lp (V_asg rfl rfl) rfl rfl ?_
  refine Lnil ?_
  refine thenN ?_
  refine AW.seq ?_
  refine AW.seq ?_
  refine AW.reg ?_
  refine Lp (V_move rfl rfl) rfl rfl ?_
  refine Lp (V_move rfl rfl) rfl rfl ?_
  refine Lp (V_geq rfl rfl rfl) rfl rfl ?_
  refine Lp (V_move rfl rfl) rfl rfl ?_
  refine Lsplit 3 (decide (a2 ≤ (IntKind.i64.wrap ((IntKind.i64.wrap (2 * x7_4)) + 1)))) [(0, a0), (1, .int .i64 a1), (2, .int .i64 a2), (7, .int .i64 x7_4), (8, .int .i64 (IntKind.i64.wrap ((IntKind.i64.wrap (2 * x7_4)) + 1))), (21, .bool ((decide (a2 ≤ (IntKind.i64.wrap ((IntKind.i64.wrap (2 * x7_4)) + 1)))) || (decide ((IntKind.i64.wrap ((IntKind.i64.wrap (2 * x7_4)) + 1)) < 0))))] ?_ ?_ ?_
  · intro e3 hk3
    refine Ln rfl rfl rfl rfl (.inl (by rw [e3]; rfl)) ?_
    refine Ln rfl rfl rfl rfl (.inl (by rw [e3]; rfl)) ?_
    refine Lp (V_pickT rfl (evb e3) rfl) rfl rfl ?_
    exact hk3 _ (FrLe.cons rfl (FrLe.cons rfl (FrLe.cons rfl (FrLe.cons rfl (FrLe.cons rfl (FrLe.cons (by rw [e3]; rfl) (FrLe.nil _)))))))
  · intro e3 hk3
    refine Lypb (V_move rfl rfl) rfl rfl rfl rfl e3 ?_
    refine Lypb (V_lss rfl rfl rfl) rfl rfl rfl rfl e3 ?_
    refine Lp (V_pickF rfl (evb e3) rfl) rfl rfl ?_
    exact hk3 _ (FrLe.cons rfl (FrLe.cons rfl (FrLe.cons rfl (FrLe.cons rfl (FrLe.cons rfl (FrLe.cons (by rw [e3]; rfl) (FrLe.nil _)))))))
  intro fr hl
  refine Lfr hl ?_
  refine Lnil ?_
  refine thenN ?_
  refine AW.iff rfl (bor_iff decide_eq_true_iff decide_eq_true_iff) h (fun h => ?_) (fun h => ?_)
  · refine AW.exit ?_
    refine thenE ?_
    refine blockO rfl ?_
    refine thenE ?_
    refine blockE ?_
    refine thenN ?_
    exact ⟨_, (FrLe.cons rfl (FrLe.cons rfl (FrLe.nil _))), h⟩
  refine AW.skip ?_
  refine thenN ?_
  refine AW.seq ?_
  refine AW.reg ?_
  refine Lp (V_move rfl rfl) rfl rfl ?_
  refine Lp (V_asg rfl rfl) rfl rfl ?_
  refine Lnil ?_
  refine thenN ?_
  refine AW.seqJ (fun fr σ => ∃ (x9_6 : Int), FrLe [(0, a0), (1, .int .i64 a1), (2, .int .i64 a2), (7, .int .i64 x7_4), (9, .int .i64 x9_6)] fr ∧ j5_heap_down B ro a0 a1 a2 x7_4 Q Y3 x9_6 σ) ?_ ?_
  · rintro fr σ ⟨x9_6, hl, h⟩
    refine AW.weaken ?_ hl (HLe.refl _)
    unfold j5_heap_down at h
    refine AW.seq ?_
    refine AW.seq ?_
    refine AW.reg ?_
    refine Lp (V_move rfl rfl) rfl rfl ?_
    refine Lp (V_move rfl rfl) rfl rfl ?_
    refine Lp (V_move rfl rfl) rfl rfl ?_
    refine Ls rfl rfl (X_callI rfl rfl rfl (callI_mono h ?_))
    rintro v σ ⟨x38_7, rfl, h⟩
    refine Lp (V_not rfl rfl) rfl rfl ?_
    refine Lnil ?_
    refine thenN ?_
    refine AW.iff rfl (bnot_iff Iff.rfl) h (fun h => ?_) (fun h => ?_)
    · refine AW.exit ?_
      refine thenE ?_
      refine blockO rfl ?_
      refine thenE ?_
      refine blockE ?_
      refine thenN ?_
      exact ⟨_, (FrLe.cons rfl (FrLe.cons rfl (FrLe.nil _))), h⟩
    refine AW.skip ?_
    refine thenN ?_
    refine AW.seq ?_
    refine AW.reg ?_
    refine Lp (V_move rfl rfl) rfl rfl ?_
    refine Lp (V_move rfl rfl) rfl rfl ?_
    refine Lp (V_move rfl rfl) rfl rfl ?_
    refine Ls rfl rfl (X_callI rfl rfl rfl (callI_mono h ?_))
    rintro v σ ⟨rfl, h⟩
    refine Lnil ?_
    refine thenN ?_
    refine AW.reg ?_
    refine Lp (V_move rfl rfl) rfl rfl ?_
    refine Lp (V_asg rfl rfl) rfl rfl ?_
    refine Lnil ?_
    refine blockN ?_
    refine thenN ?_
    refine ARound.head (fr' := [(0, a0), (1, .int .i64 a1), (2, .int .i64 a2), (7, .int .i64 x9_6)]) ?_ (FrLe.cons rfl (FrLe.cons rfl (FrLe.cons rfl (FrLe.cons rfl (FrLe.nil _)))))
    exact hY3 _ _ h
  refine AW.seq ?_
  refine AW.reg ?_
  refine Lp (V_move rfl rfl) rfl rfl ?_
  refine Lp (V_add rfl rfl rfl) rfl rfl ?_
  refine Lp (V_asg rfl rfl) rfl rfl ?_
  refine Lnil ?_
  refine thenN ?_
  refine AW.seq ?_
  refine AW.reg ?_
  refine Lp (V_move rfl rfl) rfl rfl ?_
  refine Lp (V_move rfl rfl) rfl rfl ?_
  refine Lp (V_lss rfl rfl rfl) rfl rfl ?_
  refine Lp (V_move rfl rfl) rfl rfl ?_
  refine LsplitJ 5 (decide ((IntKind.i64.wrap ((IntKind.i64.wrap ((IntKind.i64.wrap (2 * x7_4)) + 1)) + 1)) < a2)) decide_eq_true_iff h (fun fr σ => ∃ (x33_9 : Bool), FrLe [(0, a0), (1, .int .i64 a1), (2, .int .i64 a2), (7, .int .i64 x7_4), (9, .int .i64 (IntKind.i64.wrap ((IntKind.i64.wrap (2 * x7_4)) + 1))), (10, .int .i64 (IntKind.i64.wrap ((IntKind.i64.wrap ((IntKind.i64.wrap (2 * x7_4)) + 1)) + 1))), (33, .bool x33_9)] fr ∧ j8_heap_down B ro a0 a1 a2 x7_4 Q Y3 x33_9 σ) ?_ ?_ ?_
  · intro h e3 hk3
    refine Lypb (V_move rfl rfl) rfl rfl rfl rfl e3 ?_
    refine Lypb (V_move rfl rfl) rfl rfl rfl rfl e3 ?_
    refine Lypb (V_move rfl rfl) rfl rfl rfl rfl e3 ?_
    refine Lyb rfl rfl rfl rfl e3 (X_callI rfl rfl rfl (callI_mono h ?_))
    rintro v σ ⟨x32_10, rfl, h⟩
    refine Lp (V_pickT rfl (evb e3) rfl) rfl rfl ?_
    exact hk3 _ _ ⟨_, (FrLe.cons rfl (FrLe.cons rfl (FrLe.cons rfl (FrLe.cons rfl (FrLe.cons rfl (FrLe.cons rfl (FrLe.cons rfl (FrLe.nil _)))))))), h⟩
  · intro h e3 hk3
    refine Ln rfl rfl rfl rfl (.inl (by rw [e3]; rfl)) ?_
    refine Ln rfl rfl rfl rfl (.inl (by rw [e3]; rfl)) ?_
    refine Ln rfl rfl rfl rfl (.inl (by rw [e3]; rfl)) ?_
    refine Ln rfl rfl rfl rfl (.inl (by rw [e3]; rfl)) ?_
    refine Lp (V_pickF rfl (evb e3) rfl) rfl rfl ?_
    exact hk3 _ _ ⟨_, (FrLe.cons rfl (FrLe.cons rfl (FrLe.cons rfl (FrLe.cons rfl (FrLe.cons rfl (FrLe.cons rfl (FrLe.cons rfl (FrLe.nil _)))))))), h⟩
  rintro fr σ ⟨x33_9, hl, h⟩
  unfold j8_heap_down at h
  refine Lfr hl ?_
  refine Lnil ?_
  refine thenN ?_
  refine AW.iff rfl Iff.rfl h (fun h => ?_) (fun h => ?_)
  rotate_left
  · refine AW.skip ?_
    refine thenN ?_
    exact ⟨_, (FrLe.cons rfl (FrLe.cons rfl (FrLe.cons rfl (FrLe.cons rfl (FrLe.cons rfl (FrLe.nil _)))))), h⟩
  refine AW.reg ?_
  refine Lp (V_move rfl rfl) rfl rfl ?_
  refine Lp (V_asg rfl rfl) rfl rfl ?_
  refine Lnil ?_
  refine thenN ?_
  exact ⟨_, (FrLe.cons rfl (FrLe.cons rfl (FrLe.cons rfl (FrLe.cons rfl (FrLe.cons rfl (FrLe.nil _)))))), h⟩

def f_sort_IntSlice_Less (B : World) (ro : AH) (a0 : Sl) (a1 : Int) (a2 : Int) (σ : AH) (Q : Bool → AH → Prop) : Prop :=
 ∃ p9_1 : Addr, a0.a = some p9_1 ∧ (0 : Int) ≤ a1 ∧ a1 < (a0.len : Int) ∧
 ∃ p13_2 : Addr, a0.a = some p13_2 ∧ (0 : Int) ≤ a2 ∧ a2 < (a0.len : Int) ∧
 ∃ (x10_3 : Int), acell ro σ (p9_1.add (Int.toNat a1 * 1)) = some (.int .i64 x10_3) ∧
 ∃ (x14_4 : Int), acell ro σ (p13_2.add (Int.toNat a2 * 1)) = some (.int .i64 x14_4) ∧
 Q (decide (x10_3 < x14_4)) σ

set_option maxRecDepth 100000 in
set_option maxHeartbeats 4000000 in
theorem sort_IntSlice_Less_ok {B : World} {ro : AH} {a0 : Sl} {a1 : Int} {a2 : Int} {σ : AH} {Q : Bool → AH → Prop} (h : Sep ro σ → f_sort_IntSlice_Less B ro a0 a1 a2 σ Q) : c_sort_IntSlice_Less B ro a0 a1 a2 σ Q := by
  refine ACalls.of_sep fun hsep => ?_
  replace h := h hsep
  refine ACalls.of_body (args := [Sl.v a0, .int .i64 a1, .int .i64 a2]) Try.func28 rfl (by rw [Try.ntmps28]; simp) ?_
  rw [Try.ntmps28]
  unfold f_sort_IntSlice_Less at h
  refine AW.seq ?_
  refine AW.reg ?_
  refine Lp (V_asg rfl rfl) rfl rfl ?_
  refine Lnil ?_
  refine thenN ?_
  refine AW.seq ?_
  refine AW.drawn0 (fun i => ([0, 0, 0, 3, 0, 0, 0, 3, 0, 0] : List Nat).getD i 2) [] [0, 1, 2, 4, 5, 6, 3, 7, 8, 9] Try.mixed (by decide +kernel) ?_
  refine Dp rfl rfl rfl rfl (V_move rfl rfl) ?_
  refine Dp rfl rfl rfl rfl (V_move rfl rfl) ?_
  obtain ⟨p9_1, ha, h0, h1, h⟩ := h
  refine Dp rfl rfl rfl rfl (V_ixA rfl Try.underlying33 ty3 (ixL rfl ha) rfl h0 h1) ?_
  refine Dp rfl rfl rfl rfl (V_move rfl rfl) ?_
  refine Dp rfl rfl rfl rfl (V_move rfl rfl) ?_
  obtain ⟨p13_2, ha, h0, h1, h⟩ := h
  refine Dp rfl rfl rfl rfl (V_ixA rfl Try.underlying33 ty3 (ixL rfl ha) rfl h0 h1) ?_
  obtain ⟨x10_3, hc, h⟩ := h
  refine Dr rfl rfl rfl rfl (R_ld rfl Try.underlying3 rfl rfl hc) ?_
  obtain ⟨x14_4, hc, h⟩ := h
  refine Dr rfl rfl rfl rfl (R_ld rfl Try.underlying3 rfl rfl hc) ?_
  refine Dp rfl rfl rfl rfl (V_lss rfl rfl rfl) ?_
  refine Dp rfl rfl rfl rfl (V_asg rfl rfl) ?_
  refine Dend ?_
  refine thenN ?_
  refine AW.ret ?_
  exact bR1 Try.results28 rfl ⟨_, rfl, h⟩

def f_sort_IntSlice_Swap (B : World) (ro : AH) (a0 : Sl) (a1 : Int) (a2 : Int) (σ : AH) (Q : AH → Prop) : Prop :=
 ∃ p12_1 : Addr, a0.a = some p12_1 ∧ (0 : Int) ≤ a2 ∧ a2 < (a0.len : Int) ∧
 ∃ p16_2 : Addr, a0.a = some p16_2 ∧ (0 : Int) ≤ a1 ∧ a1 < (a0.len : Int) ∧
 ∃ (x13_3 : Int), acell ro σ (p12_1.add (Int.toNat a2 * 1)) = some (.int .i64 x13_3) ∧
 ∃ (x17_4 : Int), acell ro σ (p16_2.add (Int.toNat a1 * 1)) = some (.int .i64 x17_4) ∧
 ∃ p18_5 : Addr, a0.a = some p18_5 ∧ (0 : Int) ≤ a1 ∧ a1 < (a0.len : Int) ∧
 stN (p18_5.add (Int.toNat a1 * 1)) (fun σ =>
  ∃ p19_6 : Addr, a0.a = some p19_6 ∧ (0 : Int) ≤ a2 ∧ a2 < (a0.len : Int) ∧
  stN (p19_6.add (Int.toNat a2 * 1)) (fun σ =>
   Q σ) [.int .i64 x17_4] 0 σ) [.int .i64 x13_3] 0 σ

set_option maxRecDepth 100000 in
set_option maxHeartbeats 4000000 in
theorem sort_IntSlice_Swap_ok {B : World} {ro : AH} {a0 : Sl} {a1 : Int} {a2 : Int} {σ : AH} {Q : AH → Prop} (h : Sep ro σ → f_sort_IntSlice_Swap B ro a0 a1 a2 σ Q) : c_sort_IntSlice_Swap B ro a0 a1 a2 σ Q := by
  refine ACalls.of_sep fun hsep => ?_
  replace h := h hsep
  refine ACalls.of_body (args := [Sl.v a0, .int .i64 a1, .int .i64 a2]) Try.func32 rfl (by rw [Try.ntmps32]; simp) ?_
  rw [Try.ntmps32]
  unfold f_sort_IntSlice_Swap at h
  refine AW.drawn0 (fun i => ([0, 0, 0, 0, 0, 0, 0, 3, 0, 0, 0, 3, 0, 2, 0, 2] : List Nat).getD i 2) [] [0, 1, 2, 3, 4, 5, 6, 8, 9, 10, 7, 11, 12, 13, 14, 15] Try.mixed (by decide +kernel) ?_
  refine Dp rfl rfl rfl rfl (V_move rfl rfl) ?_
  refine Dp rfl rfl rfl rfl (V_move rfl rfl) ?_
  refine Dp rfl rfl rfl rfl (V_move rfl rfl) ?_
  refine Dp rfl rfl rfl rfl (V_move rfl rfl) ?_
  refine Dp rfl rfl rfl rfl (V_move rfl rfl) ?_
  refine Dp rfl rfl rfl rfl (V_move rfl rfl) ?_
  obtain ⟨p12_1, ha, h0, h1, h⟩ := h
  refine Dp rfl rfl rfl rfl (V_ixA rfl Try.underlying33 ty3 (ixL rfl ha) rfl h0 h1) ?_
  refine Dp rfl rfl rfl rfl (V_move rfl rfl) ?_
  refine Dp rfl rfl rfl rfl (V_move rfl rfl) ?_
  obtain ⟨p16_2, ha, h0, h1, h⟩ := h
  refine Dp rfl rfl rfl rfl (V_ixA rfl Try.underlying33 ty3 (ixL rfl ha) rfl h0 h1) ?_
  obtain ⟨x13_3, hc, h⟩ := h
  refine Dr rfl rfl rfl rfl (R_ld rfl Try.underlying3 rfl rfl hc) ?_
  obtain ⟨x17_4, hc, h⟩ := h
  refine Dr rfl rfl rfl rfl (R_ld rfl Try.underlying3 rfl rfl hc) ?_
  obtain ⟨p18_5, ha, h0, h1, h⟩ := h
  refine Dp rfl rfl rfl rfl (V_ixA rfl Try.underlying33 ty3 (ixL rfl ha) rfl h0 h1) ?_
  refine Dg rfl rfl rfl rfl (X_st rfl ty3 rfl rfl rfl rfl (stN_mono h fun σ h => ?_))
  obtain ⟨p19_6, ha, h0, h1, h⟩ := h
  refine Dp rfl rfl rfl rfl (V_ixA rfl Try.underlying33 ty3 (ixL rfl ha) rfl h0 h1) ?_
  refine Dg rfl rfl rfl rfl (X_st rfl ty3 rfl rfl rfl rfl (stN_mono h fun σ h => ?_))
  refine Dend ?_
  exact bN0 Try.results32 ⟨rfl, h⟩

end Go.Proofs.Ytoohfcalhlfniaa.G
