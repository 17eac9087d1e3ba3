/- GLib, GPath, PaA, Shelf -/
import Derived.Shelf.Strings.Builder1
import Derived.Shelf.Strings.Builder2
import Derived.Shelf.Strings.BuilderF
import Derived.Shelf.Strconv.Itoa0
import Derived.Shelf.Strconv.Itoa1
import Derived.Shelf.LaysM
import Derived.Shelf.Strconv.Itoa2
import Derived.Shelf.Strconv.Itoa3
import Derived.Shelf.Bytes.GrowSliceCatch
import Derived.Shelf.Bytes.GrowSlice
import Derived.Shelf.Strings.Search1
import Derived.Shelf.Strings.Search2
import Derived.Shelf.Strings.Search3
import Derived.Shelf.Strings.Count
import Derived.Shelf.Strings.Shaped
import Derived.Shelf.Strings.Prefix
import Derived.Shelf.Strings.Split
import Derived.Shelf.Strings.SplitShaped
import Derived.Shelf.Unicode.Decode
import Derived.Shelf.Strings.RuneCount
import Derived.Shelf.Strings.Explode
import Derived.Shelf.Bits.Mul64
import Derived.Shelf.Strings.Repeat
import Derived.Shelf.Unicode.DecodeSlow
import Derived.Ground.SlgmProg
import Derived.Shelf.SortM.Plain
import Derived.Shelf.SortM.SortNone
import Derived.Shelf.SlIter.Nil
import Derived.Ground.GgzProg
import Derived.Test.YthfpmipeejjogaaGreatDoorProg
import Derived.Test.YthfpmipeejjogaaGreatDoorXC
/- Functions as predicate transformers, and the proofs that the code does what they tell: printed by wip/tools/gen.py. -/
namespace Go.Proofs.YthfpmipeejjogaaGreatDoor.G
open Go Go.Proofs.YthfpmipeejjogaaGreatDoor.SL
set_option linter.unusedVariables false
set_option linter.unusedSimpArgs false

def j2_slices_DeleteFunc_string_string (B : World) (ro : AH) (a0 : Sl) (Q : Sl → AH → Prop) (x5_3 : Int) (σ : AH) : Prop :=
 cutOk (some x5_3) none a0.len a0.cap ∧
 awp Tryz.prog ro (Builtin.clear_ #[25] 0 #[Sl.v (⟨cutA a0.a (Int.toNat x5_3) a0.cap 1, a0.len - Int.toNat x5_3, a0.cap - Int.toNat x5_3⟩ : Sl)]) (fun v σ => v = .tuple #[] ∧
  cutOk none (some x5_3) a0.len a0.cap ∧
  Q (⟨cutA a0.a (0) a0.cap 1, Int.toNat x5_3 - 0, a0.cap - 0⟩ : Sl) σ) σ

def j7_slices_DeleteFunc_string_string (B : World) (ro : AH) (a0 : Sl) (a1 : Value) (x6_6 : Int) (Q : Sl → AH → Prop) (Y4 : (Int × Int) → AH → Prop) (x5_8 : Int) (σ : AH) : Prop :=
 Y4 (x5_8, IntKind.i64.wrap (x6_6 + 1)) σ

def l4_slices_DeleteFunc_string_string (B : World) (ro : AH) (a0 : Sl) (a1 : Value) (Q : Sl → AH → Prop) : (Int × Int) → AH → ((Int × Int) → AH → Prop) → Prop := fun ⟨x5_5, x6_6⟩ σ Y4 =>
 if x6_6 < (a0.len : Int) then
  ∃ p24_9 : Addr, a0.a = some p24_9 ∧ (0 : Int) ≤ x6_6 ∧ x6_6 < (a0.len : Int) ∧
  ∃ (x25_10 : ByteArray), acell ro σ (p24_9.add (Int.toNat x6_6 * 1)) = some (.string x25_10) ∧
  callV Tryz.prog B ro a1 [.string x25_10] σ (fun v σ => ∃ (x28_11 : Bool), v = .bool x28_11 ∧
   if ¬ (x28_11 = true) then
    ∃ p33_12 : Addr, a0.a = some p33_12 ∧ (0 : Int) ≤ x5_5 ∧ x5_5 < (a0.len : Int) ∧
    stN (p33_12.add (Int.toNat x5_5 * 1)) (fun σ =>
     j7_slices_DeleteFunc_string_string B ro a0 a1 x6_6 Q Y4 (IntKind.i64.wrap (x5_5 + 1)) σ) [.string x25_10] 0 σ
   else
   j7_slices_DeleteFunc_string_string B ro a0 a1 x6_6 Q Y4 x5_5 σ)
 else
 j2_slices_DeleteFunc_string_string B ro a0 Q x5_5 σ

def f_slices_DeleteFunc_string_string (B : World) (ro : AH) (a0 : Sl) (a1 : Value) (σ : AH) (Q : Sl → AH → Prop) : Prop :=
 c_slices_IndexFunc_string_string B ro a0 a1 σ fun x10_1 σ =>
 if x10_1 = (-1) then
  Q a0 σ
 else
 lfpD (l4_slices_DeleteFunc_string_string B ro a0 a1 Q ) (x10_1, IntKind.i64.wrap (x10_1 + 1)) σ

set_option maxRecDepth 100000 in
set_option maxHeartbeats 4000000 in
theorem slices_DeleteFunc_string_string_ok {B : World} {ro : AH} {a0 : Sl} {a1 : Value} {σ : AH} {Q : Sl → AH → Prop} (h : Sep ro σ → f_slices_DeleteFunc_string_string B ro a0 a1 σ Q) : c_slices_DeleteFunc_string_string B ro a0 a1 σ Q := by
  refine ACalls.of_sep fun hsep => ?_
  replace h := h hsep
  refine ACalls.of_body (args := [Sl.v a0, a1]) Tryz.func56 rfl (by rw [Tryz.ntmps56]; simp) ?_
  rw [Tryz.ntmps56]
  unfold f_slices_DeleteFunc_string_string at h
  refine AW.seq ?_
  refine AW.reg ?_
  refine Lp (V_asg rfl rfl) rfl rfl ?_
  refine Lnil ?_
  refine thenN ?_
  refine AW.seq ?_
  refine AW.reg ?_
  refine Lp (V_move rfl rfl) rfl rfl ?_
  refine Lp (V_move rfl rfl) rfl rfl ?_
  refine Ls rfl rfl (X_call rfl Tryz.func107 rfl rfl rfl (ACalls.mono h ?_))
  rintro v σ ⟨x10_1, rfl, h⟩
  refine Lp (V_asg rfl rfl) rfl rfl ?_
  refine Lnil ?_
  refine thenN ?_
  refine AW.seq ?_
  refine AW.seq ?_
  refine AW.reg ?_
  refine Lp (V_move rfl rfl) rfl rfl ?_
  refine Lp (V_eql rfl rfl rfl) rfl rfl ?_
  refine Lnil ?_
  refine thenN ?_
  refine AW.iff rfl decide_eq_true_iff h (fun h => ?_) (fun h => ?_)
  · refine AW.seq ?_
    refine AW.reg ?_
    refine Lp (V_move rfl rfl) rfl rfl ?_
    refine Lp (V_asg rfl rfl) rfl rfl ?_
    refine Lnil ?_
    refine thenN ?_
    refine AW.ret ?_
    refine thenR ?_
    exact bR1 Tryz.results56 rfl ⟨_, rfl, h⟩
  refine AW.skip ?_
  refine thenN ?_
  refine AW.seqJ (fun fr σ => ∃ (x5_3 : Int), FrLe [(0, Sl.v a0), (5, .int .i64 x5_3)] fr ∧ j2_slices_DeleteFunc_string_string B ro a0 Q x5_3 σ) ?_ ?_
  · rintro fr σ ⟨x5_3, hl, h⟩
    refine AW.weaken ?_ hl (HLe.refl _)
    unfold j2_slices_DeleteFunc_string_string at h
    refine AW.seq ?_
    refine AW.reg ?_
    refine Lp (V_move rfl rfl) rfl rfl ?_
    refine Lp (V_move rfl rfl) rfl rfl ?_
    obtain ⟨hc, h⟩ := h
    refine Lp (V_slL (lo := (some x5_3)) (hi := none) rfl Tryz.underlying25 ty9 rfl (optI_some rfl) optI_none hc) rfl rfl ?_
    refine Ls rfl rfl (X_bi (s := Builtin.clear_ #[25] 0 #[Sl.v (⟨cutA a0.a (Int.toNat x5_3) a0.cap 1, a0.len - Int.toNat x5_3, a0.cap - Int.toNat x5_3⟩ : Sl)]) rfl rfl (fun _ => rfl) (awp_mono _ h ?_))
    rintro v σ ⟨rfl, h⟩
    refine Lnil ?_
    refine thenN ?_
    refine AW.seq ?_
    refine AW.reg ?_
    refine Lp (V_move rfl rfl) rfl rfl ?_
    refine Lp (V_move rfl rfl) rfl rfl ?_
    obtain ⟨hc, h⟩ := h
    refine Lp (V_slL (lo := none) (hi := (some x5_3)) rfl Tryz.underlying25 ty9 rfl optI_none (optI_some rfl) hc) rfl rfl ?_
    refine Lp (V_asg rfl rfl) rfl rfl ?_
    refine Lnil ?_
    refine thenN ?_
    refine AW.ret ?_
    exact bR1 Tryz.results56 rfl ⟨_, rfl, h⟩
  refine AW.seq ?_
  refine AW.reg ?_
  refine Lp (V_move rfl rfl) rfl rfl ?_
  refine Lp (V_add rfl rfl rfl) rfl rfl ?_
  refine Lp (V_asg rfl rfl) rfl rfl ?_
  refine Lnil ?_
  refine thenN ?_
  refine AW.block ?_
  refine ARound.loop (fr' := [(0, Sl.v a0), (1, a1), (5, .int .i64 x10_1), (6, .int .i64 (IntKind.i64.wrap (x10_1 + 1)))]) ?_ (FrLe.cons rfl (FrLe.cons rfl (FrLe.cons rfl (FrLe.cons rfl (FrLe.nil _)))))
  refine h (fun ⟨x5_5, x6_6⟩ σ => ARound _ _ _ _ _ _ [(0, Sl.v a0), (1, a1), (5, .int .i64 x5_5), (6, .int .i64 x6_6)] σ) ?_
  rintro ⟨x5_5, x6_6⟩ σ Y4 hY4 h
  show AW _ _ _ _ _ _ _ _
  unfold l4_slices_DeleteFunc_string_string at h
  dsimp only at h
  refine AW.seq ?_
  refine AW.seq ?_
  refine AW.reg ?_
  refine Lp (V_move rfl rfl) rfl rfl ?_
  refine Lp (V_move rfl rfl) rfl rfl ?_
  refine Lp (V_lenL rfl rfl Tryz.underlying25 rfl rfl) rfl rfl ?_
  refine Lp (V_lss rfl rfl rfl) rfl rfl ?_
  refine Lnil ?_
  refine thenN ?_
  refine AW.iff rfl decide_eq_true_iff h (fun h => ?_) (fun h => ?_)
  rotate_left
  · refine AW.exit ?_
    refine thenE ?_
    refine thenE ?_
    refine blockE ?_
    refine thenN ?_
    exact ⟨_, (FrLe.cons rfl (FrLe.cons rfl (FrLe.nil _))), h⟩
  refine AW.skip ?_
  refine thenN ?_
  refine AW.seqJ (fun fr σ => ∃ (x5_8 : Int), FrLe [(0, Sl.v a0), (1, a1), (6, .int .i64 x6_6), (5, .int .i64 x5_8)] fr ∧ j7_slices_DeleteFunc_string_string B ro a0 a1 x6_6 Q Y4 x5_8 σ) ?_ ?_
  · rintro fr σ ⟨x5_8, hl, h⟩
    refine AW.weaken ?_ hl (HLe.refl _)
    unfold j7_slices_DeleteFunc_string_string at h
    refine AW.reg ?_
    refine Lp (V_move rfl rfl) rfl rfl ?_
    refine Lp (V_add rfl rfl rfl) rfl rfl ?_
    refine Lp (V_asg rfl rfl) rfl rfl ?_
    refine Lnil ?_
    refine thenN ?_
    refine ARound.head (fr' := [(0, Sl.v a0), (1, a1), (5, .int .i64 x5_8), (6, .int .i64 (IntKind.i64.wrap (x6_6 + 1)))]) ?_ (FrLe.cons rfl (FrLe.cons rfl (FrLe.cons rfl (FrLe.cons rfl (FrLe.nil _)))))
    exact hY4 _ _ h
  refine AW.block ?_
  refine AW.seq ?_
  refine AW.reg ?_
  refine Lp (V_move rfl rfl) rfl rfl ?_
  refine Lp (V_move rfl rfl) rfl rfl ?_
  obtain ⟨p24_9, ha, h0, h1, h⟩ := h
  refine Lp (V_ixA rfl Tryz.underlying25 ty9 (ixL rfl ha) rfl h0 h1) rfl rfl ?_
  obtain ⟨x25_10, hc, h⟩ := h
  refine Ls rfl rfl (X_ld rfl Tryz.underlying9 rfl rfl hc ?_)
  refine Lp (V_asg rfl rfl) rfl rfl ?_
  refine Lnil ?_
  refine thenN ?_
  refine AW.seq ?_
  refine AW.reg ?_
  refine Lp (V_move rfl rfl) rfl rfl ?_
  refine Lp (V_move rfl rfl) rfl rfl ?_
  refine Ls rfl rfl (X_callV rfl rfl rfl (callV_mono h ?_))
  rintro v σ ⟨x28_11, rfl, h⟩
  refine Lp (V_not rfl rfl) rfl rfl ?_
  refine Lnil ?_
  refine thenN ?_
  refine AW.iff rfl (bnot_iff Iff.rfl) h (fun h => ?_) (fun h => ?_)
  rotate_left
  · refine AW.skip ?_
    refine blockN ?_
    refine thenN ?_
    exact ⟨_, (FrLe.cons rfl (FrLe.cons rfl (FrLe.cons rfl (FrLe.cons rfl (FrLe.nil _))))), h⟩
  refine AW.seq ?_
  refine AW.reg ?_
  refine Lp (V_move rfl rfl) rfl rfl ?_
  refine Lp (V_move rfl rfl) rfl rfl ?_
  refine Lp (V_move rfl rfl) rfl rfl ?_
  obtain ⟨p33_12, ha, h0, h1, h⟩ := h
  refine Lp (V_ixA rfl Tryz.underlying25 ty9 (ixL rfl ha) rfl h0 h1) rfl rfl ?_
  refine Ls rfl rfl (X_st rfl ty9 rfl rfl rfl rfl (stN_mono h fun σ h => ?_))
  refine Lnil ?_
  refine thenN ?_
  refine AW.reg ?_
  refine Lp (V_move rfl rfl) rfl rfl ?_
  refine Lp (V_add rfl rfl rfl) rfl rfl ?_
  refine Lp (V_asg rfl rfl) rfl rfl ?_
  refine Lnil ?_
  refine blockN ?_
  refine thenN ?_
  exact ⟨_, (FrLe.cons rfl (FrLe.cons rfl (FrLe.cons rfl (FrLe.cons rfl (FrLe.nil _))))), h⟩

def f_bytes_Clone (B : World) (ro : AH) (a0 : Sl) (σ : AH) (Q : Sl → AH → Prop) : Prop :=
 if a0.a = none then
  Q (⟨none, 0, 0⟩ : Sl) σ
 else
 nw ro σ (.cells #[] 5) fun x5_1 σ =>
 awp Tryz.prog ro (Builtin.append_ #[30, 30] 30 #[Sl.v (⟨some ⟨x5_1, 0, none⟩, 0, 0⟩ : Sl), Sl.v a0]) (fun v σ => ∃ (x7_2 : Sl), v = Sl.v x7_2 ∧
  Q x7_2 σ) σ

set_option maxRecDepth 100000 in
set_option maxHeartbeats 4000000 in
theorem bytes_Clone_ok {B : World} {ro : AH} {a0 : Sl} {σ : AH} {Q : Sl → AH → Prop} (h : Sep ro σ → f_bytes_Clone B ro a0 σ Q) : c_bytes_Clone B ro a0 σ Q := by
  refine ACalls.of_sep fun hsep => ?_
  replace h := h hsep
  refine ACalls.of_body (args := [Sl.v a0]) Tryz.func61 rfl (by rw [Tryz.ntmps61]; simp) ?_
  rw [Tryz.ntmps61]
  unfold f_bytes_Clone at h
  refine AW.seq ?_
  refine AW.reg ?_
  refine Lp (V_asg rfl rfl) rfl rfl ?_
  refine Lnil ?_
  refine thenN ?_
  refine AW.seq ?_
  refine AW.seq ?_
  refine AW.reg ?_
  refine Lp (V_move rfl rfl) rfl rfl ?_
  refine Lp (V_eqL rfl Tryz.underlying30 rfl rfl) rfl rfl ?_
  refine Lnil ?_
  refine thenN ?_
  refine AW.iff rfl isNone_iff h (fun h => ?_) (fun h => ?_)
  · refine AW.seq ?_
    refine AW.reg ?_
    refine Lp (V_asg rfl rfl) rfl rfl ?_
    refine Lnil ?_
    refine thenN ?_
    refine AW.ret ?_
    refine thenR ?_
    exact bR1 Tryz.results61 rfl ⟨_, rfl, h⟩
  refine AW.skip ?_
  refine thenN ?_
  refine AW.seq ?_
  refine AW.reg ?_
  refine Ls rfl rfl (X_new (A_bsl (vs := []) (cs := #[]) rfl Tryz.underlying30 ty5 (by decide) rfl rfl) fun x5_1 g1 g2 => ?_)
  replace h := h x5_1 g1 g2
  refine Lp (V_move rfl rfl) rfl rfl ?_
  refine Ls rfl rfl (X_bi (s := Builtin.append_ #[30, 30] 30 #[Sl.v (⟨some ⟨x5_1, 0, none⟩, 0, 0⟩ : Sl), Sl.v a0]) rfl rfl (fun _ => rfl) (awp_mono _ h ?_))
  rintro v σ ⟨x7_2, rfl, h⟩
  refine Lp (V_asg rfl rfl) rfl rfl ?_
  refine Lnil ?_
  refine thenN ?_
  refine AW.ret ?_
  exact bR1 Tryz.results61 rfl ⟨_, rfl, h⟩

def f_slices_Backward_string_string (B : World) (ro : AH) (a0 : Sl) (σ : AH) (Q : Value → AH → Prop) : Prop :=
 nw ro σ (.cells #[Sl.v a0] 25) fun x1_1 σ =>
 Q (.func (.func 126) #[] #[.pointer (some ⟨x1_1, 0, none⟩)]) σ

set_option maxRecDepth 100000 in
set_option maxHeartbeats 4000000 in
theorem slices_Backward_string_string_ok {B : World} {ro : AH} {a0 : Sl} {σ : AH} {Q : Value → AH → Prop} (h : Sep ro σ → f_slices_Backward_string_string B ro a0 σ Q) : c_slices_Backward_string_string B ro a0 σ Q := by
  refine ACalls.of_sep fun hsep => ?_
  replace h := h hsep
  refine ACalls.of_body (args := [Sl.v a0]) Tryz.func101 rfl (by rw [Tryz.ntmps101]; simp) ?_
  rw [Tryz.ntmps101]
  unfold f_slices_Backward_string_string at h
  refine AW.seq ?_
  refine AW.reg ?_
  refine Ls rfl rfl (X_new (A_box rfl rfl) fun x1_1 g1 g2 => ?_)
  replace h := h x1_1 g1 g2
  refine Lp (V_asg rfl rfl) rfl rfl ?_
  refine Lnil ?_
  refine thenN ?_
  refine AW.seq ?_
  refine AW.reg ?_
  refine Lp (V_mkf rfl rfl rfl) rfl rfl ?_
  refine Lp (V_asg rfl rfl) rfl rfl ?_
  refine Lnil ?_
  refine thenN ?_
  refine AW.ret ?_
  exact bR1 Tryz.results101 rfl ⟨_, rfl, h⟩

def j1_slices_IndexFunc_string_string (B : World) (ro : AH) (Q : Int → AH → Prop) (σ : AH) : Prop :=
 Q (-1) σ

def l2_slices_IndexFunc_string_string (B : World) (ro : AH) (a0 : Sl) (a1 : Value) (Q : Int → AH → Prop) : (Int) → AH → ((Int) → AH → Prop) → Prop := fun x8_3 σ Y2 =>
 if x8_3 < (a0.len : Int) then
  ∃ p14_4 : Addr, a0.a = some p14_4 ∧ (0 : Int) ≤ x8_3 ∧ x8_3 < (a0.len : Int) ∧
  ∃ (x15_5 : ByteArray), acell ro σ (p14_4.add (Int.toNat x8_3 * 1)) = some (.string x15_5) ∧
  callV Tryz.prog B ro a1 [.string x15_5] σ (fun v σ => ∃ (x16_6 : Bool), v = .bool x16_6 ∧
   if x16_6 = true then
    Q x8_3 σ
   else
   Y2 (IntKind.i64.wrap (x8_3 + 1)) σ)
 else
 j1_slices_IndexFunc_string_string B ro Q σ

def f_slices_IndexFunc_string_string (B : World) (ro : AH) (a0 : Sl) (a1 : Value) (σ : AH) (Q : Int → AH → Prop) : Prop :=
 lfpD (l2_slices_IndexFunc_string_string B ro a0 a1 Q ) (0) σ

set_option maxRecDepth 100000 in
set_option maxHeartbeats 4000000 in
theorem slices_IndexFunc_string_string_ok {B : World} {ro : AH} {a0 : Sl} {a1 : Value} {σ : AH} {Q : Int → AH → Prop} (h : Sep ro σ → f_slices_IndexFunc_string_string B ro a0 a1 σ Q) : c_slices_IndexFunc_string_string B ro a0 a1 σ Q := by
  refine ACalls.of_sep fun hsep => ?_
  replace h := h hsep
  refine ACalls.of_body (args := [Sl.v a0, a1]) Tryz.func107 rfl (by rw [Tryz.ntmps107]; simp) ?_
  rw [Tryz.ntmps107]
  unfold f_slices_IndexFunc_string_string at h
  refine AW.seq ?_
  refine AW.reg ?_
  refine Lp (V_asg rfl rfl) rfl rfl ?_
  refine Lnil ?_
  refine thenN ?_
  refine AW.seqJ (fun fr σ => FrLe [] fr ∧ j1_slices_IndexFunc_string_string B ro Q σ) ?_ ?_
  · rintro fr σ ⟨hl, h⟩
    refine AW.weaken ?_ hl (HLe.refl _)
    unfold j1_slices_IndexFunc_string_string at h
    refine AW.seq ?_
    refine AW.reg ?_
    refine Lp (V_asg rfl rfl) rfl rfl ?_
    refine Lnil ?_
    refine thenN ?_
    refine AW.ret ?_
    exact bR1 Tryz.results107 rfl ⟨_, rfl, h⟩
  refine AW.seq ?_
  refine AW.reg ?_
  refine Lp (V_move rfl rfl) rfl rfl ?_
  refine Lp (V_lenL rfl rfl Tryz.underlying25 rfl rfl) rfl rfl ?_
  refine Lp (V_move rfl rfl) rfl rfl ?_
  refine Lnil ?_
  refine thenN ?_
  refine AW.block ?_
  refine ARound.loop (fr' := [(0, Sl.v a0), (1, a1), (7, .int .i64 (a0.len : Int)), (8, .int .i64 0)]) ?_ (FrLe.cons rfl (FrLe.cons rfl (FrLe.cons rfl (FrLe.cons rfl (FrLe.nil _)))))
  refine h (fun x8_3 σ => ARound _ _ _ _ _ _ [(0, Sl.v a0), (1, a1), (7, .int .i64 (a0.len : Int)), (8, .int .i64 x8_3)] σ) ?_
  rintro x8_3 σ Y2 hY2 h
  show AW _ _ _ _ _ _ _ _
  unfold l2_slices_IndexFunc_string_string at h
  refine AW.seq ?_
  refine AW.reg ?_
  refine Lp (V_lss rfl rfl rfl) rfl rfl ?_
  refine Lnil ?_
  refine thenN ?_
  refine AW.seq ?_
  refine AW.iff rfl decide_eq_true_iff h (fun h => ?_) (fun h => ?_)
  rotate_left
  · refine AW.exit ?_
    refine thenE ?_
    refine thenE ?_
    refine blockE ?_
    refine thenN ?_
    exact ⟨(FrLe.nil _), h⟩
  refine AW.skip ?_
  refine thenN ?_
  refine AW.seq ?_
  refine AW.block ?_
  refine AW.seq ?_
  refine AW.reg ?_
  refine Lp (V_move rfl rfl) rfl rfl ?_
  refine Lp (V_asg rfl rfl) rfl rfl ?_
  refine Lnil ?_
  refine thenN ?_
  refine AW.seq ?_
  refine AW.reg ?_
  refine Lp (V_move rfl rfl) rfl rfl ?_
  refine Lp (V_move rfl rfl) rfl rfl ?_
  refine Lp (V_move rfl rfl) rfl rfl ?_
  obtain ⟨p14_4, ha, h0, h1, h⟩ := h
  refine Lp (V_ixA rfl Tryz.underlying25 ty9 (ixL rfl ha) rfl h0 h1) rfl rfl ?_
  obtain ⟨x15_5, hc, h⟩ := h
  refine Ls rfl rfl (X_ld rfl Tryz.underlying9 rfl rfl hc ?_)
  refine Ls rfl rfl (X_callV rfl rfl rfl (callV_mono h ?_))
  rintro v σ ⟨x16_6, rfl, h⟩
  refine Lnil ?_
  refine thenN ?_
  refine AW.iff rfl Iff.rfl h (fun h => ?_) (fun h => ?_)
  · refine AW.seq ?_
    refine AW.reg ?_
    refine Lp (V_move rfl rfl) rfl rfl ?_
    refine Lp (V_asg rfl rfl) rfl rfl ?_
    refine Lnil ?_
    refine thenN ?_
    refine AW.ret ?_
    refine blockR ?_
    refine thenR ?_
    refine thenR ?_
    refine blockR ?_
    refine thenR ?_
    exact bR1 Tryz.results107 rfl ⟨_, rfl, h⟩
  refine AW.skip ?_
  refine blockN ?_
  refine thenN ?_
  refine AW.reg ?_
  refine Lp (V_add rfl rfl rfl) rfl rfl ?_
  refine Lp (V_move rfl rfl) rfl rfl ?_
  refine Lnil ?_
  refine thenN ?_
  refine ARound.head (fr' := [(0, Sl.v a0), (1, a1), (7, .int .i64 (a0.len : Int)), (8, .int .i64 (IntKind.i64.wrap (x8_3 + 1)))]) ?_ (FrLe.cons rfl (FrLe.cons rfl (FrLe.cons rfl (FrLe.cons rfl (FrLe.nil _)))))
  exact hY2 _ _ h

def f_strings_HasPrefix (B : World) (ro : AH) (a0 : ByteArray) (a1 : ByteArray) (σ : AH) (Q : Bool → AH → Prop) : Prop :=
 c_stringslite_HasPrefix B ro a0 a1 σ fun x7_1 σ =>
 Q x7_1 σ

set_option maxRecDepth 100000 in
set_option maxHeartbeats 4000000 in
theorem strings_HasPrefix_ok {B : World} {ro : AH} {a0 : ByteArray} {a1 : ByteArray} {σ : AH} {Q : Bool → AH → Prop} (h : Sep ro σ → f_strings_HasPrefix B ro a0 a1 σ Q) : c_strings_HasPrefix B ro a0 a1 σ Q := by
  refine ACalls.of_sep fun hsep => ?_
  replace h := h hsep
  refine ACalls.of_body (args := [.string a0, .string a1]) Tryz.func110 rfl (by rw [Tryz.ntmps110]; simp) ?_
  rw [Tryz.ntmps110]
  unfold f_strings_HasPrefix at h
  refine AW.seq ?_
  refine AW.reg ?_
  refine Lp (V_asg rfl rfl) rfl rfl ?_
  refine Lnil ?_
  refine thenN ?_
  refine AW.seq ?_
  refine AW.reg ?_
  refine Lp (V_move rfl rfl) rfl rfl ?_
  refine Lp (V_move rfl rfl) rfl rfl ?_
  refine Ls rfl rfl (X_call rfl Tryz.func133 rfl rfl rfl (ACalls.mono h ?_))
  rintro v σ ⟨x7_1, rfl, h⟩
  refine Lp (V_asg rfl rfl) rfl rfl ?_
  refine Lnil ?_
  refine thenN ?_
  refine AW.ret ?_
  exact bR1 Tryz.results110 rfl ⟨_, rfl, h⟩

def f_strings_LastIndexByte (B : World) (ro : AH) (a0 : ByteArray) (a1 : Int) (σ : AH) (Q : Int → AH → Prop) : Prop :=
 c_bytealg_LastIndexByteString B ro a0 a1 σ fun x7_1 σ =>
 Q x7_1 σ

set_option maxRecDepth 100000 in
set_option maxHeartbeats 4000000 in
theorem strings_LastIndexByte_ok {B : World} {ro : AH} {a0 : ByteArray} {a1 : Int} {σ : AH} {Q : Int → AH → Prop} (h : Sep ro σ → f_strings_LastIndexByte B ro a0 a1 σ Q) : c_strings_LastIndexByte B ro a0 a1 σ Q := by
  refine ACalls.of_sep fun hsep => ?_
  replace h := h hsep
  refine ACalls.of_body (args := [.string a0, .int .u8 a1]) Tryz.func111 rfl (by rw [Tryz.ntmps111]; simp) ?_
  rw [Tryz.ntmps111]
  unfold f_strings_LastIndexByte at h
  refine AW.seq ?_
  refine AW.reg ?_
  refine Lp (V_asg rfl rfl) rfl rfl ?_
  refine Lnil ?_
  refine thenN ?_
  refine AW.seq ?_
  refine AW.reg ?_
  refine Lp (V_move rfl rfl) rfl rfl ?_
  refine Lp (V_move rfl rfl) rfl rfl ?_
  refine Ls rfl rfl (X_call rfl Tryz.func134 rfl rfl rfl (ACalls.mono h ?_))
  rintro v σ ⟨x7_1, rfl, h⟩
  refine Lp (V_asg rfl rfl) rfl rfl ?_
  refine Lnil ?_
  refine thenN ?_
  refine AW.ret ?_
  exact bR1 Tryz.results111 rfl ⟨_, rfl, h⟩

def f_slices_Contains_int_int (B : World) (ro : AH) (a0 : Sl) (a1 : Int) (σ : AH) (Q : Bool → AH → Prop) : Prop :=
 c_slices_Index_int_int B ro a0 a1 σ fun x7_1 σ =>
 Q (decide (0 ≤ x7_1)) σ

set_option maxRecDepth 100000 in
set_option maxHeartbeats 4000000 in
theorem slices_Contains_int_int_ok {B : World} {ro : AH} {a0 : Sl} {a1 : Int} {σ : AH} {Q : Bool → AH → Prop} (h : Sep ro σ → f_slices_Contains_int_int B ro a0 a1 σ Q) : c_slices_Contains_int_int B ro a0 a1 σ Q := by
  refine ACalls.of_sep fun hsep => ?_
  replace h := h hsep
  refine ACalls.of_body (args := [Sl.v a0, .int .i64 a1]) Tryz.func121 rfl (by rw [Tryz.ntmps121]; simp) ?_
  rw [Tryz.ntmps121]
  unfold f_slices_Contains_int_int at h
  refine AW.seq ?_
  refine AW.reg ?_
  refine Lp (V_asg rfl rfl) rfl rfl ?_
  refine Lnil ?_
  refine thenN ?_
  refine AW.seq ?_
  refine AW.reg ?_
  refine Lp (V_move rfl rfl) rfl rfl ?_
  refine Lp (V_move rfl rfl) rfl rfl ?_
  refine Ls rfl rfl (X_call rfl Tryz.func145 rfl rfl rfl (ACalls.mono h ?_))
  rintro v σ ⟨x7_1, rfl, h⟩
  refine Lp (V_geq rfl rfl rfl) rfl rfl ?_
  refine Lp (V_asg rfl rfl) rfl rfl ?_
  refine Lnil ?_
  refine thenN ?_
  refine AW.ret ?_
  exact bR1 Tryz.results121 rfl ⟨_, rfl, h⟩

def j1_stringslite_HasPrefix (B : World) (ro : AH) (Q : Bool → AH → Prop) (x17_2 : Bool) (σ : AH) : Prop :=
 Q x17_2 σ

def f_stringslite_HasPrefix (B : World) (ro : AH) (a0 : ByteArray) (a1 : ByteArray) (σ : AH) (Q : Bool → AH → Prop) : Prop :=
 if (a1.size : Int) ≤ (a0.size : Int) then
  cutOk none (some (a1.size : Int)) a0.size a0.size ∧
  j1_stringslite_HasPrefix B ro Q (decide ((a0.extract (0) (Int.toNat (a1.size : Int))) = a1)) σ
 else
 j1_stringslite_HasPrefix B ro Q false σ

set_option maxRecDepth 100000 in
set_option maxHeartbeats 4000000 in
theorem stringslite_HasPrefix_ok {B : World} {ro : AH} {a0 : ByteArray} {a1 : ByteArray} {σ : AH} {Q : Bool → AH → Prop} (h : Sep ro σ → f_stringslite_HasPrefix B ro a0 a1 σ Q) : c_stringslite_HasPrefix B ro a0 a1 σ Q := by
  refine ACalls.of_sep fun hsep => ?_
  replace h := h hsep
  refine ACalls.of_body (args := [.string a0, .string a1]) Tryz.func133 rfl (by rw [Tryz.ntmps133]; simp) ?_
  rw [Tryz.ntmps133]
  unfold f_stringslite_HasPrefix at h
  refine AW.seq ?_
  refine AW.reg ?_
  refine Lp (V_asg rfl rfl) rfl rfl ?_
  refine Lnil ?_
  refine thenN ?_
  refine AW.seq ?_
  refine AW.reg ?_
  refine Lp (V_move rfl rfl) rfl rfl ?_
  refine Lp (V_lenS rfl rfl Tryz.underlying9 rfl rfl) rfl rfl ?_
  refine Lp (V_move rfl rfl) rfl rfl ?_
  refine Lp (V_lenS rfl rfl Tryz.underlying9 rfl rfl) rfl rfl ?_
  refine Lp (V_geq rfl rfl rfl) rfl rfl ?_
  refine Lp (V_move rfl rfl) rfl rfl ?_
  refine LsplitJ 7 (decide ((a1.size : Int) ≤ (a0.size : Int))) decide_eq_true_iff h (fun fr σ => ∃ (x17_2 : Bool), FrLe [(17, .bool x17_2)] fr ∧ j1_stringslite_HasPrefix B ro Q x17_2 σ) ?_ ?_ ?_
  · intro h e5 hk5
    refine Lypb (V_move rfl rfl) rfl rfl rfl rfl e5 ?_
    refine Lypb (V_move rfl rfl) rfl rfl rfl rfl e5 ?_
    refine Lypb (V_lenS rfl rfl Tryz.underlying9 rfl rfl) rfl rfl rfl rfl e5 ?_
    obtain ⟨hc, h⟩ := h
    refine Lypb (V_slS (lo := none) (hi := (some (a1.size : Int))) rfl Tryz.underlying9 rfl optI_none (optI_some rfl) hc) rfl rfl rfl rfl e5 ?_
    refine Lypb (V_move rfl rfl) rfl rfl rfl rfl e5 ?_
    refine Lypb (V_eqlS rfl rfl rfl) rfl rfl rfl rfl e5 ?_
    refine Lp (V_pickT rfl (evb e5) rfl) rfl rfl ?_
    exact hk5 _ _ ⟨_, (FrLe.cons rfl (FrLe.nil _)), h⟩
  · intro h e5 hk5
    refine Ln rfl rfl rfl rfl (.inl (by rw [e5]; rfl)) ?_
    refine Ln rfl rfl rfl rfl (.inl (by rw [e5]; rfl)) ?_
    refine Ln rfl rfl rfl rfl (.inl (by rw [e5]; rfl)) ?_
    refine Ln rfl rfl rfl rfl (.inl (by rw [e5]; rfl)) ?_
    refine Ln rfl rfl rfl rfl (.inl (by rw [e5]; rfl)) ?_
    refine Ln rfl rfl rfl rfl (.inl (by rw [e5]; rfl)) ?_
    refine Lp (V_pickF rfl (evb e5) rfl) rfl rfl ?_
    exact hk5 _ _ ⟨_, (FrLe.cons rfl (FrLe.nil _)), h⟩
  rintro fr σ ⟨x17_2, hl, h⟩
  unfold j1_stringslite_HasPrefix at h
  refine Lfr hl ?_
  refine Lp (V_asg rfl rfl) rfl rfl ?_
  refine Lnil ?_
  refine thenN ?_
  refine AW.ret ?_
  exact bR1 Tryz.results133 rfl ⟨_, rfl, h⟩

def j1_bytealg_LastIndexByteString (B : World) (ro : AH) (Q : Int → AH → Prop) (σ : AH) : Prop :=
 Q (-1) σ

def l2_bytealg_LastIndexByteString (B : World) (ro : AH) (a0 : ByteArray) (a1 : Int) (Q : Int → AH → Prop) : (Int) → AH → ((Int) → AH → Prop) → Prop := fun x5_3 σ Y2 =>
 if 0 ≤ x5_3 then
  ∃ x15_4 : UInt8, (0 : Int) ≤ x5_3 ∧ a0[Int.toNat x5_3]? = some x15_4 ∧
  if (x15_4.toNat : Int) = a1 then
   Q x5_3 σ
  else
  Y2 (IntKind.i64.wrap (x5_3 - 1)) σ
 else
 j1_bytealg_LastIndexByteString B ro Q σ

def f_bytealg_LastIndexByteString (B : World) (ro : AH) (a0 : ByteArray) (a1 : Int) (σ : AH) (Q : Int → AH → Prop) : Prop :=
 lfpD (l2_bytealg_LastIndexByteString B ro a0 a1 Q ) (IntKind.i64.wrap ((a0.size : Int) - 1)) σ

set_option maxRecDepth 100000 in
set_option maxHeartbeats 4000000 in
theorem bytealg_LastIndexByteString_ok {B : World} {ro : AH} {a0 : ByteArray} {a1 : Int} {σ : AH} {Q : Int → AH → Prop} (h : Sep ro σ → f_bytealg_LastIndexByteString B ro a0 a1 σ Q) : c_bytealg_LastIndexByteString B ro a0 a1 σ Q := by
  refine ACalls.of_sep fun hsep => ?_
  replace h := h hsep
  refine ACalls.of_body (args := [.string a0, .int .u8 a1]) Tryz.func134 rfl (by rw [Tryz.ntmps134]; simp) ?_
  rw [Tryz.ntmps134]
  unfold f_bytealg_LastIndexByteString at h
  refine AW.seq ?_
  refine AW.reg ?_
  refine Lp (V_asg rfl rfl) rfl rfl ?_
  refine Lnil ?_
  refine thenN ?_
  refine AW.seqJ (fun fr σ => FrLe [] fr ∧ j1_bytealg_LastIndexByteString B ro Q σ) ?_ ?_
  · rintro fr σ ⟨hl, h⟩
    refine AW.weaken ?_ hl (HLe.refl _)
    unfold j1_bytealg_LastIndexByteString at h
    refine AW.seq ?_
    refine AW.reg ?_
    refine Lp (V_asg rfl rfl) rfl rfl ?_
    refine Lnil ?_
    refine thenN ?_
    refine AW.ret ?_
    exact bR1 Tryz.results134 rfl ⟨_, rfl, h⟩
  refine AW.seq ?_
  refine AW.reg ?_
  refine Lp (V_move rfl rfl) rfl rfl ?_
  refine Lp (V_lenS rfl rfl Tryz.underlying9 rfl rfl) rfl rfl ?_
  refine Lp (V_sub rfl rfl rfl) rfl rfl ?_
  refine Lp (V_asg rfl rfl) rfl rfl ?_
  refine Lnil ?_
  refine thenN ?_
  refine AW.block ?_
  refine ARound.loop (fr' := [(0, .string a0), (1, .int .u8 a1), (5, .int .i64 (IntKind.i64.wrap ((a0.size : Int) - 1)))]) ?_ (FrLe.cons rfl (FrLe.cons rfl (FrLe.cons rfl (FrLe.nil _))))
  refine h (fun x5_3 σ => ARound _ _ _ _ _ _ [(0, .string a0), (1, .int .u8 a1), (5, .int .i64 x5_3)] σ) ?_
  rintro x5_3 σ Y2 hY2 h
  show AW _ _ _ _ _ _ _ _
  unfold l2_bytealg_LastIndexByteString at h
  refine AW.seq ?_
  refine AW.seq ?_
  refine AW.reg ?_
  refine Lp (V_move rfl rfl) rfl rfl ?_
  refine Lp (V_geq rfl rfl rfl) rfl rfl ?_
  refine Lnil ?_
  refine thenN ?_
  refine AW.iff rfl decide_eq_true_iff h (fun h => ?_) (fun h => ?_)
  rotate_left
  · refine AW.exit ?_
    refine thenE ?_
    refine thenE ?_
    refine blockE ?_
    refine thenN ?_
    exact ⟨(FrLe.nil _), h⟩
  refine AW.skip ?_
  refine thenN ?_
  refine AW.seq ?_
  refine AW.block ?_
  refine AW.seq ?_
  refine AW.reg ?_
  refine Lp (V_move rfl rfl) rfl rfl ?_
  refine Lp (V_move rfl rfl) rfl rfl ?_
  obtain ⟨x15_4, h0, hc, h⟩ := h
  refine Lp (V_idxS rfl Tryz.underlying9 rfl rfl h0 hc) rfl rfl ?_
  refine Lp (V_move rfl rfl) rfl rfl ?_
  refine Lp (V_eql rfl rfl rfl) rfl rfl ?_
  refine Lnil ?_
  refine thenN ?_
  refine AW.iff rfl decide_eq_true_iff h (fun h => ?_) (fun h => ?_)
  · refine AW.seq ?_
    refine AW.reg ?_
    refine Lp (V_move rfl rfl) rfl rfl ?_
    refine Lp (V_asg rfl rfl) rfl rfl ?_
    refine Lnil ?_
    refine thenN ?_
    refine AW.ret ?_
    refine blockR ?_
    refine thenR ?_
    refine thenR ?_
    refine blockR ?_
    refine thenR ?_
    exact bR1 Tryz.results134 rfl ⟨_, rfl, h⟩
  refine AW.skip ?_
  refine blockN ?_
  refine thenN ?_
  refine AW.reg ?_
  refine Lp (V_move rfl rfl) rfl rfl ?_
  refine Lp (V_sub rfl rfl rfl) rfl rfl ?_
  refine Lp (V_asg rfl rfl) rfl rfl ?_
  refine Lnil ?_
  refine thenN ?_
  refine ARound.head (fr' := [(0, .string a0), (1, .int .u8 a1), (5, .int .i64 (IntKind.i64.wrap (x5_3 - 1)))]) ?_ (FrLe.cons rfl (FrLe.cons rfl (FrLe.cons rfl (FrLe.nil _))))
  exact hY2 _ _ h

def j1_slices_Index_int_int (B : World) (ro : AH) (Q : Int → AH → Prop) (σ : AH) : Prop :=
 Q (-1) σ

def l2_slices_Index_int_int (B : World) (ro : AH) (a0 : Sl) (a1 : Int) (Q : Int → AH → Prop) : (Int) → AH → ((Int) → AH → Prop) → Prop := fun x8_3 σ Y2 =>
 if x8_3 < (a0.len : Int) then
  ∃ p14_4 : Addr, a0.a = some p14_4 ∧ (0 : Int) ≤ x8_3 ∧ x8_3 < (a0.len : Int) ∧
  ∃ (x15_5 : Int), acell ro σ (p14_4.add (Int.toNat x8_3 * 1)) = some (.int .i64 x15_5) ∧
  if a1 = x15_5 then
   Q x8_3 σ
  else
  Y2 (IntKind.i64.wrap (x8_3 + 1)) σ
 else
 j1_slices_Index_int_int B ro Q σ

def f_slices_Index_int_int (B : World) (ro : AH) (a0 : Sl) (a1 : Int) (σ : AH) (Q : Int → AH → Prop) : Prop :=
 lfpD (l2_slices_Index_int_int B ro a0 a1 Q ) (0) σ

set_option maxRecDepth 100000 in
set_option maxHeartbeats 4000000 in
theorem slices_Index_int_int_ok {B : World} {ro : AH} {a0 : Sl} {a1 : Int} {σ : AH} {Q : Int → AH → Prop} (h : Sep ro σ → f_slices_Index_int_int B ro a0 a1 σ Q) : c_slices_Index_int_int B ro a0 a1 σ Q := by
  refine ACalls.of_sep fun hsep => ?_
  replace h := h hsep
  refine ACalls.of_body (args := [Sl.v a0, .int .i64 a1]) Tryz.func145 rfl (by rw [Tryz.ntmps145]; simp) ?_
  rw [Tryz.ntmps145]
  unfold f_slices_Index_int_int at h
  refine AW.seq ?_
  refine AW.reg ?_
  refine Lp (V_asg rfl rfl) rfl rfl ?_
  refine Lnil ?_
  refine thenN ?_
  refine AW.seqJ (fun fr σ => FrLe [] fr ∧ j1_slices_Index_int_int B ro Q σ) ?_ ?_
  · rintro fr σ ⟨hl, h⟩
    refine AW.weaken ?_ hl (HLe.refl _)
    unfold j1_slices_Index_int_int at h
    refine AW.seq ?_
    refine AW.reg ?_
    refine Lp (V_asg rfl rfl) rfl rfl ?_
    refine Lnil ?_
    refine thenN ?_
    refine AW.ret ?_
    exact bR1 Tryz.results145 rfl ⟨_, rfl, h⟩
  refine AW.seq ?_
  refine AW.reg ?_
  refine Lp (V_move rfl rfl) rfl rfl ?_
  refine Lp (V_lenL rfl rfl Tryz.underlying58 rfl rfl) rfl rfl ?_
  refine Lp (V_move rfl rfl) rfl rfl ?_
  refine Lnil ?_
  refine thenN ?_
  refine AW.block ?_
  refine ARound.loop (fr' := [(0, Sl.v a0), (1, .int .i64 a1), (7, .int .i64 (a0.len : Int)), (8, .int .i64 0)]) ?_ (FrLe.cons rfl (FrLe.cons rfl (FrLe.cons rfl (FrLe.cons rfl (FrLe.nil _)))))
  refine h (fun x8_3 σ => ARound _ _ _ _ _ _ [(0, Sl.v a0), (1, .int .i64 a1), (7, .int .i64 (a0.len : Int)), (8, .int .i64 x8_3)] σ) ?_
  rintro x8_3 σ Y2 hY2 h
  show AW _ _ _ _ _ _ _ _
  unfold l2_slices_Index_int_int at h
  refine AW.seq ?_
  refine AW.reg ?_
  refine Lp (V_lss rfl rfl rfl) rfl rfl ?_
  refine Lnil ?_
  refine thenN ?_
  refine AW.seq ?_
  refine AW.iff rfl decide_eq_true_iff h (fun h => ?_) (fun h => ?_)
  rotate_left
  · refine AW.exit ?_
    refine thenE ?_
    refine thenE ?_
    refine blockE ?_
    refine thenN ?_
    exact ⟨(FrLe.nil _), h⟩
  refine AW.skip ?_
  refine thenN ?_
  refine AW.seq ?_
  refine AW.block ?_
  refine AW.seq ?_
  refine AW.reg ?_
  refine Lp (V_move rfl rfl) rfl rfl ?_
  refine Lp (V_asg rfl rfl) rfl rfl ?_
  refine Lnil ?_
  refine thenN ?_
  refine AW.seq ?_
  refine AW.reg ?_
  refine Lp (V_move rfl rfl) rfl rfl ?_
  refine Lp (V_move rfl rfl) rfl rfl ?_
  refine Lp (V_move rfl rfl) rfl rfl ?_
  obtain ⟨p14_4, ha, h0, h1, h⟩ := h
  refine Lp (V_ixA rfl Tryz.underlying58 ty3 (ixL rfl ha) rfl h0 h1) rfl rfl ?_
  obtain ⟨x15_5, hc, h⟩ := h
  refine Ls rfl rfl (X_ld rfl Tryz.underlying3 rfl rfl hc ?_)
  refine Lp (V_eql rfl rfl rfl) rfl rfl ?_
  refine Lnil ?_
  refine thenN ?_
  refine AW.iff rfl decide_eq_true_iff h (fun h => ?_) (fun h => ?_)
  · refine AW.seq ?_
    refine AW.reg ?_
    refine Lp (V_move rfl rfl) rfl rfl ?_
    refine Lp (V_asg rfl rfl) rfl rfl ?_
    refine Lnil ?_
    refine thenN ?_
    refine AW.ret ?_
    refine blockR ?_
    refine thenR ?_
    refine thenR ?_
    refine blockR ?_
    refine thenR ?_
    exact bR1 Tryz.results145 rfl ⟨_, rfl, h⟩
  refine AW.skip ?_
  refine blockN ?_
  refine thenN ?_
  refine AW.reg ?_
  refine Lp (V_add rfl rfl rfl) rfl rfl ?_
  refine Lp (V_move rfl rfl) rfl rfl ?_
  refine Lnil ?_
  refine thenN ?_
  refine ARound.head (fr' := [(0, Sl.v a0), (1, .int .i64 a1), (7, .int .i64 (a0.len : Int)), (8, .int .i64 (IntKind.i64.wrap (x8_3 + 1)))]) ?_ (FrLe.cons rfl (FrLe.cons rfl (FrLe.cons rfl (FrLe.cons rfl (FrLe.nil _)))))
  exact hY2 _ _ h

end Go.Proofs.YthfpmipeejjogaaGreatDoor.G

/- Functions as predicate transformers, and the proofs that the code does what they tell: printed by wip/tools/gen.py. -/
namespace Go.Proofs.YthfpmipeejjogaaGreatDoor.G
open Go Go.Proofs.YthfpmipeejjogaaGreatDoor.SL
set_option linter.unusedVariables false
set_option linter.unusedSimpArgs false

def f_path_Check (B : World) (ro : AH) (a0 : ByteArray) (σ : AH) (Q : Int → AH → Prop) : Prop :=
 c_path_Parts B ro a0 σ fun x7_1 x7_2 σ =>
 Q x7_2 σ

set_option maxRecDepth 100000 in
set_option maxHeartbeats 4000000 in
theorem path_Check_ok {B : World} {ro : AH} {a0 : ByteArray} {σ : AH} {Q : Int → AH → Prop} (h : Sep ro σ → f_path_Check B ro a0 σ Q) : c_path_Check B ro a0 σ Q := by
  refine ACalls.of_sep fun hsep => ?_
  replace h := h hsep
  refine ACalls.of_body (args := [.string a0]) Tryz.func55 rfl (by rw [Tryz.ntmps55]; simp) ?_
  rw [Tryz.ntmps55]
  unfold f_path_Check at h
  refine AW.seq ?_
  refine AW.reg ?_
  refine Lp (V_asg rfl rfl) rfl rfl ?_
  refine Lnil ?_
  refine thenN ?_
  refine AW.seq ?_
  refine AW.reg ?_
  refine Lp (V_move rfl rfl) rfl rfl ?_
  refine Ls rfl rfl (X_call rfl Tryz.func106 rfl rfl rfl (ACalls.mono h ?_))
  rintro v σ ⟨x7_1, x7_2, rfl, h⟩
  refine Lp (V_move rfl rfl) rfl rfl ?_
  refine Lp (V_ext rfl rfl rfl) rfl rfl ?_
  refine Lp (V_ext rfl rfl rfl) rfl rfl ?_
  refine Lp (V_asg rfl rfl) rfl rfl ?_
  refine Lp (V_asg rfl rfl) rfl rfl ?_
  refine Lnil ?_
  refine thenN ?_
  refine AW.seq ?_
  refine AW.reg ?_
  refine Lp (V_move rfl rfl) rfl rfl ?_
  refine Lp (V_asg rfl rfl) rfl rfl ?_
  refine Lnil ?_
  refine thenN ?_
  refine AW.ret ?_
  exact bR1 Tryz.results55 rfl ⟨_, rfl, h⟩

def j4_path_Under (B : World) (ro : AH) (Q : Bool → Int → AH → Prop) (x26_5 : Bool) (σ : AH) : Prop :=
 Q x26_5 0 σ

def j2_path_Under (B : World) (ro : AH) (a0 : ByteArray) (a1 : ByteArray) (Q : Bool → Int → AH → Prop) (x13_3 : Bool) (σ : AH) : Prop :=
 if x13_3 = true then
  Q false 20 σ
 else
 if (a0 = (⟨#[47]⟩ : ByteArray)) ∨ (a1 = a0) then
  j4_path_Under B ro Q true σ
 else
 a0.size + (⟨#[47]⟩ : ByteArray).size ≤ 9223372036854775807 ∧
 c_strings_HasPrefix B ro a1 (a0 ++ (⟨#[47]⟩ : ByteArray)) σ fun x25_6 σ =>
 j4_path_Under B ro Q x25_6 σ

def f_path_Under (B : World) (ro : AH) (a0 : ByteArray) (a1 : ByteArray) (σ : AH) (Q : Bool → Int → AH → Prop) : Prop :=
 c_path_Check B ro a0 σ fun x7_1 σ =>
 if ¬ (x7_1 = 0) then
  j2_path_Under B ro a0 a1 Q true σ
 else
 c_path_Check B ro a1 σ fun x11_7 σ =>
 j2_path_Under B ro a0 a1 Q (!(decide (x11_7 = 0))) σ

set_option maxRecDepth 100000 in
set_option maxHeartbeats 4000000 in
theorem path_Under_ok {B : World} {ro : AH} {a0 : ByteArray} {a1 : ByteArray} {σ : AH} {Q : Bool → Int → AH → Prop} (h : Sep ro σ → f_path_Under B ro a0 a1 σ Q) : c_path_Under B ro a0 a1 σ Q := by
  refine ACalls.of_sep fun hsep => ?_
  replace h := h hsep
  refine ACalls.of_body (args := [.string a0, .string a1]) Tryz.func59 rfl (by rw [Tryz.ntmps59]; simp) ?_
  rw [Tryz.ntmps59]
  unfold f_path_Under at h
  refine AW.seq ?_
  refine AW.reg ?_
  refine Lp (V_asg rfl rfl) rfl rfl ?_
  refine Lp (V_asg rfl rfl) rfl rfl ?_
  refine Lnil ?_
  refine thenN ?_
  refine AW.seq ?_
  refine AW.seq ?_
  refine AW.reg ?_
  refine Lp (V_move rfl rfl) rfl rfl ?_
  refine Ls rfl rfl (X_call rfl Tryz.func55 rfl rfl rfl (ACalls.mono h ?_))
  rintro v σ ⟨x7_1, rfl, h⟩
  refine Lp (V_neq rfl rfl rfl) rfl rfl ?_
  refine Lp (V_move rfl rfl) rfl rfl ?_
  refine LsplitJ 4 (!(decide (x7_1 = 0))) (bnot_iff decide_eq_true_iff) h (fun fr σ => ∃ (x13_3 : Bool), FrLe [(0, .string a0), (1, .string a1), (13, .bool x13_3)] fr ∧ j2_path_Under B ro a0 a1 Q x13_3 σ) ?_ ?_ ?_
  · intro h e3 hk3
    refine Ln rfl rfl rfl rfl (.inl (by rw [e3]; rfl)) ?_
    refine Ln rfl rfl rfl rfl (.inl (by rw [e3]; rfl)) ?_
    refine Ln rfl rfl rfl rfl (.inl (by rw [e3]; rfl)) ?_
    refine Lp (V_pickT rfl (evb e3) rfl) rfl rfl ?_
    exact hk3 _ _ ⟨_, (FrLe.cons rfl (FrLe.cons rfl (FrLe.cons rfl (FrLe.nil _)))), h⟩
  · intro h e3 hk3
    refine Lypb (V_move rfl rfl) rfl rfl rfl rfl e3 ?_
    refine Lyb rfl rfl rfl rfl e3 (X_call rfl Tryz.func55 rfl rfl rfl (ACalls.mono h ?_))
    rintro v σ ⟨x11_7, rfl, h⟩
    refine Lypb (V_neq rfl rfl rfl) rfl rfl rfl rfl e3 ?_
    refine Lp (V_pickF rfl (evb e3) rfl) rfl rfl ?_
    exact hk3 _ _ ⟨_, (FrLe.cons rfl (FrLe.cons rfl (FrLe.cons rfl (FrLe.nil _)))), h⟩
  rintro fr σ ⟨x13_3, hl, h⟩
  unfold j2_path_Under at h
  refine Lfr hl ?_
  refine Lnil ?_
  refine thenN ?_
  refine AW.iff rfl Iff.rfl h (fun h => ?_) (fun h => ?_)
  · refine AW.seq ?_
    refine AW.reg ?_
    refine Lp (V_asg rfl rfl) rfl rfl ?_
    refine Lp (V_asg rfl rfl) rfl rfl ?_
    refine Lnil ?_
    refine thenN ?_
    refine AW.ret ?_
    refine thenR ?_
    exact bR2 Tryz.results59 rfl rfl ⟨_, _, rfl, h⟩
  refine AW.skip ?_
  refine thenN ?_
  refine AW.seq ?_
  refine AW.reg ?_
  refine Lp (V_move rfl rfl) rfl rfl ?_
  refine Lp (V_eqlS rfl rfl rfl) rfl rfl ?_
  refine Lp (V_move rfl rfl) rfl rfl ?_
  refine Lsplit 4 (decide (a0 = (⟨#[47]⟩ : ByteArray))) [(0, .string a0), (1, .string a1), (20, .bool ((decide (a0 = (⟨#[47]⟩ : ByteArray))) || (decide (a1 = a0))))] ?_ ?_ ?_
  · intro e2 hk2
    refine Ln rfl rfl rfl rfl (.inl (by rw [e2]; rfl)) ?_
    refine Ln rfl rfl rfl rfl (.inl (by rw [e2]; rfl)) ?_
    refine Ln rfl rfl rfl rfl (.inl (by rw [e2]; rfl)) ?_
    refine Lp (V_pickT rfl (evb e2) rfl) rfl rfl ?_
    exact hk2 _ (FrLe.cons rfl (FrLe.cons rfl (FrLe.cons (by rw [e2]; rfl) (FrLe.nil _))))
  · intro e2 hk2
    refine Lypb (V_move rfl rfl) rfl rfl rfl rfl e2 ?_
    refine Lypb (V_move rfl rfl) rfl rfl rfl rfl e2 ?_
    refine Lypb (V_eqlS rfl rfl rfl) rfl rfl rfl rfl e2 ?_
    refine Lp (V_pickF rfl (evb e2) rfl) rfl rfl ?_
    exact hk2 _ (FrLe.cons rfl (FrLe.cons rfl (FrLe.cons (by rw [e2]; rfl) (FrLe.nil _))))
  intro fr hl
  refine Lfr hl ?_
  refine Lp (V_move rfl rfl) rfl rfl ?_
  refine LsplitJ 5 ((decide (a0 = (⟨#[47]⟩ : ByteArray))) || (decide (a1 = a0))) (bor_iff decide_eq_true_iff decide_eq_true_iff) h (fun fr σ => ∃ (x26_5 : Bool), FrLe [(26, .bool x26_5)] fr ∧ j4_path_Under B ro Q x26_5 σ) ?_ ?_ ?_
  · intro h e7 hk7
    refine Ln rfl rfl rfl rfl (.inl (by rw [e7]; rfl)) ?_
    refine Ln rfl rfl rfl rfl (.inl (by rw [e7]; rfl)) ?_
    refine Ln rfl rfl rfl rfl (.inl (by rw [e7]; rfl)) ?_
    refine Ln rfl rfl rfl rfl (.inl (by rw [e7]; rfl)) ?_
    refine Lp (V_pickT rfl (evb e7) rfl) rfl rfl ?_
    exact hk7 _ _ ⟨_, (FrLe.cons rfl (FrLe.nil _)), h⟩
  · intro h e7 hk7
    refine Lypb (V_move rfl rfl) rfl rfl rfl rfl e7 ?_
    refine Lypb (V_move rfl rfl) rfl rfl rfl rfl e7 ?_
    obtain ⟨hc, h⟩ := h
    refine Lypb (V_cat rfl rfl rfl hc) rfl rfl rfl rfl e7 ?_
    refine Lyb rfl rfl rfl rfl e7 (X_call rfl Tryz.func110 rfl rfl rfl (ACalls.mono h ?_))
    rintro v σ ⟨x25_6, rfl, h⟩
    refine Lp (V_pickF rfl (evb e7) rfl) rfl rfl ?_
    exact hk7 _ _ ⟨_, (FrLe.cons rfl (FrLe.nil _)), h⟩
  rintro fr σ ⟨x26_5, hl, h⟩
  unfold j4_path_Under at h
  refine Lfr hl ?_
  refine Lp (V_asg rfl rfl) rfl rfl ?_
  refine Lp (V_asg rfl rfl) rfl rfl ?_
  refine Lnil ?_
  refine thenN ?_
  refine AW.ret ?_
  exact bR2 Tryz.results59 rfl rfl ⟨_, _, rfl, h⟩

def j1_path_Parent (B : World) (ro : AH) (a0 : ByteArray) (Q : ByteArray → Int → AH → Prop) (x10_2 : Bool) (σ : AH) : Prop :=
 if x10_2 = true then
  Q (⟨#[]⟩ : ByteArray) 20 σ
 else
 c_strings_LastIndexByte B ro a0 47 σ fun x13_3 σ =>
 cutOk none (some (if 1 < x13_3 then x13_3 else 1)) a0.size a0.size ∧
 Q (a0.extract (0) (Int.toNat (if 1 < x13_3 then x13_3 else 1))) 0 σ

def f_path_Parent (B : World) (ro : AH) (a0 : ByteArray) (σ : AH) (Q : ByteArray → Int → AH → Prop) : Prop :=
 if a0 = (⟨#[47]⟩ : ByteArray) then
  j1_path_Parent B ro a0 Q true σ
 else
 c_path_Check B ro a0 σ fun x8_4 σ =>
 j1_path_Parent B ro a0 Q (!(decide (x8_4 = 0))) σ

set_option maxRecDepth 100000 in
set_option maxHeartbeats 4000000 in
theorem path_Parent_ok {B : World} {ro : AH} {a0 : ByteArray} {σ : AH} {Q : ByteArray → Int → AH → Prop} (h : Sep ro σ → f_path_Parent B ro a0 σ Q) : c_path_Parent B ro a0 σ Q := by
  refine ACalls.of_sep fun hsep => ?_
  replace h := h hsep
  refine ACalls.of_body (args := [.string a0]) Tryz.func62 rfl (by rw [Tryz.ntmps62]; simp) ?_
  rw [Tryz.ntmps62]
  unfold f_path_Parent at h
  refine AW.seq ?_
  refine AW.reg ?_
  refine Lp (V_asg rfl rfl) rfl rfl ?_
  refine Lp (V_asg rfl rfl) rfl rfl ?_
  refine Lnil ?_
  refine thenN ?_
  refine AW.seq ?_
  refine AW.seq ?_
  refine AW.reg ?_
  refine Lp (V_move rfl rfl) rfl rfl ?_
  refine Lp (V_eqlS rfl rfl rfl) rfl rfl ?_
  refine Lp (V_move rfl rfl) rfl rfl ?_
  refine LsplitJ 4 (decide (a0 = (⟨#[47]⟩ : ByteArray))) decide_eq_true_iff h (fun fr σ => ∃ (x10_2 : Bool), FrLe [(0, .string a0), (10, .bool x10_2)] fr ∧ j1_path_Parent B ro a0 Q x10_2 σ) ?_ ?_ ?_
  · intro h e2 hk2
    refine Ln rfl rfl rfl rfl (.inl (by rw [e2]; rfl)) ?_
    refine Ln rfl rfl rfl rfl (.inl (by rw [e2]; rfl)) ?_
    refine Ln rfl rfl rfl rfl (.inl (by rw [e2]; rfl)) ?_
    refine Lp (V_pickT rfl (evb e2) rfl) rfl rfl ?_
    exact hk2 _ _ ⟨_, (FrLe.cons rfl (FrLe.cons rfl (FrLe.nil _))), h⟩
  · intro h e2 hk2
    refine Lypb (V_move rfl rfl) rfl rfl rfl rfl e2 ?_
    refine Lyb rfl rfl rfl rfl e2 (X_call rfl Tryz.func55 rfl rfl rfl (ACalls.mono h ?_))
    rintro v σ ⟨x8_4, rfl, h⟩
    refine Lypb (V_neq rfl rfl rfl) rfl rfl rfl rfl e2 ?_
    refine Lp (V_pickF rfl (evb e2) rfl) rfl rfl ?_
    exact hk2 _ _ ⟨_, (FrLe.cons rfl (FrLe.cons rfl (FrLe.nil _))), h⟩
  rintro fr σ ⟨x10_2, hl, h⟩
  unfold j1_path_Parent at h
  refine Lfr hl ?_
  refine Lnil ?_
  refine thenN ?_
  refine AW.iff rfl Iff.rfl h (fun h => ?_) (fun h => ?_)
  · refine AW.seq ?_
    refine AW.reg ?_
    refine Lp (V_asg rfl rfl) rfl rfl ?_
    refine Lp (V_asg rfl rfl) rfl rfl ?_
    refine Lnil ?_
    refine thenN ?_
    refine AW.ret ?_
    refine thenR ?_
    exact bR2 Tryz.results62 rfl rfl ⟨_, _, rfl, h⟩
  refine AW.skip ?_
  refine thenN ?_
  refine AW.seq ?_
  refine AW.reg ?_
  refine Lp (V_move rfl rfl) rfl rfl ?_
  refine Lp (V_move rfl rfl) rfl rfl ?_
  refine Ls rfl rfl (X_call rfl Tryz.func111 rfl rfl rfl (ACalls.mono h ?_))
  rintro v σ ⟨x13_3, rfl, h⟩
  refine Lp (V_max2 rfl rfl) rfl rfl ?_
  obtain ⟨hc, h⟩ := h
  refine Lp (V_slS (lo := none) (hi := (some (if 1 < x13_3 then x13_3 else 1))) rfl Tryz.underlying9 rfl optI_none (optI_some rfl) hc) rfl rfl ?_
  refine Lp (V_asg rfl rfl) rfl rfl ?_
  refine Lp (V_asg rfl rfl) rfl rfl ?_
  refine Lnil ?_
  refine thenN ?_
  refine AW.ret ?_
  exact bR2 Tryz.results62 rfl rfl ⟨_, _, rfl, h⟩

def j1_path_Suffix (B : World) (ro : AH) (a0 : ByteArray) (a1 : Int) (Q : ByteArray → Int → AH → Prop) (x22_2 : Bool) (σ : AH) : Prop :=
 if x22_2 = true then
  Q (⟨#[]⟩ : ByteArray) 20 σ
 else
 c_strconv_Itoa B ro a1 σ fun x24_3 σ =>
 c_strings_Repeat B ro (⟨#[48]⟩ : ByteArray) (IntKind.i64.wrap (10 - (x24_3.size : Int))) σ fun x29_4 σ =>
 x29_4.size + x24_3.size ≤ 9223372036854775807 ∧
 a0.size + (x29_4 ++ x24_3).size ≤ 9223372036854775807 ∧
 c_path_Check B ro (a0 ++ (x29_4 ++ x24_3)) σ fun x34_5 σ =>
 if ¬ (x34_5 = 0) then
  Q (⟨#[]⟩ : ByteArray) x34_5 σ
 else
 Q (a0 ++ (x29_4 ++ x24_3)) 0 σ

def f_path_Suffix (B : World) (ro : AH) (a0 : ByteArray) (a1 : Int) (σ : AH) (Q : ByteArray → Int → AH → Prop) : Prop :=
 if ((a0 = (⟨#[47]⟩ : ByteArray)) ∨ (a1 < 0)) ∨ (9999999999 < a1) then
  j1_path_Suffix B ro a0 a1 Q true σ
 else
 c_path_Check B ro a0 σ fun x20_6 σ =>
 j1_path_Suffix B ro a0 a1 Q (!(decide (x20_6 = 0))) σ

set_option maxRecDepth 100000 in
set_option maxHeartbeats 4000000 in
theorem path_Suffix_ok {B : World} {ro : AH} {a0 : ByteArray} {a1 : Int} {σ : AH} {Q : ByteArray → Int → AH → Prop} (h : Sep ro σ → f_path_Suffix B ro a0 a1 σ Q) : c_path_Suffix B ro a0 a1 σ Q := by
  refine ACalls.of_sep fun hsep => ?_
  replace h := h hsep
  refine ACalls.of_body (args := [.string a0, .int .i64 a1]) Tryz.func71 rfl (by rw [Tryz.ntmps71]; simp) ?_
  rw [Tryz.ntmps71]
  unfold f_path_Suffix at h
  refine AW.seq ?_
  refine AW.reg ?_
  refine Lp (V_asg rfl rfl) rfl rfl ?_
  refine Lp (V_asg rfl rfl) rfl rfl ?_
  refine Lnil ?_
  refine thenN ?_
  refine AW.seq ?_
  refine AW.seq ?_
  refine AW.reg ?_
  refine Lp (V_move rfl rfl) rfl rfl ?_
  refine Lp (V_eqlS rfl rfl rfl) rfl rfl ?_
  refine Lp (V_move rfl rfl) rfl rfl ?_
  refine Lsplit 3 (decide (a0 = (⟨#[47]⟩ : ByteArray))) [(0, .string a0), (1, .int .i64 a1), (13, .bool ((decide (a0 = (⟨#[47]⟩ : ByteArray))) || (decide (a1 < 0))))] ?_ ?_ ?_
  · intro e2 hk2
    refine Ln rfl rfl rfl rfl (.inl (by rw [e2]; rfl)) ?_
    refine Ln rfl rfl rfl rfl (.inl (by rw [e2]; rfl)) ?_
    refine Lp (V_pickT rfl (evb e2) rfl) rfl rfl ?_
    exact hk2 _ (FrLe.cons rfl (FrLe.cons rfl (FrLe.cons (by rw [e2]; rfl) (FrLe.nil _))))
  · intro e2 hk2
    refine Lypb (V_move rfl rfl) rfl rfl rfl rfl e2 ?_
    refine Lypb (V_lss rfl rfl rfl) rfl rfl rfl rfl e2 ?_
    refine Lp (V_pickF rfl (evb e2) rfl) rfl rfl ?_
    exact hk2 _ (FrLe.cons rfl (FrLe.cons rfl (FrLe.cons (by rw [e2]; rfl) (FrLe.nil _))))
  intro fr hl
  refine Lfr hl ?_
  refine Lp (V_move rfl rfl) rfl rfl ?_
  refine Lsplit 3 ((decide (a0 = (⟨#[47]⟩ : ByteArray))) || (decide (a1 < 0))) [(0, .string a0), (1, .int .i64 a1), (17, .bool (((decide (a0 = (⟨#[47]⟩ : ByteArray))) || (decide (a1 < 0))) || (decide (9999999999 < a1))))] ?_ ?_ ?_
  · intro e6 hk6
    refine Ln rfl rfl rfl rfl (.inl (by rw [e6]; rfl)) ?_
    refine Ln rfl rfl rfl rfl (.inl (by rw [e6]; rfl)) ?_
    refine Lp (V_pickT rfl (evb e6) rfl) rfl rfl ?_
    exact hk6 _ (FrLe.cons rfl (FrLe.cons rfl (FrLe.cons (by rw [e6]; rfl) (FrLe.nil _))))
  · intro e6 hk6
    refine Lypb (V_move rfl rfl) rfl rfl rfl rfl e6 ?_
    refine Lypb (V_gtr rfl rfl rfl) rfl rfl rfl rfl e6 ?_
    refine Lp (V_pickF rfl (evb e6) rfl) rfl rfl ?_
    exact hk6 _ (FrLe.cons rfl (FrLe.cons rfl (FrLe.cons (by rw [e6]; rfl) (FrLe.nil _))))
  intro fr hl
  refine Lfr hl ?_
  refine Lp (V_move rfl rfl) rfl rfl ?_
  refine LsplitJ 4 (((decide (a0 = (⟨#[47]⟩ : ByteArray))) || (decide (a1 < 0))) || (decide (9999999999 < a1))) (bor_iff (bor_iff decide_eq_true_iff decide_eq_true_iff) decide_eq_true_iff) h (fun fr σ => ∃ (x22_2 : Bool), FrLe [(0, .string a0), (1, .int .i64 a1), (22, .bool x22_2)] fr ∧ j1_path_Suffix B ro a0 a1 Q x22_2 σ) ?_ ?_ ?_
  · intro h e10 hk10
    refine Ln rfl rfl rfl rfl (.inl (by rw [e10]; rfl)) ?_
    refine Ln rfl rfl rfl rfl (.inl (by rw [e10]; rfl)) ?_
    refine Ln rfl rfl rfl rfl (.inl (by rw [e10]; rfl)) ?_
    refine Lp (V_pickT rfl (evb e10) rfl) rfl rfl ?_
    exact hk10 _ _ ⟨_, (FrLe.cons rfl (FrLe.cons rfl (FrLe.cons rfl (FrLe.nil _)))), h⟩
  · intro h e10 hk10
    refine Lypb (V_move rfl rfl) rfl rfl rfl rfl e10 ?_
    refine Lyb rfl rfl rfl rfl e10 (X_call rfl Tryz.func55 rfl rfl rfl (ACalls.mono h ?_))
    rintro v σ ⟨x20_6, rfl, h⟩
    refine Lypb (V_neq rfl rfl rfl) rfl rfl rfl rfl e10 ?_
    refine Lp (V_pickF rfl (evb e10) rfl) rfl rfl ?_
    exact hk10 _ _ ⟨_, (FrLe.cons rfl (FrLe.cons rfl (FrLe.cons rfl (FrLe.nil _)))), h⟩
  rintro fr σ ⟨x22_2, hl, h⟩
  unfold j1_path_Suffix at h
  refine Lfr hl ?_
  refine Lnil ?_
  refine thenN ?_
  refine AW.iff rfl Iff.rfl h (fun h => ?_) (fun h => ?_)
  · refine AW.seq ?_
    refine AW.reg ?_
    refine Lp (V_asg rfl rfl) rfl rfl ?_
    refine Lp (V_asg rfl rfl) rfl rfl ?_
    refine Lnil ?_
    refine thenN ?_
    refine AW.ret ?_
    refine thenR ?_
    exact bR2 Tryz.results71 rfl rfl ⟨_, _, rfl, h⟩
  refine AW.skip ?_
  refine thenN ?_
  refine AW.seq ?_
  refine AW.reg ?_
  refine Lp (V_move rfl rfl) rfl rfl ?_
  refine Ls rfl rfl (X_call rfl Tryz.func117 rfl rfl rfl (ACalls.mono h ?_))
  rintro v σ ⟨x24_3, rfl, h⟩
  refine Lp (V_asg rfl rfl) rfl rfl ?_
  refine Lnil ?_
  refine thenN ?_
  refine AW.seq ?_
  refine AW.reg ?_
  refine Lp (V_move rfl rfl) rfl rfl ?_
  refine Lp (V_move rfl rfl) rfl rfl ?_
  refine Lp (V_lenS rfl rfl Tryz.underlying9 rfl rfl) rfl rfl ?_
  refine Lp (V_sub rfl rfl rfl) rfl rfl ?_
  refine Ls rfl rfl (X_call rfl Tryz.func118 rfl rfl rfl (ACalls.mono h ?_))
  rintro v σ ⟨x29_4, rfl, h⟩
  refine Lp (V_move rfl rfl) rfl rfl ?_
  obtain ⟨hc, h⟩ := h
  refine Lp (V_cat rfl rfl rfl hc) rfl rfl ?_
  obtain ⟨hc, h⟩ := h
  refine Lp (V_cat rfl rfl rfl hc) rfl rfl ?_
  refine Lp (V_asg rfl rfl) rfl rfl ?_
  refine Lnil ?_
  refine thenN ?_
  refine AW.seq ?_
  refine AW.seq ?_
  refine AW.reg ?_
  refine Lp (V_move rfl rfl) rfl rfl ?_
  refine Ls rfl rfl (X_call rfl Tryz.func55 rfl rfl rfl (ACalls.mono h ?_))
  rintro v σ ⟨x34_5, rfl, h⟩
  refine Lp (V_asg rfl rfl) rfl rfl ?_
  refine Lnil ?_
  refine thenN ?_
  refine AW.seq ?_
  refine AW.reg ?_
  refine Lp (V_move rfl rfl) rfl rfl ?_
  refine Lp (V_neq rfl rfl rfl) rfl rfl ?_
  refine Lnil ?_
  refine thenN ?_
  refine AW.iff rfl (bnot_iff decide_eq_true_iff) h (fun h => ?_) (fun h => ?_)
  · refine AW.seq ?_
    refine AW.reg ?_
    refine Lp (V_move rfl rfl) rfl rfl ?_
    refine Lp (V_asg rfl rfl) rfl rfl ?_
    refine Lp (V_asg rfl rfl) rfl rfl ?_
    refine Lnil ?_
    refine thenN ?_
    refine AW.ret ?_
    refine thenR ?_
    exact bR2 Tryz.results71 rfl rfl ⟨_, _, rfl, h⟩
  refine AW.skip ?_
  refine thenN ?_
  refine AW.seq ?_
  refine AW.reg ?_
  refine Lp (V_move rfl rfl) rfl rfl ?_
  refine Lp (V_asg rfl rfl) rfl rfl ?_
  refine Lp (V_asg rfl rfl) rfl rfl ?_
  refine Lnil ?_
  refine thenN ?_
  refine AW.ret ?_
  exact bR2 Tryz.results71 rfl rfl ⟨_, _, rfl, h⟩

def f_path_Home (B : World) (ro : AH) (a0 : ByteArray) (σ : AH) (Q : ByteArray → Int → AH → Prop) : Prop :=
 c_path_Parts B ro a0 σ fun x8_1 x8_2 σ =>
 if (x8_1.len : Int) = 0 then
  Q (⟨#[]⟩ : ByteArray) x8_2 σ
 else
 ∃ p16_3 : Addr, x8_1.a = some p16_3 ∧ (0 : Int) ≤ 0 ∧ 0 < (x8_1.len : Int) ∧
 ∃ (x17_4 : ByteArray), acell ro σ (p16_3.add (Int.toNat 0 * 1)) = some (.string x17_4) ∧
 Q x17_4 0 σ

set_option maxRecDepth 100000 in
set_option maxHeartbeats 4000000 in
theorem path_Home_ok {B : World} {ro : AH} {a0 : ByteArray} {σ : AH} {Q : ByteArray → Int → AH → Prop} (h : Sep ro σ → f_path_Home B ro a0 σ Q) : c_path_Home B ro a0 σ Q := by
  refine ACalls.of_sep fun hsep => ?_
  replace h := h hsep
  refine ACalls.of_body (args := [.string a0]) Tryz.func97 rfl (by rw [Tryz.ntmps97]; simp) ?_
  rw [Tryz.ntmps97]
  unfold f_path_Home at h
  refine AW.seq ?_
  refine AW.reg ?_
  refine Lp (V_asg rfl rfl) rfl rfl ?_
  refine Lp (V_asg rfl rfl) rfl rfl ?_
  refine Lnil ?_
  refine thenN ?_
  refine AW.seq ?_
  refine AW.reg ?_
  refine Lp (V_move rfl rfl) rfl rfl ?_
  refine Ls rfl rfl (X_call rfl Tryz.func106 rfl rfl rfl (ACalls.mono h ?_))
  rintro v σ ⟨x8_1, x8_2, rfl, h⟩
  refine Lp (V_move rfl rfl) rfl rfl ?_
  refine Lp (V_ext rfl rfl rfl) rfl rfl ?_
  refine Lp (V_ext rfl rfl rfl) rfl rfl ?_
  refine Lp (V_asg rfl rfl) rfl rfl ?_
  refine Lp (V_asg rfl rfl) rfl rfl ?_
  refine Lnil ?_
  refine thenN ?_
  refine AW.seq ?_
  refine AW.seq ?_
  refine AW.reg ?_
  refine Lp (V_move rfl rfl) rfl rfl ?_
  refine Lp (V_lenL rfl rfl Tryz.underlying25 rfl rfl) rfl rfl ?_
  refine Lp (V_eql rfl rfl rfl) rfl rfl ?_
  refine Lnil ?_
  refine thenN ?_
  refine AW.iff rfl decide_eq_true_iff h (fun h => ?_) (fun h => ?_)
  · refine AW.seq ?_
    refine AW.reg ?_
    refine Lp (V_move rfl rfl) rfl rfl ?_
    refine Lp (V_asg rfl rfl) rfl rfl ?_
    refine Lp (V_asg rfl rfl) rfl rfl ?_
    refine Lnil ?_
    refine thenN ?_
    refine AW.ret ?_
    refine thenR ?_
    exact bR2 Tryz.results97 rfl rfl ⟨_, _, rfl, h⟩
  refine AW.skip ?_
  refine thenN ?_
  refine AW.seq ?_
  refine AW.reg ?_
  refine Lp (V_move rfl rfl) rfl rfl ?_
  obtain ⟨p16_3, ha, h0, h1, h⟩ := h
  refine Lp (V_ixA rfl Tryz.underlying25 ty9 (ixL rfl ha) rfl h0 h1) rfl rfl ?_
  obtain ⟨x17_4, hc, h⟩ := h
  refine Ls rfl rfl (X_ld rfl Tryz.underlying9 rfl rfl hc ?_)
  refine Lp (V_asg rfl rfl) rfl rfl ?_
  refine Lp (V_asg rfl rfl) rfl rfl ?_
  refine Lnil ?_
  refine thenN ?_
  refine AW.ret ?_
  exact bR2 Tryz.results97 rfl rfl ⟨_, _, rfl, h⟩

def j4_path_Parts (B : World) (ro : AH) (x19_3 : Sl) (Q : Sl → Int → AH → Prop) (σ : AH) : Prop :=
 Q x19_3 0 σ

def l5_path_Parts (B : World) (ro : AH) (x19_3 : Sl) (Q : Sl → Int → AH → Prop) : (Int) → AH → ((Int) → AH → Prop) → Prop := fun x25_6 σ Y5 =>
 if x25_6 < (x19_3.len : Int) then
  ∃ p27_7 : Addr, x19_3.a = some p27_7 ∧ (0 : Int) ≤ x25_6 ∧ x25_6 < (x19_3.len : Int) ∧
  ∃ (x28_8 : ByteArray), acell ro σ (p27_7.add (Int.toNat x25_6 * 1)) = some (.string x28_8) ∧
  c_path_Name B ro x28_8 σ fun x30_9 σ =>
  if ¬ (x30_9 = true) then
   Q (⟨none, 0, 0⟩ : Sl) 20 σ
  else
  Y5 (IntKind.i64.wrap (x25_6 + 1)) σ
 else
 j4_path_Parts B ro x19_3 Q σ

def j1_path_Parts (B : World) (ro : AH) (a0 : ByteArray) (Q : Sl → Int → AH → Prop) (x16_2 : Bool) (σ : AH) : Prop :=
 if x16_2 = true then
  Q (⟨none, 0, 0⟩ : Sl) 20 σ
 else
 cutOk (some 1) none a0.size a0.size ∧
 c_strings_Split B ro (a0.extract (Int.toNat 1) (a0.size)) (⟨#[47]⟩ : ByteArray) σ fun x19_3 σ =>
 if 8 < (x19_3.len : Int) then
  Q (⟨none, 0, 0⟩ : Sl) 20 σ
 else
 lfpD (l5_path_Parts B ro x19_3 Q ) (0) σ

def f_path_Parts (B : World) (ro : AH) (a0 : ByteArray) (σ : AH) (Q : Sl → Int → AH → Prop) : Prop :=
 if a0 = (⟨#[47]⟩ : ByteArray) then
  Q (⟨none, 0, 0⟩ : Sl) 0 σ
 else
 if 128 < (a0.size : Int) then
  j1_path_Parts B ro a0 Q true σ
 else
 c_strings_HasPrefix B ro a0 (⟨#[47]⟩ : ByteArray) σ fun x14_10 σ =>
 j1_path_Parts B ro a0 Q (!x14_10) σ

set_option maxRecDepth 100000 in
set_option maxHeartbeats 4000000 in
theorem path_Parts_ok {B : World} {ro : AH} {a0 : ByteArray} {σ : AH} {Q : Sl → Int → AH → Prop} (h : Sep ro σ → f_path_Parts B ro a0 σ Q) : c_path_Parts B ro a0 σ Q := by
  refine ACalls.of_sep fun hsep => ?_
  replace h := h hsep
  refine ACalls.of_body (args := [.string a0]) Tryz.func106 rfl (by rw [Tryz.ntmps106]; simp) ?_
  rw [Tryz.ntmps106]
  unfold f_path_Parts at h
  refine AW.seq ?_
  refine AW.reg ?_
  refine Lp (V_asg rfl rfl) rfl rfl ?_
  refine Lp (V_asg rfl rfl) rfl rfl ?_
  refine Lnil ?_
  refine thenN ?_
  refine AW.seq ?_
  refine AW.seq ?_
  refine AW.reg ?_
  refine Lp (V_move rfl rfl) rfl rfl ?_
  refine Lp (V_eqlS rfl rfl rfl) rfl rfl ?_
  refine Lnil ?_
  refine thenN ?_
  refine AW.iff rfl decide_eq_true_iff h (fun h => ?_) (fun h => ?_)
  · refine AW.seq ?_
    refine AW.reg ?_
    refine Lp (V_asg rfl rfl) rfl rfl ?_
    refine Lp (V_asg rfl rfl) rfl rfl ?_
    refine Lnil ?_
    refine thenN ?_
    refine AW.ret ?_
    refine thenR ?_
    exact bR2 Tryz.results106 rfl rfl ⟨_, _, rfl, h⟩
  refine AW.skip ?_
  refine thenN ?_
  refine AW.seq ?_
  refine AW.seq ?_
  refine AW.reg ?_
  refine Lp (V_move rfl rfl) rfl rfl ?_
  refine Lp (V_lenS rfl rfl Tryz.underlying9 rfl rfl) rfl rfl ?_
  refine Lp (V_gtr rfl rfl rfl) rfl rfl ?_
  refine Lp (V_move rfl rfl) rfl rfl ?_
  refine LsplitJ 4 (decide (128 < (a0.size : Int))) decide_eq_true_iff h (fun fr σ => ∃ (x16_2 : Bool), FrLe [(0, .string a0), (16, .bool x16_2)] fr ∧ j1_path_Parts B ro a0 Q x16_2 σ) ?_ ?_ ?_
  · intro h e3 hk3
    refine Ln rfl rfl rfl rfl (.inl (by rw [e3]; rfl)) ?_
    refine Ln rfl rfl rfl rfl (.inl (by rw [e3]; rfl)) ?_
    refine Ln rfl rfl rfl rfl (.inl (by rw [e3]; rfl)) ?_
    refine Lp (V_pickT rfl (evb e3) rfl) rfl rfl ?_
    exact hk3 _ _ ⟨_, (FrLe.cons rfl (FrLe.cons rfl (FrLe.nil _))), h⟩
  · intro h e3 hk3
    refine Lypb (V_move rfl rfl) rfl rfl rfl rfl e3 ?_
    refine Lyb rfl rfl rfl rfl e3 (X_call rfl Tryz.func110 rfl rfl rfl (ACalls.mono h ?_))
    rintro v σ ⟨x14_10, rfl, h⟩
    refine Lypb (V_not rfl rfl) rfl rfl rfl rfl e3 ?_
    refine Lp (V_pickF rfl (evb e3) rfl) rfl rfl ?_
    exact hk3 _ _ ⟨_, (FrLe.cons rfl (FrLe.cons rfl (FrLe.nil _))), h⟩
  rintro fr σ ⟨x16_2, hl, h⟩
  unfold j1_path_Parts at h
  refine Lfr hl ?_
  refine Lnil ?_
  refine thenN ?_
  refine AW.iff rfl Iff.rfl h (fun h => ?_) (fun h => ?_)
  · refine AW.seq ?_
    refine AW.reg ?_
    refine Lp (V_asg rfl rfl) rfl rfl ?_
    refine Lp (V_asg rfl rfl) rfl rfl ?_
    refine Lnil ?_
    refine thenN ?_
    refine AW.ret ?_
    refine thenR ?_
    exact bR2 Tryz.results106 rfl rfl ⟨_, _, rfl, h⟩
  refine AW.skip ?_
  refine thenN ?_
  refine AW.seq ?_
  refine AW.reg ?_
  refine Lp (V_move rfl rfl) rfl rfl ?_
  obtain ⟨hc, h⟩ := h
  refine Lp (V_slS (lo := (some 1)) (hi := none) rfl Tryz.underlying9 rfl (optI_some rfl) optI_none hc) rfl rfl ?_
  refine Ls rfl rfl (X_call rfl Tryz.func128 rfl rfl rfl (ACalls.mono h ?_))
  rintro v σ ⟨x19_3, rfl, h⟩
  refine Lp (V_asg rfl rfl) rfl rfl ?_
  refine Lnil ?_
  refine thenN ?_
  refine AW.seq ?_
  refine AW.seq ?_
  refine AW.reg ?_
  refine Lp (V_move rfl rfl) rfl rfl ?_
  refine Lp (V_lenL rfl rfl Tryz.underlying25 rfl rfl) rfl rfl ?_
  refine Lp (V_gtr rfl rfl rfl) rfl rfl ?_
  refine Lnil ?_
  refine thenN ?_
  refine AW.iff rfl decide_eq_true_iff h (fun h => ?_) (fun h => ?_)
  · refine AW.seq ?_
    refine AW.reg ?_
    refine Lp (V_asg rfl rfl) rfl rfl ?_
    refine Lp (V_asg rfl rfl) rfl rfl ?_
    refine Lnil ?_
    refine thenN ?_
    refine AW.ret ?_
    refine thenR ?_
    exact bR2 Tryz.results106 rfl rfl ⟨_, _, rfl, h⟩
  refine AW.skip ?_
  refine thenN ?_
  refine AW.seqJ (fun fr σ => FrLe [(4, Sl.v x19_3)] fr ∧ j4_path_Parts B ro x19_3 Q σ) ?_ ?_
  · rintro fr σ ⟨hl, h⟩
    refine AW.weaken ?_ hl (HLe.refl _)
    unfold j4_path_Parts at h
    refine AW.seq ?_
    refine AW.reg ?_
    refine Lp (V_move rfl rfl) rfl rfl ?_
    refine Lp (V_asg rfl rfl) rfl rfl ?_
    refine Lp (V_asg rfl rfl) rfl rfl ?_
    refine Lnil ?_
    refine thenN ?_
    refine AW.ret ?_
    exact bR2 Tryz.results106 rfl rfl ⟨_, _, rfl, h⟩
  refine AW.seq ?_
  refine AW.reg ?_
  refine Lp (V_move rfl rfl) rfl rfl ?_
  refine Lp (V_lenL rfl rfl Tryz.underlying25 rfl rfl) rfl rfl ?_
  refine Lp (V_move rfl rfl) rfl rfl ?_
  refine Lnil ?_
  refine thenN ?_
  refine AW.block ?_
  refine ARound.loop (fr' := [(4, Sl.v x19_3), (23, Sl.v x19_3), (24, .int .i64 (x19_3.len : Int)), (25, .int .i64 0)]) ?_ (FrLe.cons rfl (FrLe.cons rfl (FrLe.cons rfl (FrLe.cons rfl (FrLe.nil _)))))
  refine h (fun x25_6 σ => ARound _ _ _ _ _ _ [(4, Sl.v x19_3), (23, Sl.v x19_3), (24, .int .i64 (x19_3.len : Int)), (25, .int .i64 x25_6)] σ) ?_
  rintro x25_6 σ Y5 hY5 h
  show AW _ _ _ _ _ _ _ _
  unfold l5_path_Parts at h
  refine AW.seq ?_
  refine AW.reg ?_
  refine Lp (V_lss rfl rfl rfl) rfl rfl ?_
  refine Lnil ?_
  refine thenN ?_
  refine AW.seq ?_
  refine AW.iff rfl decide_eq_true_iff h (fun h => ?_) (fun h => ?_)
  rotate_left
  · refine AW.exit ?_
    refine thenE ?_
    refine thenE ?_
    refine blockE ?_
    refine thenN ?_
    exact ⟨(FrLe.cons rfl (FrLe.nil _)), h⟩
  refine AW.skip ?_
  refine thenN ?_
  refine AW.seq ?_
  refine AW.block ?_
  refine AW.seq ?_
  refine AW.reg ?_
  obtain ⟨p27_7, ha, h0, h1, h⟩ := h
  refine Lp (V_ixA rfl Tryz.underlying25 ty9 (ixL rfl ha) rfl h0 h1) rfl rfl ?_
  obtain ⟨x28_8, hc, h⟩ := h
  refine Ls rfl rfl (X_ld rfl Tryz.underlying9 rfl rfl hc ?_)
  refine Lp (V_asg rfl rfl) rfl rfl ?_
  refine Lnil ?_
  refine thenN ?_
  refine AW.seq ?_
  refine AW.reg ?_
  refine Lp (V_move rfl rfl) rfl rfl ?_
  refine Ls rfl rfl (X_call rfl Tryz.func129 rfl rfl rfl (ACalls.mono h ?_))
  rintro v σ ⟨x30_9, rfl, h⟩
  refine Lp (V_not rfl rfl) rfl rfl ?_
  refine Lnil ?_
  refine thenN ?_
  refine AW.iff rfl (bnot_iff Iff.rfl) h (fun h => ?_) (fun h => ?_)
  · refine AW.seq ?_
    refine AW.reg ?_
    refine Lp (V_asg rfl rfl) rfl rfl ?_
    refine Lp (V_asg rfl rfl) rfl rfl ?_
    refine Lnil ?_
    refine thenN ?_
    refine AW.ret ?_
    refine blockR ?_
    refine thenR ?_
    refine thenR ?_
    refine blockR ?_
    refine thenR ?_
    exact bR2 Tryz.results106 rfl rfl ⟨_, _, rfl, h⟩
  refine AW.skip ?_
  refine blockN ?_
  refine thenN ?_
  refine AW.reg ?_
  refine Lp (V_add rfl rfl rfl) rfl rfl ?_
  refine Lp (V_move rfl rfl) rfl rfl ?_
  refine Lnil ?_
  refine thenN ?_
  refine ARound.head (fr' := [(4, Sl.v x19_3), (23, Sl.v x19_3), (24, .int .i64 (x19_3.len : Int)), (25, .int .i64 (IntKind.i64.wrap (x25_6 + 1)))]) ?_ (FrLe.cons rfl (FrLe.cons rfl (FrLe.cons rfl (FrLe.cons rfl (FrLe.nil _)))))
  exact hY5 _ _ h

def j1_path_Name (B : World) (ro : AH) (Q : Bool → AH → Prop) (σ : AH) : Prop :=
 Q true σ

def j6_path_Name (B : World) (ro : AH) (p21_2 : Addr) (Q : Bool → AH → Prop) (Y3 : (Unit) → AH → Prop) (x25_7 : Bool) (σ : AH) : Prop :=
 if x25_7 = true then
  Y3 () σ
 else
 Q false σ

def l3_path_Name (B : World) (ro : AH) (p21_2 : Addr) (Q : Bool → AH → Prop) : (Unit) → AH → ((Unit) → AH → Prop) → Prop := fun _ σ Y3 =>
 awp Tryz.prog ro (Instr.next (.pointer (some p21_2)) true 0) (fun v σ =>
  (v = .tuple #[.bool false] ∧
   j1_path_Name B ro Q σ) ∨
  (∃ (x22_4 : Int) (x22_5 : Int), v = .tuple #[.bool true, .int .i64 x22_4, .int .i32 x22_5] ∧
   if (97 ≤ x22_5) ∧ (x22_5 ≤ 122) then
    j6_path_Name B ro p21_2 Q Y3 ((decide (97 ≤ x22_5)) && (decide (x22_5 ≤ 122))) σ
   else
   if (48 ≤ x22_5) ∧ (x22_5 ≤ 57) then
    j6_path_Name B ro p21_2 Q Y3 ((decide (48 ≤ x22_5)) && (decide (x22_5 ≤ 57))) σ
   else
   if x22_5 = 46 then
    j6_path_Name B ro p21_2 Q Y3 (decide (x22_5 = 46)) σ
   else
   if x22_5 = 95 then
    j6_path_Name B ro p21_2 Q Y3 (decide (x22_5 = 95)) σ
   else
   j6_path_Name B ro p21_2 Q Y3 (decide (x22_5 = 45)) σ)) σ

def f_path_Name (B : World) (ro : AH) (a0 : ByteArray) (σ : AH) (Q : Bool → AH → Prop) : Prop :=
 if (((a0 = (⟨#[]⟩ : ByteArray)) ∨ (32 < (a0.size : Int))) ∨ (a0 = (⟨#[46]⟩ : ByteArray))) ∨ (a0 = (⟨#[46, 46]⟩ : ByteArray)) then
  Q false σ
 else
 awp Tryz.prog ro (Instr.range 9 (.string a0)) (fun v σ =>
  (∃ (p21_2 : Addr), v = .pointer (some p21_2) ∧
   lfpD (l3_path_Name B ro p21_2 Q ) () σ)) σ

set_option maxRecDepth 100000 in
set_option maxHeartbeats 4000000 in
theorem path_Name_ok {B : World} {ro : AH} {a0 : ByteArray} {σ : AH} {Q : Bool → AH → Prop} (h : Sep ro σ → f_path_Name B ro a0 σ Q) : c_path_Name B ro a0 σ Q := by
  refine ACalls.of_sep fun hsep => ?_
  replace h := h hsep
  refine ACalls.of_body (args := [.string a0]) Tryz.func129 rfl (by rw [Tryz.ntmps129]; simp) ?_
  rw [Tryz.ntmps129]
  unfold f_path_Name at h
  refine AW.seq ?_
  refine AW.reg ?_
  refine Lp (V_asg rfl rfl) rfl rfl ?_
  refine Lnil ?_
  refine thenN ?_
  refine AW.seq ?_
  refine AW.seq ?_
  refine AW.reg ?_
  refine Lp (V_move rfl rfl) rfl rfl ?_
  refine Lp (V_eqlS rfl rfl rfl) rfl rfl ?_
  refine Lp (V_move rfl rfl) rfl rfl ?_
  refine Lsplit 4 (decide (a0 = (⟨#[]⟩ : ByteArray))) [(0, .string a0), (11, .bool ((decide (a0 = (⟨#[]⟩ : ByteArray))) || (decide (32 < (a0.size : Int)))))] ?_ ?_ ?_
  · intro e2 hk2
    refine Ln rfl rfl rfl rfl (.inl (by rw [e2]; rfl)) ?_
    refine Ln rfl rfl rfl rfl (.inl (by rw [e2]; rfl)) ?_
    refine Ln rfl rfl rfl rfl (.inl (by rw [e2]; rfl)) ?_
    refine Lp (V_pickT rfl (evb e2) rfl) rfl rfl ?_
    exact hk2 _ (FrLe.cons rfl (FrLe.cons (by rw [e2]; rfl) (FrLe.nil _)))
  · intro e2 hk2
    refine Lypb (V_move rfl rfl) rfl rfl rfl rfl e2 ?_
    refine Lypb (V_lenS rfl rfl Tryz.underlying9 rfl rfl) rfl rfl rfl rfl e2 ?_
    refine Lypb (V_gtr rfl rfl rfl) rfl rfl rfl rfl e2 ?_
    refine Lp (V_pickF rfl (evb e2) rfl) rfl rfl ?_
    exact hk2 _ (FrLe.cons rfl (FrLe.cons (by rw [e2]; rfl) (FrLe.nil _)))
  intro fr hl
  refine Lfr hl ?_
  refine Lp (V_move rfl rfl) rfl rfl ?_
  refine Lsplit 3 ((decide (a0 = (⟨#[]⟩ : ByteArray))) || (decide (32 < (a0.size : Int)))) [(0, .string a0), (15, .bool (((decide (a0 = (⟨#[]⟩ : ByteArray))) || (decide (32 < (a0.size : Int)))) || (decide (a0 = (⟨#[46]⟩ : ByteArray)))))] ?_ ?_ ?_
  · intro e7 hk7
    refine Ln rfl rfl rfl rfl (.inl (by rw [e7]; rfl)) ?_
    refine Ln rfl rfl rfl rfl (.inl (by rw [e7]; rfl)) ?_
    refine Lp (V_pickT rfl (evb e7) rfl) rfl rfl ?_
    exact hk7 _ (FrLe.cons rfl (FrLe.cons (by rw [e7]; rfl) (FrLe.nil _)))
  · intro e7 hk7
    refine Lypb (V_move rfl rfl) rfl rfl rfl rfl e7 ?_
    refine Lypb (V_eqlS rfl rfl rfl) rfl rfl rfl rfl e7 ?_
    refine Lp (V_pickF rfl (evb e7) rfl) rfl rfl ?_
    exact hk7 _ (FrLe.cons rfl (FrLe.cons (by rw [e7]; rfl) (FrLe.nil _)))
  intro fr hl
  refine Lfr hl ?_
  refine Lp (V_move rfl rfl) rfl rfl ?_
  refine Lsplit 3 (((decide (a0 = (⟨#[]⟩ : ByteArray))) || (decide (32 < (a0.size : Int)))) || (decide (a0 = (⟨#[46]⟩ : ByteArray)))) [(0, .string a0), (19, .bool ((((decide (a0 = (⟨#[]⟩ : ByteArray))) || (decide (32 < (a0.size : Int)))) || (decide (a0 = (⟨#[46]⟩ : ByteArray)))) || (decide (a0 = (⟨#[46, 46]⟩ : ByteArray)))))] ?_ ?_ ?_
  · intro e11 hk11
    refine Ln rfl rfl rfl rfl (.inl (by rw [e11]; rfl)) ?_
    refine Ln rfl rfl rfl rfl (.inl (by rw [e11]; rfl)) ?_
    refine Lp (V_pickT rfl (evb e11) rfl) rfl rfl ?_
    exact hk11 _ (FrLe.cons rfl (FrLe.cons (by rw [e11]; rfl) (FrLe.nil _)))
  · intro e11 hk11
    refine Lypb (V_move rfl rfl) rfl rfl rfl rfl e11 ?_
    refine Lypb (V_eqlS rfl rfl rfl) rfl rfl rfl rfl e11 ?_
    refine Lp (V_pickF rfl (evb e11) rfl) rfl rfl ?_
    exact hk11 _ (FrLe.cons rfl (FrLe.cons (by rw [e11]; rfl) (FrLe.nil _)))
  intro fr hl
  refine Lfr hl ?_
  refine Lnil ?_
  refine thenN ?_
  refine AW.iff rfl (bor_iff (bor_iff (bor_iff decide_eq_true_iff decide_eq_true_iff) decide_eq_true_iff) decide_eq_true_iff) h (fun h => ?_) (fun h => ?_)
  · refine AW.seq ?_
    refine AW.reg ?_
    refine Lp (V_asg rfl rfl) rfl rfl ?_
    refine Lnil ?_
    refine thenN ?_
    refine AW.ret ?_
    refine thenR ?_
    exact bR1 Tryz.results129 rfl ⟨_, rfl, h⟩
  refine AW.skip ?_
  refine thenN ?_
  refine AW.seqJ (fun fr σ => FrLe [] fr ∧ j1_path_Name B ro Q σ) ?_ ?_
  · rintro fr σ ⟨hl, h⟩
    refine AW.weaken ?_ hl (HLe.refl _)
    unfold j1_path_Name at h
    refine AW.seq ?_
    refine AW.reg ?_
    refine Lp (V_asg rfl rfl) rfl rfl ?_
    refine Lnil ?_
    refine thenN ?_
    refine AW.ret ?_
    exact bR1 Tryz.results129 rfl ⟨_, rfl, h⟩
  refine AW.seq ?_
  refine AW.reg ?_
  refine Lp (V_move rfl rfl) rfl rfl ?_
  refine Ls rfl rfl (X_rng rfl rfl (awp_mono _ h ?_))
  rintro v σ ⟨p21_2, rfl, h⟩
  refine Lnil ?_
  refine thenN ?_
  refine AW.block ?_
  refine ARound.loop (fr' := [(21, .pointer (some p21_2))]) ?_ (FrLe.cons rfl (FrLe.nil _))
  refine h (fun _ σ => ARound _ _ _ _ _ _ [(21, .pointer (some p21_2))] σ) ?_
  rintro _ σ Y3 hY3 h
  show AW _ _ _ _ _ _ _ _
  unfold l3_path_Name at h
  refine AW.seq ?_
  refine AW.reg ?_
  refine Ls rfl rfl (X_nxt rfl rfl rfl (awp_mono _ h ?_))
  rintro v σ (⟨rfl, h⟩ | ⟨x22_4, x22_5, rfl, h⟩)
  · refine Lp (V_ext rfl rfl rfl) rfl rfl ?_
    refine Lnil ?_
    refine thenN ?_
    refine AW.seq ?_
    refine AW.no rfl ?_
    refine AW.exit ?_
    refine thenE ?_
    refine thenE ?_
    refine blockE ?_
    refine thenN ?_
    exact ⟨(FrLe.nil _), h⟩
  · refine Lp (V_ext rfl rfl rfl) rfl rfl ?_
    refine Lnil ?_
    refine thenN ?_
    refine AW.seq ?_
    refine AW.yes rfl ?_
    refine AW.skip ?_
    refine thenN ?_
    refine AW.block ?_
    refine AW.seq ?_
    refine AW.reg ?_
    refine Lp (V_ext rfl rfl rfl) rfl rfl ?_
    refine Lp (V_asg rfl rfl) rfl rfl ?_
    refine Lnil ?_
    refine thenN ?_
    refine AW.block ?_
    refine AW.seqJ (fun fr σ => ∃ (x25_7 : Bool), FrLe [(21, .pointer (some p21_2)), (25, .bool x25_7)] fr ∧ j6_path_Name B ro p21_2 Q Y3 x25_7 σ) ?_ ?_
    · rintro fr σ ⟨x25_7, hl, h⟩
      refine AW.weaken ?_ hl (HLe.refl _)
      unfold j6_path_Name at h
      refine AW.iff rfl Iff.rfl h (fun h => ?_) (fun h => ?_)
      · refine AW.skip ?_
        refine blockN ?_
        refine blockN ?_
        refine thenN ?_
        refine ARound.head (fr' := [(21, .pointer (some p21_2))]) ?_ (FrLe.cons rfl (FrLe.nil _))
        exact hY3 _ _ h
      refine AW.seq ?_
      refine AW.reg ?_
      refine Lp (V_asg rfl rfl) rfl rfl ?_
      refine Lnil ?_
      refine thenN ?_
      refine AW.ret ?_
      refine blockR ?_
      refine blockR ?_
      refine thenR ?_
      refine blockR ?_
      refine thenR ?_
      exact bR1 Tryz.results129 rfl ⟨_, rfl, h⟩
    refine AW.seq ?_
    refine AW.reg ?_
    refine Lp (V_move rfl rfl) rfl rfl ?_
    refine Lp (V_geq rfl rfl rfl) rfl rfl ?_
    refine Lp (V_move rfl rfl) rfl rfl ?_
    refine Lsplit 3 (decide (97 ≤ x22_5)) [(4, .int .i32 x22_5), (21, .pointer (some p21_2)), (31, .bool ((decide (97 ≤ x22_5)) && (decide (x22_5 ≤ 122))))] ?_ ?_ ?_
    · intro e2 hk2
      refine Lypb (V_move rfl rfl) rfl rfl rfl rfl e2 ?_
      refine Lypb (V_leq rfl rfl rfl) rfl rfl rfl rfl e2 ?_
      refine Lp (V_pickT rfl (evb e2) rfl) rfl rfl ?_
      exact hk2 _ (FrLe.cons rfl (FrLe.cons rfl (FrLe.cons (by rw [e2]; rfl) (FrLe.nil _))))
    · intro e2 hk2
      refine Ln rfl rfl rfl rfl (.inl (by rw [e2]; rfl)) ?_
      refine Ln rfl rfl rfl rfl (.inl (by rw [e2]; rfl)) ?_
      refine Lp (V_pickF rfl (evb e2) rfl) rfl rfl ?_
      exact hk2 _ (FrLe.cons rfl (FrLe.cons rfl (FrLe.cons (by rw [e2]; rfl) (FrLe.nil _))))
    intro fr hl
    refine Lfr hl ?_
    refine Lp (V_asg rfl rfl) rfl rfl ?_
    refine Lnil ?_
    refine thenN ?_
    refine AW.iff rfl (band_iff decide_eq_true_iff decide_eq_true_iff) h (fun h => ?_) (fun h => ?_)
    · refine AW.skip ?_
      refine thenN ?_
      exact ⟨_, (FrLe.cons rfl (FrLe.cons rfl (FrLe.nil _))), h⟩
    refine AW.seq ?_
    refine AW.reg ?_
    refine Lp (V_move rfl rfl) rfl rfl ?_
    refine Lp (V_geq rfl rfl rfl) rfl rfl ?_
    refine Lp (V_move rfl rfl) rfl rfl ?_
    refine Lsplit 3 (decide (48 ≤ x22_5)) [(4, .int .i32 x22_5), (21, .pointer (some p21_2)), (37, .bool ((decide (48 ≤ x22_5)) && (decide (x22_5 ≤ 57))))] ?_ ?_ ?_
    · intro e2 hk2
      refine Lypb (V_move rfl rfl) rfl rfl rfl rfl e2 ?_
      refine Lypb (V_leq rfl rfl rfl) rfl rfl rfl rfl e2 ?_
      refine Lp (V_pickT rfl (evb e2) rfl) rfl rfl ?_
      exact hk2 _ (FrLe.cons rfl (FrLe.cons rfl (FrLe.cons (by rw [e2]; rfl) (FrLe.nil _))))
    · intro e2 hk2
      refine Ln rfl rfl rfl rfl (.inl (by rw [e2]; rfl)) ?_
      refine Ln rfl rfl rfl rfl (.inl (by rw [e2]; rfl)) ?_
      refine Lp (V_pickF rfl (evb e2) rfl) rfl rfl ?_
      exact hk2 _ (FrLe.cons rfl (FrLe.cons rfl (FrLe.cons (by rw [e2]; rfl) (FrLe.nil _))))
    intro fr hl
    refine Lfr hl ?_
    refine Lp (V_asg rfl rfl) rfl rfl ?_
    refine Lnil ?_
    refine thenN ?_
    refine AW.iff rfl (band_iff decide_eq_true_iff decide_eq_true_iff) h (fun h => ?_) (fun h => ?_)
    · refine AW.skip ?_
      refine thenN ?_
      exact ⟨_, (FrLe.cons rfl (FrLe.cons rfl (FrLe.nil _))), h⟩
    refine AW.seq ?_
    refine AW.reg ?_
    refine Lp (V_move rfl rfl) rfl rfl ?_
    refine Lp (V_eql rfl rfl rfl) rfl rfl ?_
    refine Lp (V_asg rfl rfl) rfl rfl ?_
    refine Lnil ?_
    refine thenN ?_
    refine AW.iff rfl decide_eq_true_iff h (fun h => ?_) (fun h => ?_)
    · refine AW.skip ?_
      refine thenN ?_
      exact ⟨_, (FrLe.cons rfl (FrLe.cons rfl (FrLe.nil _))), h⟩
    refine AW.seq ?_
    refine AW.reg ?_
    refine Lp (V_move rfl rfl) rfl rfl ?_
    refine Lp (V_eql rfl rfl rfl) rfl rfl ?_
    refine Lp (V_asg rfl rfl) rfl rfl ?_
    refine Lnil ?_
    refine thenN ?_
    refine AW.iff rfl decide_eq_true_iff h (fun h => ?_) (fun h => ?_)
    · refine AW.skip ?_
      refine thenN ?_
      exact ⟨_, (FrLe.cons rfl (FrLe.cons rfl (FrLe.nil _))), h⟩
    refine AW.reg ?_
    refine Lp (V_move rfl rfl) rfl rfl ?_
    refine Lp (V_eql rfl rfl rfl) rfl rfl ?_
    refine Lp (V_asg rfl rfl) rfl rfl ?_
    refine Lnil ?_
    refine thenN ?_
    exact ⟨_, (FrLe.cons rfl (FrLe.cons rfl (FrLe.nil _))), h⟩

end Go.Proofs.YthfpmipeejjogaaGreatDoor.G

/- Paths, the plain part: names, parts, the path above, on lists of bytes. No program in sight. -/
namespace Go.Proofs.YthfpmipeejjogaaGreatDoor.Pa
open Go Go.Proofs.YthfpmipeejjogaaGreatDoor.SL
set_option linter.unusedSimpArgs false

def okc (c : UInt8) : Bool := (97 ≤ c.toNat && c.toNat ≤ 122) || (48 ≤ c.toNat && c.toNat ≤ 57) || c.toNat == 46 || c.toNat == 95 || c.toNat == 45
def nameOk (l : Str) : Bool := decide (1 ≤ l.length) && decide (l.length ≤ 32) && (l != [46]) && (l != [46, 46]) && l.all okc
def cut : Str → List Str
  | [] => [[]]
  | c :: r => if c = 47 then [] :: cut r else match cut r with | [] => [[c]] | h :: t => (c :: h) :: t
def parts (l : Str) : Option (List Str) :=
  if l = [47] then some []
  else if l.length ≤ 128 ∧ l.head? = some 47 ∧ (cut (l.drop 1)).length ≤ 8 ∧ (cut (l.drop 1)).all nameOk = true then some (cut (l.drop 1)) else none
def mk (ps : List Str) : Str := if ps = [] then [47] else ps.flatMap (fun x => 47 :: x)

theorem cut_ne (l : Str) : cut l ≠ [] := by
  cases l with
  | nil => simp [cut]
  | cons c r => unfold cut; split <;> (try split) <;> simp
theorem name_no {x : Str} (h : nameOk x = true) : 47 ∉ x := by
  intro hm
  unfold nameOk at h
  simp only [Bool.and_eq_true, List.all_eq_true] at h
  have := h.2 47 hm
  exact absurd this (by decide)
theorem name_len {x : Str} (h : nameOk x = true) : 1 ≤ x.length ∧ x.length ≤ 32 := by
  unfold nameOk at h
  simp only [Bool.and_eq_true, decide_eq_true_eq] at h
  exact ⟨h.1.1.1.1, h.1.1.1.2⟩
theorem cut_flat (l : Str) : (cut l).flatMap (fun x => 47 :: x) = 47 :: l := by
  induction l with
  | nil => rfl
  | cons c r ih =>
    unfold cut
    split
    · rename_i h; subst h
      rw [List.flatMap_cons, ih]; rfl
    · split
      · rename_i h; exact absurd h (cut_ne r)
      · rename_i h t e
        rw [e, List.flatMap_cons] at ih
        rw [List.flatMap_cons]
        simp only [List.cons_append, List.cons.injEq, true_and] at ih ⊢
        exact ih
theorem cut_word (x : Str) (hx : 47 ∉ x) : cut x = [x] := by
  induction x with
  | nil => rfl
  | cons c x ih =>
    simp at hx
    unfold cut
    rw [if_neg (fun e => hx.1 e.symm), ih hx.2]
theorem cut_app (x r : Str) (hx : 47 ∉ x) : cut (x ++ 47 :: r) = x :: cut r := by
  induction x with
  | nil => rw [List.nil_append]; conv => lhs; unfold cut
           rw [if_pos rfl]
  | cons c x ih =>
    simp at hx
    rw [List.cons_append]
    conv => lhs; unfold cut
    rw [if_neg (fun e => hx.1 e.symm), ih hx.2]
theorem cut_mk : ∀ (ps : List Str), ps ≠ [] → (∀ x ∈ ps, 47 ∉ x) → cut ((ps.flatMap (fun x => 47 :: x)).drop 1) = ps := by
  intro ps
  induction ps with
  | nil => intro h; exact absurd rfl h
  | cons x ps ih =>
    intro _ hx
    rw [List.flatMap_cons]
    cases ps with
    | nil => simpa using cut_word x (hx x (by simp))
    | cons y ps =>
      have := ih (by simp) fun z hz => hx z (by simp [hz])
      rw [List.flatMap_cons] at this ⊢
      simp only [List.cons_append, List.drop_succ_cons, List.drop_zero] at this ⊢
      rw [cut_app x _ (hx x (by simp)), this]
theorem mk_head (ps : List Str) : ∃ r, mk ps = 47 :: r := by
  unfold mk
  cases ps with
  | nil => exact ⟨[], rfl⟩
  | cons x ps => exact ⟨_, rfl⟩
structure Good (ps : List Str) : Prop where
  n : ps.length ≤ 8
  ok : ∀ x ∈ ps, nameOk x = true
  len : (mk ps).length ≤ 128
theorem mk_ne {ps : List Str} (hn : ps ≠ []) (hx : ∀ x ∈ ps, nameOk x = true) : mk ps ≠ [47] := by
  unfold mk; rw [if_neg hn]
  cases ps with
  | nil => exact absurd rfl hn
  | cons x ps =>
    rw [List.flatMap_cons]
    have := (name_len (hx x (by simp))).1
    intro h
    have := congrArg List.length h
    simp at this
    have : x = [] := this.1
    subst this
    simp at *
theorem parts_iff {l : Str} {ps : List Str} : parts l = some ps ↔ l = mk ps ∧ Good ps := by
  constructor
  · intro h
    unfold parts at h
    split at h
    · rename_i e; cases h; exact ⟨e, by simp, by simp, by decide⟩
    · split at h
      · rename_i e1 e2
        cases h
        obtain ⟨h1, h2, h3, h4⟩ := e2
        cases l with
        | nil => cases h2
        | cons c r =>
          cases h2
          simp only [List.drop_succ_cons, List.drop_zero] at *
          have e : mk (cut r) = 47 :: r := by unfold mk; rw [if_neg (cut_ne r), cut_flat]
          exact ⟨e.symm, h3, by simpa using h4, by rw [e]; exact h1⟩
      · cases h
  · rintro ⟨rfl, h⟩
    unfold parts
    by_cases hn : ps = []
    · subst hn; rfl
    · rw [if_neg (mk_ne hn h.ok)]
      have e : cut ((mk ps).drop 1) = ps := by unfold mk; rw [if_neg hn]; exact cut_mk ps hn fun x hx => name_no (h.ok x hx)
      rw [e, if_pos]
      obtain ⟨r, hr⟩ := mk_head ps
      exact ⟨h.len, by rw [hr]; rfl, h.n, by simpa using h.ok⟩
theorem mk_inj {ps qs : List Str} (hp : Good ps) (hq : Good qs) (h : mk ps = mk qs) : ps = qs := by
  have a := parts_iff.2 ⟨rfl, hp⟩
  have b := parts_iff.2 ⟨h, hq⟩
  rw [a] at b; exact Option.some.inj b

/-- the place of the last slash among the first n -/
def li (l : Str) : Nat → Int
  | 0 => -1
  | k + 1 => if l[k]? = some 47 then (k : Int) else li l k
theorem li_word (a x : Str) (hx : 47 ∉ x) : ∀ k, k ≤ x.length → li (a ++ 47 :: x) (a.length + 1 + k) = a.length := by
  intro k
  induction k with
  | zero => intro _; show li _ (a.length + 1) = _; unfold li; rw [if_pos (by simp)]
  | succ k ih =>
    intro hk
    show li _ ((a.length + 1 + k) + 1) = _
    unfold li
    rw [if_neg, ih (by omega)]
    rw [List.getElem?_append_right (by omega), show a.length + 1 + k - a.length = k + 1 by omega, List.getElem?_cons_succ, List.getElem?_eq_getElem (by omega)]
    intro h
    exact hx ((Option.some.inj h) ▸ List.getElem_mem _)
theorem mk_snoc (ps : List Str) (x : Str) : mk (ps ++ [x]) = (if ps = [] then [] else mk ps) ++ 47 :: x := by
  unfold mk
  rw [if_neg (by simp), List.flatMap_append]
  cases ps with
  | nil => simp
  | cons y ps => simp
def up (ps : List Str) : List Str := ps.dropLast
theorem Good.up {ps : List Str} (h : Good ps) : Good ps.dropLast := by
  rcases List.eq_nil_or_concat ps with rfl | ⟨qs, x, rfl⟩
  · exact h
  · rw [List.concat_eq_append] at h ⊢
    rw [List.dropLast_concat]
    refine ⟨by have := h.n; simp at this; omega, fun y hy => h.ok y (by simp [hy]), ?_⟩
    have := h.len
    rw [mk_snoc] at this
    split at this
    · rename_i e; subst e; decide
    · simp at this; omega

theorem idx_no : ∀ (s : Str), 47 ∉ s → Lib.index s [47] = -1 := by
  intro s
  induction s with
  | nil => intro _; rfl
  | cons b l ih =>
    intro h
    simp at h
    unfold Lib.index
    rw [if_neg (by simp; exact h.1), ih h.2]; rfl
theorem idx_at : ∀ (a r : Str), 47 ∉ a → Lib.index (a ++ 47 :: r) [47] = a.length := by
  intro a
  induction a with
  | nil => intro r _; show Lib.index (47 :: r) [47] = 0; unfold Lib.index; rw [if_pos (by simp)]
  | cons b a ih =>
    intro r h
    simp at h
    rw [List.cons_append]
    unfold Lib.index
    rw [if_neg (by simp; exact h.1), ih r h.2, if_neg (by simp)]
    simp
theorem splitK_cut : ∀ (fuel : Nat) (s : Str), s.length < fuel → Lib.splitK [47] 0 (Lib.countFrom [47] fuel s) s = cut s := by
  intro fuel
  induction fuel with
  | zero => intro s h; omega
  | succ n ih =>
    intro s h
    unfold Lib.countFrom
    by_cases hm : 47 ∈ s
    · obtain ⟨a, r, rfl, ha⟩ := List.eq_append_cons_of_mem hm
      rw [idx_at a r ha, if_neg (by simp), Nat.add_comm 1]
      unfold Lib.splitK
      rw [idx_at a r ha, if_neg (by simp)]
      simp only [Int.toNat_natCast, Nat.add_zero, List.take_left, List.length_cons, List.length_nil]
      have e : (a ++ 47 :: r).drop (a.length + 1) = r := by
        rw [show a ++ 47 :: r = (a ++ [47]) ++ r by simp, show a.length + 1 = (a ++ [47]).length by simp, List.drop_left]
      rw [show a.length + (0 + 1) = a.length + 1 by omega, e, ih r (by simp at h; omega), cut_app a r ha]
    · rw [idx_no s hm, if_pos (by rfl), cut_word s hm]; rfl
theorem split_cut (s : ByteArray) : (Lib.splitB (S [47]) 0 (Lib.countB s (S [47])) s).map L = cut (L s) := by
  rw [show (Lib.splitB (S [47]) 0 (Lib.countB s (S [47])) s).map L = Lib.splitK [47] 0 (Lib.countB s (S [47])) (L s) from Lib.splitB_data _ _ _ _]
  have : Lib.countB s (S [47]) = Lib.count (L s) [47] := rfl
  rw [this]
  exact splitK_cut _ _ (by omega)
end Go.Proofs.YthfpmipeejjogaaGreatDoor.Pa

/-
  DERIVED: THE SHELF's CONTRACTS AT THIS DUMP, IN PLAIN WORDS (tools/lay-plain.mjs out of 'TryzShelfCut.lean', which tools/lay-shelf.mjs wrote): THE SAME DECLARATIONS UNDER THE SAME NAMES: 'import', 'namespace', 'open', 'def', 'theorem' AND NOTHING ELSE: no command of the shelf's: FOR A HAND-IN. Each laying: the table of numbers ('.._ren') and one theorem, a field a fact of the dump's own or the kernel's comparison; each contract: ONE APPLICATION.
-/
namespace Go.Proofs
open Go.Shelf
def Tryz.laysM171_ren : Go.Shelf.Ren := ⟨fun | 171 => 117 | 243 => 139 | 246 => 153 | 283 => 173 | 284 => 174 | 285 => 175 | 286 => 176 | 129 => 171 | 317 => 189 | 318 => 190 | 319 => 191 | 320 => 192 | 337 => 199 | 338 => 200 | n => n, fun | 3 => 3 | 9 => 9 | 2 => 2 | 4 => 4 | 171 => 260 | 0 => 0 | 53 => 245 | 37 => 30 | 5 => 5 | 173 => 262 | 212 => 275 | 51 => 242 | 20 => 20 | 213 => 276 | 46 => 230 | 232 => 284 | 233 => 285 | n => n, fun | 17 => 2 | 18 => 5 | 19 => 6 | n => n⟩
theorem Tryz.laysM171 : Go.Proofs.LaysM.n171 Tryz.prog Tryz.laysM171_ren := {
  mixed := by kernel_rfl
  f129 := Tryz.func171.trans (congrArg some (by kernel_rfl))
  f171 := Tryz.func117.trans (congrArg some (by kernel_rfl))
  f243 := Tryz.func139.trans (congrArg some (by kernel_rfl))
  f246 := Tryz.func153.trans (congrArg some (by kernel_rfl))
  f283 := Tryz.func173.trans (congrArg some (by kernel_rfl))
  f284 := Tryz.func174.trans (congrArg some (by kernel_rfl))
  f285 := Tryz.func175.trans (congrArg some (by kernel_rfl))
  f286 := Tryz.func176.trans (congrArg some (by kernel_rfl))
  f317 := Tryz.func189.trans (congrArg some (by kernel_rfl))
  f318 := Tryz.func190.trans (congrArg some (by kernel_rfl))
  f319 := Tryz.func191.trans (congrArg some (by kernel_rfl))
  f320 := Tryz.func192.trans (congrArg some (by kernel_rfl))
  f337 := Tryz.func199.trans (congrArg some (by kernel_rfl))
  f338 := Tryz.func200.trans (congrArg some (by kernel_rfl))
  t0 := Tryz.underlying0
  a0 := Tryz.isAgg0
  z0 := Tryz.sizeOf0
  v0 := Tryz.zeroValue0
  t2 := Tryz.underlying2
  a2 := Tryz.isAgg2
  z2 := Tryz.sizeOf2
  v2 := Tryz.zeroValue2
  t3 := Tryz.underlying3
  a3 := Tryz.isAgg3
  z3 := Tryz.sizeOf3
  v3 := Tryz.zeroValue3
  t4 := Tryz.underlying4
  a4 := Tryz.isAgg4
  z4 := Tryz.sizeOf4
  v4 := Tryz.zeroValue4
  t5 := Tryz.underlying5
  a5 := Tryz.isAgg5
  z5 := Tryz.sizeOf5
  v5 := Tryz.zeroValue5
  t9 := Tryz.underlying9
  a9 := Tryz.isAgg9
  z9 := Tryz.sizeOf9
  v9 := Tryz.zeroValue9
  t20 := Tryz.underlying20
  a20 := Tryz.isAgg20
  z20 := Tryz.sizeOf20
  v20 := Tryz.zeroValue20
  t37 := Tryz.underlying30
  a37 := Tryz.isAgg30
  z37 := Tryz.sizeOf30
  v37 := Tryz.zeroValue30
  t46 := Tryz.underlying230
  a46 := Tryz.isAgg230
  z46 := Tryz.sizeOf230
  v46 := Tryz.zeroValue230
  t51 := Tryz.underlying242
  a51 := Tryz.isAgg242
  z51 := Tryz.sizeOf242
  v51 := Tryz.zeroValue242
  t53 := Tryz.underlying245
  a53 := Tryz.isAgg245
  z53 := Tryz.sizeOf245
  v53 := Tryz.zeroValue245
  t171 := Tryz.underlying260
  a171 := Tryz.isAgg260
  z171 := Tryz.sizeOf260
  v171 := Tryz.zeroValue260
  t173 := Tryz.underlying262
  a173 := Tryz.isAgg262
  z173 := Tryz.sizeOf262
  v173 := Tryz.zeroValue262
  t212 := Tryz.underlying275
  a212 := Tryz.isAgg275
  z212 := Tryz.sizeOf275
  v212 := Tryz.zeroValue275
  t213 := Tryz.underlying276
  a213 := Tryz.isAgg276
  z213 := Tryz.sizeOf276
  t232 := Tryz.underlying284
  a232 := Tryz.isAgg284
  z232 := Tryz.sizeOf284
  v232 := Tryz.zeroValue284
  t233 := Tryz.underlying285
  a233 := Tryz.isAgg285
  z233 := Tryz.sizeOf285
  v233 := Tryz.zeroValue285
  g17 := by kernel_rfl
  g18 := by kernel_rfl
  g19 := by kernel_rfl
  i0 := by kernel_rfl
  i2 := by kernel_rfl
  i3 := by kernel_rfl
  i4 := by kernel_rfl
  i5 := by kernel_rfl
  i9 := by kernel_rfl
  i20 := by kernel_rfl
  i37 := by kernel_rfl
  i46 := by kernel_rfl
  i51 := by kernel_rfl
  i53 := by kernel_rfl
  i171 := by kernel_rfl
  i173 := by kernel_rfl
  i212 := by kernel_rfl
  i232 := by kernel_rfl
  i233 := by kernel_rfl
  m17 := by kernel_rfl
  m18 := by kernel_rfl
  m19 := by kernel_rfl }
open Go.RowKit Go.Sort Go.Lib in
/-- strconv.Itoa: "Itoa is equivalent to FormatInt(int64(i), 10).": i's DECIMAL NUMERAL ('Lib.itoa': a '-' where i is negative, then the digits), FOR EVERY int. The world behind the call: the world before it, new blocks behind the heap (the library's 'var a [24]byte'), draws. (LAID: no walk: one application.) -/
theorem Tryz.strconv_Itoa (n : Int) (h0 : -9223372036854775808 ≤ n) (h1 : n ≤ 9223372036854775807) (w : World) (htab : Lib.TabIs Tryz.prog w "internal/strconv.uint64pow10" .u64 Lib.pow10Tab) :
    Calls Tryz.prog 117 #[.int .i64 n] w fun e w' => e = .returned (.string ⟨(Lib.itoa n).toArray⟩) ∧ ∃ k os, w' = grow (w.drewN k) os := Any.strconv_Itoa Tryz.laysM171 n h0 h1 w htab
def Tryz.laysM290_ren : Go.Shelf.Ren := ⟨fun | 290 => 152 | 324 => 172 | n => n, fun | 37 => 30 | 3 => 3 | 0 => 0 | 4 => 4 | 20 => 20 | 75 => 205 | 5 => 5 | 80 => 149 | 9 => 9 | n => n, fun | 14 => 1 | n => n⟩
theorem Tryz.laysM290 : Go.Proofs.LaysM.n290 Tryz.prog Tryz.laysM290_ren := {
  mixed := by kernel_rfl
  f290 := Tryz.func152.trans (congrArg some (by kernel_rfl))
  f324 := Tryz.func172.trans (congrArg some (by kernel_rfl))
  t0 := Tryz.underlying0
  a0 := Tryz.isAgg0
  z0 := Tryz.sizeOf0
  v0 := Tryz.zeroValue0
  t3 := Tryz.underlying3
  a3 := Tryz.isAgg3
  z3 := Tryz.sizeOf3
  v3 := Tryz.zeroValue3
  t4 := Tryz.underlying4
  a4 := Tryz.isAgg4
  z4 := Tryz.sizeOf4
  v4 := Tryz.zeroValue4
  t20 := Tryz.underlying20
  a20 := Tryz.isAgg20
  z20 := Tryz.sizeOf20
  v20 := Tryz.zeroValue20
  t37 := Tryz.underlying30
  a37 := Tryz.isAgg30
  z37 := Tryz.sizeOf30
  v37 := Tryz.zeroValue30
  t75 := Tryz.underlying205
  a75 := Tryz.isAgg205
  z75 := Tryz.sizeOf205
  v75 := Tryz.zeroValue205
  g14 := by kernel_rfl
  t5 := Tryz.underlying5
  a5 := Tryz.isAgg5
  z5 := Tryz.sizeOf5
  v5 := Tryz.zeroValue5
  t9 := Tryz.underlying9
  a9 := Tryz.isAgg9
  z9 := Tryz.sizeOf9
  v9 := Tryz.zeroValue9
  t80 := Tryz.underlying149
  a80 := Tryz.isAgg149
  z80 := Tryz.sizeOf149
  v80 := Tryz.zeroValue149
  i0 := by kernel_rfl
  i3 := by kernel_rfl
  i4 := by kernel_rfl
  i5 := by kernel_rfl
  i9 := by kernel_rfl
  i20 := by kernel_rfl
  i37 := by kernel_rfl
  i75 := by kernel_rfl
  i80 := by kernel_rfl
  m14 := by kernel_rfl }
open Go.RowKit in
/-- bytes.growSlice: "growSlice grows b by n, preserving the original content of b.": OF A SLICE THAT LIES AT THE HEAD OF A ROW: a new row, number 'w.heap.size': it begins with b's l cells; its capacity has room for n more; whatever lay below is as it was. (LAID: no walk: one application.) -/
theorem Tryz.bytes_growSlice_row (g l c n : Nat) (cur : Array Value) (w : World) (hg : w.heap[g]? = some (.cells cur 5 (0, 0))) (hcs : cur.size = c) (hlc : l ≤ c) (hn : 1 ≤ n) (hlim : l + n ≤ 140737488355328) (hc2 : c ≤ 140737488355328) (h1 : ∀ v ∈ cur.toList.take l, v.oneCell' = true) :
    Calls Tryz.prog 152 #[.slice (some ⟨g, 0, none⟩) l c, .int .i64 n] w fun e w' => ∃ cap2 cells, e = .returned (.slice (some ⟨w.heap.size, 0, none⟩) l cap2) ∧ w'.heap[w.heap.size]? = some (.cells cells 5 (0, 0)) ∧
      cells.size = cap2 ∧ cells.toList.take l = cur.toList.take l ∧ l + n ≤ cap2 ∧ cap2 ≤ maxLen ∧ Below w.heap.size w w' := Any.bytes_growSlice_row Tryz.laysM290 g l c n cur w hg hcs hlc hn hlim hc2 h1
open Go.RowKit in
/-- .. OF THE NIL SLICE: a new row with room for n. (LAID: no walk: one application.) -/
theorem Tryz.bytes_growSlice_nil (n : Nat) (w : World) (hn : 1 ≤ n) (hlim : n ≤ 140737488355328) :
    Calls Tryz.prog 152 #[.slice none 0 0, .int .i64 n] w fun e w' => ∃ cap2 cells, e = .returned (.slice (some ⟨w.heap.size, 0, none⟩) 0 cap2) ∧ w'.heap[w.heap.size]? = some (.cells cells 5 (0, 0)) ∧
      cells.size = cap2 ∧ n ≤ cap2 ∧ cap2 ≤ maxLen ∧ Below w.heap.size w w' := Any.bytes_growSlice_nil Tryz.laysM290 n w hn hlim
def Tryz.lays146_ren : Go.Shelf.Ren := ⟨fun | 146 => 128 | 221 => 146 | 268 => 158 | 138 => 159 | 143 => 160 | 195 => 179 | 197 => 180 | 218 => 181 | 219 => 182 | 260 => 193 | 217 => 194 | 225 => 195 | 224 => 196 | 267 => 197 | 266 => 201 | 314 => 202 | n => n, fun | 9 => 9 | 31 => 25 | 3 => 3 | 4 => 4 | 0 => 0 | 105 => 266 | 21 => 21 | 5 => 5 | 46 => 230 | 119 => 279 | 139 => 282 | 138 => 281 | 146 => 243 | 51 => 242 | n => n, fun | 1 => 0 | 3 => 3 | 4 => 4 | n => n⟩
theorem Tryz.lays146 : Go.Proofs.Lays.n146 Tryz.prog Tryz.lays146_ren := {
  mixed := by kernel_rfl
  f138 := Tryz.func159.trans (congrArg some (by kernel_rfl))
  f143 := Tryz.func160.trans (congrArg some (by kernel_rfl))
  f146 := Tryz.func128.trans (congrArg some (by kernel_rfl))
  f195 := Tryz.func179.trans (congrArg some (by kernel_rfl))
  f197 := Tryz.func180.trans (congrArg some (by kernel_rfl))
  f217 := Tryz.func194.trans (congrArg some (by kernel_rfl))
  f218 := Tryz.func181.trans (congrArg some (by kernel_rfl))
  f219 := Tryz.func182.trans (congrArg some (by kernel_rfl))
  f221 := Tryz.func146.trans (congrArg some (by kernel_rfl))
  f224 := Tryz.func196.trans (congrArg some (by kernel_rfl))
  f225 := Tryz.func195.trans (congrArg some (by kernel_rfl))
  f260 := Tryz.func193.trans (congrArg some (by kernel_rfl))
  f266 := Tryz.func201.trans (congrArg some (by kernel_rfl))
  f267 := Tryz.func197.trans (congrArg some (by kernel_rfl))
  f268 := Tryz.func158.trans (congrArg some (by kernel_rfl))
  f314 := Tryz.func202.trans (congrArg some (by kernel_rfl))
  t0 := Tryz.underlying0
  a0 := Tryz.isAgg0
  z0 := Tryz.sizeOf0
  v0 := Tryz.zeroValue0
  t3 := Tryz.underlying3
  a3 := Tryz.isAgg3
  z3 := Tryz.sizeOf3
  v3 := Tryz.zeroValue3
  t4 := Tryz.underlying4
  a4 := Tryz.isAgg4
  z4 := Tryz.sizeOf4
  v4 := Tryz.zeroValue4
  t5 := Tryz.underlying5
  a5 := Tryz.isAgg5
  z5 := Tryz.sizeOf5
  v5 := Tryz.zeroValue5
  t9 := Tryz.underlying9
  a9 := Tryz.isAgg9
  z9 := Tryz.sizeOf9
  v9 := Tryz.zeroValue9
  t21 := Tryz.underlying21
  a21 := Tryz.isAgg21
  z21 := Tryz.sizeOf21
  v21 := Tryz.zeroValue21
  t31 := Tryz.underlying25
  a31 := Tryz.isAgg25
  z31 := Tryz.sizeOf25
  v31 := Tryz.zeroValue25
  t46 := Tryz.underlying230
  a46 := Tryz.isAgg230
  z46 := Tryz.sizeOf230
  v46 := Tryz.zeroValue230
  t51 := Tryz.underlying242
  a51 := Tryz.isAgg242
  z51 := Tryz.sizeOf242
  v51 := Tryz.zeroValue242
  t105 := Tryz.underlying266
  a105 := Tryz.isAgg266
  z105 := Tryz.sizeOf266
  v105 := Tryz.zeroValue266
  t119 := Tryz.underlying279
  a119 := Tryz.isAgg279
  z119 := Tryz.sizeOf279
  t138 := Tryz.underlying281
  a138 := Tryz.isAgg281
  z138 := Tryz.sizeOf281
  v138 := Tryz.zeroValue281
  t139 := Tryz.underlying282
  a139 := Tryz.isAgg282
  z139 := Tryz.sizeOf282
  v139 := Tryz.zeroValue282
  t146 := Tryz.underlying243
  a146 := Tryz.isAgg243
  z146 := Tryz.sizeOf243
  v146 := Tryz.zeroValue243
  g1 := by kernel_rfl
  g3 := by kernel_rfl
  g4 := by kernel_rfl }
open Go.RowKit Go.Lib in
/-- strings.Split. (LAID: no walk: one application.) -/
theorem Tryz.strings_Split (s sep : ByteArray) (m : Int) (w : World) (hs : s.size < 4294967281) (hm : w.cell? ⟨0, 0, none⟩ = some (.int .i64 m)) (h1 : 1 ≤ sep.size) :
    Calls Tryz.prog 128 #[.string s, .string sep] w fun e w' =>
      e = .returned (.slice (some ⟨w.heap.size, 0, none⟩) (Lib.countB s sep + 1) (Lib.countB s sep + 1)) ∧ w' = w.alloc (.cells ((Lib.splitB sep 0 (Lib.countB s sep) s).map Value.string).toArray 9) := Any.strings_Split Tryz.lays146 (by kernel_rfl) s sep m w hs hm h1
def Tryz.laysM146_ren : Go.Shelf.Ren := ⟨fun | 146 => 128 | 221 => 146 | 268 => 158 | 138 => 159 | 143 => 160 | 195 => 179 | 197 => 180 | 218 => 181 | 219 => 182 | 260 => 193 | 217 => 194 | 225 => 195 | 224 => 196 | 267 => 197 | 266 => 201 | 314 => 202 | n => n, fun | 9 => 9 | 31 => 25 | 3 => 3 | 4 => 4 | 0 => 0 | 105 => 266 | 21 => 21 | 5 => 5 | 46 => 230 | 119 => 279 | 139 => 282 | 138 => 281 | 146 => 243 | 51 => 242 | n => n, fun | 1 => 0 | 3 => 3 | 4 => 4 | n => n⟩
theorem Tryz.laysM146 : Go.Proofs.LaysM.n146 Tryz.prog Tryz.laysM146_ren := {
  mixed := by kernel_rfl
  f138 := Tryz.func159.trans (congrArg some (by kernel_rfl))
  f143 := Tryz.func160.trans (congrArg some (by kernel_rfl))
  f146 := Tryz.func128.trans (congrArg some (by kernel_rfl))
  f195 := Tryz.func179.trans (congrArg some (by kernel_rfl))
  f197 := Tryz.func180.trans (congrArg some (by kernel_rfl))
  f217 := Tryz.func194.trans (congrArg some (by kernel_rfl))
  f218 := Tryz.func181.trans (congrArg some (by kernel_rfl))
  f219 := Tryz.func182.trans (congrArg some (by kernel_rfl))
  f221 := Tryz.func146.trans (congrArg some (by kernel_rfl))
  f224 := Tryz.func196.trans (congrArg some (by kernel_rfl))
  f225 := Tryz.func195.trans (congrArg some (by kernel_rfl))
  f260 := Tryz.func193.trans (congrArg some (by kernel_rfl))
  f266 := Tryz.func201.trans (congrArg some (by kernel_rfl))
  f267 := Tryz.func197.trans (congrArg some (by kernel_rfl))
  f268 := Tryz.func158.trans (congrArg some (by kernel_rfl))
  f314 := Tryz.func202.trans (congrArg some (by kernel_rfl))
  t0 := Tryz.underlying0
  a0 := Tryz.isAgg0
  z0 := Tryz.sizeOf0
  v0 := Tryz.zeroValue0
  t3 := Tryz.underlying3
  a3 := Tryz.isAgg3
  z3 := Tryz.sizeOf3
  v3 := Tryz.zeroValue3
  t4 := Tryz.underlying4
  a4 := Tryz.isAgg4
  z4 := Tryz.sizeOf4
  v4 := Tryz.zeroValue4
  t5 := Tryz.underlying5
  a5 := Tryz.isAgg5
  z5 := Tryz.sizeOf5
  v5 := Tryz.zeroValue5
  t9 := Tryz.underlying9
  a9 := Tryz.isAgg9
  z9 := Tryz.sizeOf9
  v9 := Tryz.zeroValue9
  t21 := Tryz.underlying21
  a21 := Tryz.isAgg21
  z21 := Tryz.sizeOf21
  v21 := Tryz.zeroValue21
  t31 := Tryz.underlying25
  a31 := Tryz.isAgg25
  z31 := Tryz.sizeOf25
  v31 := Tryz.zeroValue25
  t46 := Tryz.underlying230
  a46 := Tryz.isAgg230
  z46 := Tryz.sizeOf230
  v46 := Tryz.zeroValue230
  t51 := Tryz.underlying242
  a51 := Tryz.isAgg242
  z51 := Tryz.sizeOf242
  v51 := Tryz.zeroValue242
  t105 := Tryz.underlying266
  a105 := Tryz.isAgg266
  z105 := Tryz.sizeOf266
  v105 := Tryz.zeroValue266
  t119 := Tryz.underlying279
  a119 := Tryz.isAgg279
  z119 := Tryz.sizeOf279
  t138 := Tryz.underlying281
  a138 := Tryz.isAgg281
  z138 := Tryz.sizeOf281
  v138 := Tryz.zeroValue281
  t139 := Tryz.underlying282
  a139 := Tryz.isAgg282
  z139 := Tryz.sizeOf282
  v139 := Tryz.zeroValue282
  t146 := Tryz.underlying243
  a146 := Tryz.isAgg243
  z146 := Tryz.sizeOf243
  v146 := Tryz.zeroValue243
  g1 := by kernel_rfl
  g3 := by kernel_rfl
  g4 := by kernel_rfl
  i0 := by kernel_rfl
  i3 := by kernel_rfl
  i4 := by kernel_rfl
  i5 := by kernel_rfl
  i9 := by kernel_rfl
  i21 := by kernel_rfl
  i31 := by kernel_rfl
  i46 := by kernel_rfl
  i51 := by kernel_rfl
  i105 := by kernel_rfl
  i138 := by kernel_rfl
  i139 := by kernel_rfl
  i146 := by kernel_rfl
  m1 := by kernel_rfl
  s1_3 := fun w h => Go.Proofs.cell_of_shapedOpen_int (zero := #[.int .i64 0]) (t := 3) h (of_decide_eq_true (by kernel_rfl)) (by kernel_rfl) rfl (by kernel_rfl) (by kernel_rfl) Tryz.underlying3
  m3 := by kernel_rfl
  m4 := by kernel_rfl }
def Tryz.lays105_ren : Go.Shelf.Ren := ⟨fun | 105 => 118 | 212 => 140 | 99 => 110 | 165 => 141 | 166 => 142 | 170 => 143 | 169 => 144 | 263 => 154 | 264 => 155 | 206 => 133 | 240 => 156 | 241 => 157 | 276 => 177 | 277 => 178 | n => n, fun | 9 => 9 | 3 => 3 | 4 => 4 | 20 => 20 | 0 => 0 | 46 => 230 | 109 => 231 | 5 => 5 | 72 => 235 | 76 => 206 | 51 => 242 | 146 => 243 | 53 => 245 | 148 => 246 | 70 => 233 | 37 => 30 | 75 => 205 | 127 => 248 | 164 => 264 | 80 => 149 | n => n, fun | n => n⟩
theorem Tryz.lays105 : Go.Proofs.Lays.n105 Tryz.prog Tryz.lays105_ren := {
  mixed := by kernel_rfl
  f99 := Tryz.func110.trans (congrArg some (by kernel_rfl))
  f105 := Tryz.func118.trans (congrArg some (by kernel_rfl))
  f165 := Tryz.func141.trans (congrArg some (by kernel_rfl))
  f166 := Tryz.func142.trans (congrArg some (by kernel_rfl))
  f169 := Tryz.func144.trans (congrArg some (by kernel_rfl))
  f170 := Tryz.func143.trans (congrArg some (by kernel_rfl))
  f206 := Tryz.func133.trans (congrArg some (by kernel_rfl))
  f212 := Tryz.func140.trans (congrArg some (by kernel_rfl))
  f240 := Tryz.func156.trans (congrArg some (by kernel_rfl))
  f241 := Tryz.func157.trans (congrArg some (by kernel_rfl))
  f263 := Tryz.func154.trans (congrArg some (by kernel_rfl))
  f264 := Tryz.func155.trans (congrArg some (by kernel_rfl))
  f276 := Tryz.func177.trans (congrArg some (by kernel_rfl))
  f277 := Tryz.func178.trans (congrArg some (by kernel_rfl))
  t0 := Tryz.underlying0
  a0 := Tryz.isAgg0
  z0 := Tryz.sizeOf0
  v0 := Tryz.zeroValue0
  t3 := Tryz.underlying3
  a3 := Tryz.isAgg3
  z3 := Tryz.sizeOf3
  v3 := Tryz.zeroValue3
  t4 := Tryz.underlying4
  a4 := Tryz.isAgg4
  z4 := Tryz.sizeOf4
  v4 := Tryz.zeroValue4
  t5 := Tryz.underlying5
  a5 := Tryz.isAgg5
  z5 := Tryz.sizeOf5
  v5 := Tryz.zeroValue5
  t9 := Tryz.underlying9
  a9 := Tryz.isAgg9
  z9 := Tryz.sizeOf9
  v9 := Tryz.zeroValue9
  t20 := Tryz.underlying20
  a20 := Tryz.isAgg20
  z20 := Tryz.sizeOf20
  v20 := Tryz.zeroValue20
  t37 := Tryz.underlying30
  a37 := Tryz.isAgg30
  z37 := Tryz.sizeOf30
  v37 := Tryz.zeroValue30
  t46 := Tryz.underlying230
  a46 := Tryz.isAgg230
  z46 := Tryz.sizeOf230
  v46 := Tryz.zeroValue230
  t51 := Tryz.underlying242
  a51 := Tryz.isAgg242
  z51 := Tryz.sizeOf242
  v51 := Tryz.zeroValue242
  t53 := Tryz.underlying245
  a53 := Tryz.isAgg245
  z53 := Tryz.sizeOf245
  v53 := Tryz.zeroValue245
  t70 := Tryz.underlying233
  a70 := Tryz.isAgg233
  z70 := Tryz.sizeOf233
  v70 := Tryz.zeroValue233
  t72 := Tryz.underlying235
  a72 := Tryz.isAgg235
  z72 := Tryz.sizeOf235
  v72 := Tryz.zeroValue235
  t75 := Tryz.underlying205
  a75 := Tryz.isAgg205
  z75 := Tryz.sizeOf205
  v75 := Tryz.zeroValue205
  t76 := Tryz.underlying206
  a76 := Tryz.isAgg206
  z76 := Tryz.sizeOf206
  v76 := Tryz.zeroValue206
  t109 := Tryz.underlying231
  a109 := Tryz.isAgg231
  z109 := Tryz.sizeOf231
  v109 := Tryz.zeroValue231
  t127 := Tryz.underlying248
  a127 := Tryz.isAgg248
  z127 := Tryz.sizeOf248
  v127 := Tryz.zeroValue248
  t146 := Tryz.underlying243
  a146 := Tryz.isAgg243
  z146 := Tryz.sizeOf243
  v146 := Tryz.zeroValue243
  t148 := Tryz.underlying246
  a148 := Tryz.isAgg246
  z148 := Tryz.sizeOf246
  v148 := Tryz.zeroValue246
  t164 := Tryz.underlying264
  a164 := Tryz.isAgg264
  z164 := Tryz.sizeOf264
  v164 := Tryz.zeroValue264 }
theorem Tryz.Builder_Extra_105 : Builder.Extra Tryz.prog Tryz.lays105_ren := {
  sizeBuilder := by kernel_rfl
  liesBuilder := by kernel_rfl
  t5 := Tryz.underlying5
  a5 := Tryz.isAgg5
  z5 := Tryz.sizeOf5
  v5 := Tryz.zeroValue5
  infoByte := by kernel_rfl
  cellsByte := by kernel_rfl
  sizeByte := by kernel_rfl
  neB5 := by decide }
open Go.RowKit Go.Lib in
/-- **strings.Repeat: count ≥ 0, the result within one allocation: count copies of s.** (LAID: no walk: one application.) -/
theorem Tryz.strings_Repeat (s : ByteArray) (c : Nat) (w : World) (hc : c ≤ 9223372036854775807) (hlen : s.size * c ≤ 140737488355328) :
    Calls Tryz.prog 118 #[.string s, .int .i64 c] w fun e w' => e = .returned (.string ⟨(Lib.repeatL s.data.toList c).toArray⟩) ∧ Below w.heap.size w w' := Any.strings_Repeat Tryz.lays105 Tryz.Builder_Extra_105 s c w hc hlen
def Tryz.keys109_ren : Go.Shelf.Ren := ⟨fun | 7 => 109 | 10 => 132 | n => n, fun | 23 => 126 | 26 => 9 | 3 => 129 | 28 => 191 | 0 => 0 | 27 => 190 | 33 => 125 | 4 => 4 | n => n, fun | n => n⟩
theorem Tryz.keys109 : Go.Proofs.SlLaysZ.n7 Tryz.prog Tryz.keys109_ren := {
  mixed := by kernel_rfl
  f7 := ⟨Tryz.f109.name, by decide, Tryz.func109.trans (congrArg some (by kernel_rfl))⟩
  f10 := ⟨Tryz.f132.name, by decide, Tryz.func132.trans (congrArg some (by kernel_rfl))⟩
  t0 := Tryz.underlying0
  a0 := Tryz.isAgg0
  z0 := Tryz.sizeOf0
  v0 := Tryz.zeroValue0
  t4 := Tryz.underlying4
  a4 := Tryz.isAgg4
  z4 := Tryz.sizeOf4
  v4 := Tryz.zeroValue4
  t23 := Tryz.underlying126
  a23 := Tryz.isAgg126
  z23 := Tryz.sizeOf126
  v23 := Tryz.zeroValue126
  t26 := Tryz.underlying9
  a26 := Tryz.isAgg9
  z26 := Tryz.sizeOf9
  v26 := Tryz.zeroValue9
  t27 := Tryz.underlying190
  a27 := Tryz.isAgg190
  z27 := Tryz.sizeOf190
  v27 := Tryz.zeroValue190
  t28 := Tryz.underlying191
  a28 := Tryz.isAgg191
  z28 := Tryz.sizeOf191
  v28 := Tryz.zeroValue191
  t33 := Tryz.underlying125
  a33 := Tryz.isAgg125
  z33 := Tryz.sizeOf125
  v33 := Tryz.zeroValue125 }
def Tryz.sorted108_ren : Go.Shelf.Ren := ⟨fun | 6 => 108 | 8 => 130 | 9 => 131 | 11 => 147 | 13 => 149 | 12 => 148 | 23 => 170 | 24 => 171 | 14 => 161 | 15 => 162 | 16 => 163 | 17 => 164 | 18 => 165 | 19 => 166 | 20 => 167 | 21 => 168 | 22 => 169 | 25 => 183 | 26 => 184 | 27 => 185 | 28 => 186 | 29 => 187 | 30 => 188 | 31 => 198 | n => n, fun | 26 => 9 | 28 => 191 | 24 => 25 | 0 => 0 | 3 => 3 | 37 => 230 | 48 => 242 | 50 => 245 | 4 => 4 | 40 => 253 | 39 => 252 | 45 => 227 | 5 => 5 | 9 => 9 | 51 => 268 | 55 => 272 | 57 => 277 | 58 => 64 | 33 => 125 | n => n, fun | n => n⟩
theorem Tryz.sorted108 : Go.Proofs.SlLaysZ.n6 Tryz.prog Tryz.sorted108_ren := {
  mixed := by kernel_rfl
  f6 := ⟨Tryz.f108.name, by decide, Tryz.func108.trans (congrArg some (by kernel_rfl))⟩
  f8 := ⟨Tryz.f130.name, by decide, Tryz.func130.trans (congrArg some (by kernel_rfl))⟩
  f11 := ⟨Tryz.f147.name, by decide, Tryz.func147.trans (congrArg some (by kernel_rfl))⟩
  t0 := Tryz.underlying0
  a0 := Tryz.isAgg0
  z0 := Tryz.sizeOf0
  v0 := Tryz.zeroValue0
  t24 := Tryz.underlying25
  a24 := Tryz.isAgg25
  z24 := Tryz.sizeOf25
  v24 := Tryz.zeroValue25
  t26 := Tryz.underlying9
  a26 := Tryz.isAgg9
  z26 := Tryz.sizeOf9
  v26 := Tryz.zeroValue9
  t28 := Tryz.underlying191
  a28 := Tryz.isAgg191
  z28 := Tryz.sizeOf191
  v28 := Tryz.zeroValue191
  i26 := by kernel_rfl }
def Tryz.sort131_ren : Go.Shelf.Ren := ⟨fun | 6 => 131 | 8 => 149 | 9 => 148 | 19 => 170 | 20 => 171 | 21 => 161 | 22 => 162 | 23 => 163 | 24 => 164 | 25 => 165 | 26 => 166 | 27 => 167 | 28 => 168 | 29 => 169 | 36 => 183 | 31 => 184 | 32 => 185 | 37 => 186 | 38 => 187 | 39 => 188 | 41 => 198 | n => n, fun | 27 => 25 | 29 => 9 | 3 => 3 | 32 => 230 | 26 => 25 | 0 => 0 | 44 => 242 | 46 => 245 | 4 => 4 | 36 => 253 | 35 => 252 | 41 => 227 | 5 => 5 | 9 => 9 | 53 => 268 | 57 => 272 | 63 => 277 | 64 => 64 | n => n, fun | n => n⟩
theorem Tryz.sort131 : Go.Proofs.SlLaysM.n6 Tryz.prog Tryz.sort131_ren := {
  mixed := by kernel_rfl
  f6 := ⟨Tryz.f131.name, by decide, Tryz.func131.trans (congrArg some (by kernel_rfl))⟩
  f8 := Tryz.func149.trans (congrArg some (by kernel_rfl))
  f9 := ⟨Tryz.f148.name, by decide, Tryz.func148.trans (congrArg some (by kernel_rfl))⟩
  f19 := Tryz.func170.trans (congrArg some (by kernel_rfl))
  f20 := Tryz.func171.trans (congrArg some (by kernel_rfl))
  f21 := ⟨Tryz.f161.name, by decide, Tryz.func161.trans (congrArg some (by kernel_rfl))⟩
  f22 := ⟨Tryz.f162.name, by decide, Tryz.func162.trans (congrArg some (by kernel_rfl))⟩
  f23 := ⟨Tryz.f163.name, by decide, Tryz.func163.trans (congrArg some (by kernel_rfl))⟩
  f24 := ⟨Tryz.f164.name, by decide, Tryz.func164.trans (congrArg some (by kernel_rfl))⟩
  f25 := ⟨Tryz.f165.name, by decide, Tryz.func165.trans (congrArg some (by kernel_rfl))⟩
  f26 := ⟨Tryz.f166.name, by decide, Tryz.func166.trans (congrArg some (by kernel_rfl))⟩
  f27 := ⟨Tryz.f167.name, by decide, Tryz.func167.trans (congrArg some (by kernel_rfl))⟩
  f28 := ⟨Tryz.f168.name, by decide, Tryz.func168.trans (congrArg some (by kernel_rfl))⟩
  f29 := ⟨Tryz.f169.name, by decide, Tryz.func169.trans (congrArg some (by kernel_rfl))⟩
  f31 := Tryz.func184.trans (congrArg some (by kernel_rfl))
  f32 := Tryz.func185.trans (congrArg some (by kernel_rfl))
  f36 := ⟨Tryz.f183.name, by decide, Tryz.func183.trans (congrArg some (by kernel_rfl))⟩
  f37 := ⟨Tryz.f186.name, by decide, Tryz.func186.trans (congrArg some (by kernel_rfl))⟩
  f38 := ⟨Tryz.f187.name, by decide, Tryz.func187.trans (congrArg some (by kernel_rfl))⟩
  f39 := ⟨Tryz.f188.name, by decide, Tryz.func188.trans (congrArg some (by kernel_rfl))⟩
  f41 := ⟨Tryz.f198.name, by decide, Tryz.func198.trans (congrArg some (by kernel_rfl))⟩
  t0 := Tryz.underlying0
  a0 := Tryz.isAgg0
  z0 := Tryz.sizeOf0
  v0 := Tryz.zeroValue0
  t3 := Tryz.underlying3
  a3 := Tryz.isAgg3
  z3 := Tryz.sizeOf3
  v3 := Tryz.zeroValue3
  t4 := Tryz.underlying4
  a4 := Tryz.isAgg4
  z4 := Tryz.sizeOf4
  v4 := Tryz.zeroValue4
  t5 := Tryz.underlying5
  a5 := Tryz.isAgg5
  z5 := Tryz.sizeOf5
  v5 := Tryz.zeroValue5
  t9 := Tryz.underlying9
  a9 := Tryz.isAgg9
  z9 := Tryz.sizeOf9
  v9 := Tryz.zeroValue9
  t26 := Tryz.underlying25
  a26 := Tryz.isAgg25
  z26 := Tryz.sizeOf25
  v26 := Tryz.zeroValue25
  t27 := Tryz.underlying25
  a27 := Tryz.isAgg25
  z27 := Tryz.sizeOf25
  v27 := Tryz.zeroValue25
  t29 := Tryz.underlying9
  a29 := Tryz.isAgg9
  z29 := Tryz.sizeOf9
  v29 := Tryz.zeroValue9
  t32 := Tryz.underlying230
  a32 := Tryz.isAgg230
  z32 := Tryz.sizeOf230
  v32 := Tryz.zeroValue230
  t35 := Tryz.underlying252
  a35 := Tryz.isAgg252
  z35 := Tryz.sizeOf252
  v35 := Tryz.zeroValue252
  t36 := Tryz.underlying253
  a36 := Tryz.isAgg253
  z36 := Tryz.sizeOf253
  v36 := Tryz.zeroValue253
  t41 := Tryz.underlying227
  a41 := Tryz.isAgg227
  z41 := Tryz.sizeOf227
  v41 := Tryz.zeroValue227
  t44 := Tryz.underlying242
  a44 := Tryz.isAgg242
  z44 := Tryz.sizeOf242
  v44 := Tryz.zeroValue242
  t46 := Tryz.underlying245
  a46 := Tryz.isAgg245
  z46 := Tryz.sizeOf245
  v46 := Tryz.zeroValue245
  t53 := Tryz.underlying268
  a53 := Tryz.isAgg268
  z53 := Tryz.sizeOf268
  v53 := Tryz.zeroValue268
  t57 := Tryz.underlying272
  a57 := Tryz.isAgg272
  z57 := Tryz.sizeOf272
  v57 := Tryz.zeroValue272
  t63 := Tryz.underlying277
  a63 := Tryz.isAgg277
  z63 := Tryz.sizeOf277
  v63 := Tryz.zeroValue277
  t64 := Tryz.underlying64
  a64 := Tryz.isAgg64
  z64 := Tryz.sizeOf64
  v64 := Tryz.zeroValue64 }
open Go.RowKit Go.Maps Go.Sort in
theorem Tryz.sorts108 (m : Nat) : AnyZ.SortsIn Tryz.prog Tryz.sorted108_ren Fence.wide m :=
  ⟨fun blk off cap ss W hH hblk hsz => callsIn_wide.2 (AnyM.slices_Sort_string Tryz.sort131 blk off cap ss W hH hblk hsz),
   fun p cap W => callsIn_wide.2 (AnyM.slices_Sort_string_none Tryz.sort131 p cap W)⟩
open Go.RowKit Go.Maps Go.Sort in
theorem Tryz.maps_Keys_109 (mb : Option Nat) (W : World) : CallsIn Fence.wide 5 Tryz.prog 109 #[.map mb] W fun e w' => e = .returned (.func (.func 132) #[] #[.pointer (some ⟨W.heap.size, 0, none⟩)]) ∧ w' = W.alloc (.cells #[.map mb] 126) :=
  AnyZ.keys_in Tryz.keys109 Fence.wide 5 trivial rfl mb W
end Go.Proofs
