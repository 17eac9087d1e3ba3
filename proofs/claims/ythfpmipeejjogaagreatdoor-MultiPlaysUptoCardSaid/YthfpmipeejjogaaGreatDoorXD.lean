/- GLib, GPath, GR2, PaA -/
import Derived.Test.YthfpmipeejjogaaGreatDoorXC
set_option maxRecDepth 100000
set_option maxHeartbeats 4000000
set_option linter.unusedVariables false
set_option linter.unusedSimpArgs false
open Go.IntKind (i64)
open Go.Proofs.Tryz
namespace Go.Proofs.YthfpmipeejjogaaGreatDoor
namespace G
open Go SL
variable {B : World} {ro σ : AH}
def j2_slices_DeleteFunc_string_string (B : World) (ro : AH) (a0 : Sl) (Q : Sl → AH → Prop) (u0 : Int) (σ : AH) : Prop :=
 cutOk (some u0) none a0.len a0.cap ∧
 awp prog ro (Builtin.clear_ #[25] 0 #[Sl.v (⟨cutA a0.a (Int.toNat u0) a0.cap 1, a0.len - Int.toNat u0, a0.cap - Int.toNat u0⟩ : Sl)]) (fun v σ => v = .tuple #[] ∧
 cutOk none (some u0) a0.len a0.cap ∧
 Q (⟨cutA a0.a (0) a0.cap 1, Int.toNat u0 - 0, a0.cap - 0⟩ : Sl) σ) σ
def j7_slices_DeleteFunc_string_string (B : World) (ro : AH) (a0 : Sl) (a1 : Value) (u0 : Int) (Q : Sl → AH → Prop) (Y4 : (Int × Int) → AH → Prop) (u1 : Int) (σ : AH) : Prop :=
 Y4 (u1, i64.wrap (u0 + 1)) σ
def l4_slices_DeleteFunc_string_string (B : World) (ro : AH) (a0 : Sl) (a1 : Value) (Q : Sl → AH → Prop) : (Int × Int) → AH → ((Int × Int) → AH → Prop) → Prop := fun ⟨u0, u1⟩ σ Y4 =>
 if u1 < (a0.len : Int) then
 ∃ p2, a0.a = some p2 ∧ (0 : Int) ≤ u1 ∧ u1 < (a0.len : Int) ∧
 ∃ u3, acell ro σ (p2.add (Int.toNat u1 * 1)) = some (.string u3) ∧
 callV prog B ro a1 [.string u3] σ (fun v σ => ∃ (u4 : Bool), v = .bool u4 ∧
  if ¬ (u4 = true) then
  ∃ p5, a0.a = some p5 ∧ (0 : Int) ≤ u0 ∧ u0 < (a0.len : Int) ∧
  stN (p5.add (Int.toNat u0 * 1)) (fun σ =>
   j7_slices_DeleteFunc_string_string B ro a0 a1 u1 Q Y4 (i64.wrap (u0 + 1)) σ) [.string u3] 0 σ
  else
  j7_slices_DeleteFunc_string_string B ro a0 a1 u1 Q Y4 u0 σ)
 else
 j2_slices_DeleteFunc_string_string B ro a0 Q u0 σ
def f_slices_DeleteFunc_string_string (B : World) (ro : AH) (a0 : Sl) (a1 : Value) (σ : AH) (Q : Sl → AH → Prop) : Prop :=
 c_slices_IndexFunc_string_string B ro a0 a1 σ fun u0 σ =>
 if u0 = (-1) then
 Q a0 σ
 else
 lfpD (l4_slices_DeleteFunc_string_string B ro a0 a1 Q ) (u0, i64.wrap (u0 + 1)) σ
theorem slices_DeleteFunc_string_string_ok {a0 : Sl} {a1 : Value} {Q : Sl → AH → Prop} (h : Sep ro σ → f_slices_DeleteFunc_string_string B ro a0 a1 σ Q) : c_slices_DeleteFunc_string_string B ro a0 a1 σ Q := by
 refine zb h func56 ntmps56 fun h => ?_; unfold f_slices_DeleteFunc_string_string at h; refine z3 ?_; refine zp ?_; refine z4 ?_; iterate 2 refine zp ?_
 refine zc func107 h ?_; rintro v σ ⟨u0, rfl, h⟩; refine zp ?_; refine z2 (AW.seq (z3 ?_))
 iterate 2 refine zp ?_
 refine z2 ?_; refine zi h (fun h => ?_) fun h => ?_
 ·refine z3 ?_; iterate 2 refine zp ?_
  refine z2 ?_; refine AW.ret ?_; refine thenR ?_; exact bR1 results56 rfl ⟨_, rfl, h⟩
 refine AW.skip ?_; refine thenN ?_; refine AW.seqJ (fun fr σ => ∃ (u1 : Int), FrLe [(0, Sl.v a0), (5, .int .i64 u1)] fr ∧ j2_slices_DeleteFunc_string_string B ro a0 Q u1 σ) ?_ ?_
 ·rintro fr σ ⟨u1, hl, h⟩; refine AW.weaken ?_ hl (HLe.refl _)
  unfold j2_slices_DeleteFunc_string_string at h; refine z3 ?_; iterate 2 refine zp ?_
  obtain ⟨hc, h⟩ := h
  refine zm (V_slL (lo := (some u1)) (hi := none) rfl underlying25 ty9 rfl (optI_some rfl) optI_none hc) ?_; refine zl (X_bi (s := Builtin.clear_ #[25] 0 #[Sl.v (⟨cutA a0.a (Int.toNat u1) a0.cap 1, a0.len - Int.toNat u1, a0.cap - Int.toNat u1⟩ : Sl)]) rfl rfl (fun _ => rfl) (awp_mono _ h ?_))
  rintro v σ ⟨rfl, h⟩; refine z4 ?_; iterate 2 refine zp ?_
  obtain ⟨hc, h⟩ := h
  refine zm (V_slL (lo := none) (hi := (some u1)) rfl underlying25 ty9 rfl optI_none (optI_some rfl) hc) ?_; refine zp ?_; refine z2 ?_; refine AW.ret ?_; exact bR1 results56 rfl ⟨_, rfl, h⟩
 refine z3 ?_; iterate 3 refine zp ?_
 refine z2 (AW.block ?_)
 refine ARound.loop (fr' := [(0, Sl.v a0), (1, a1), (5, .int .i64 u0), (6, .int .i64 (i64.wrap (u0 + 1)))]) ?_ FL
 refine h (fun ⟨u2, u3⟩ σ => ARound _ _ _ _ _ _ [(0, Sl.v a0), (1, a1), (5, .int .i64 u2), (6, .int .i64 u3)] σ) ?_
 rintro ⟨u2, u3⟩ σ Y4 hY4 h
 show AW _ _ _ _ _ _ _ _
 unfold l4_slices_DeleteFunc_string_string at h; dsimp only at h; refine AW.seq (z3 ?_); iterate 2 refine zp ?_
 refine zm (V_lenL rfl rfl underlying25 rfl rfl) ?_; refine zp ?_; refine z2 ?_; refine zi h (fun h => ?_) fun h => ?_
 rotate_left
 ·refine AW.exit ?_; refine thenE (thenE ?_); refine blockE ?_
  refine thenN ?_; exact ⟨_, FL, h⟩
 refine AW.skip ?_; refine thenN ?_; refine AW.seqJ (fun fr σ => ∃ (u4 : Int), FrLe [(0, Sl.v a0), (1, a1), (6, .int .i64 u3), (5, .int .i64 u4)] fr ∧ j7_slices_DeleteFunc_string_string B ro a0 a1 u3 Q Y4 u4 σ) ?_ ?_
 ·rintro fr σ ⟨u4, hl, h⟩; refine AW.weaken ?_ hl (HLe.refl _)
  unfold j7_slices_DeleteFunc_string_string at h; refine AW.reg ?_; iterate 3 refine zp ?_
  refine z2 ?_; refine ARound.head (fr' := [(0, Sl.v a0), (1, a1), (5, .int .i64 u4), (6, .int .i64 (i64.wrap (u3 + 1)))]) ?_ FL
  exact hY4 _ _ h
 refine AW.block (z3 ?_); iterate 2 refine zp ?_
 obtain ⟨p5, ha, h0, h1, h⟩ := h
 refine zm (V_ixA rfl underlying25 ty9 (ixL rfl ha) rfl h0 h1) ?_; refine zL underlying9 h fun u6 h => ?_; refine zp ?_; refine z4 ?_; iterate 2 refine zp ?_
 refine zl (X_callV rfl rfl rfl (callV_mono h ?_))
 rintro v σ ⟨u7, rfl, h⟩; refine zp ?_; refine z2 ?_; refine AW.iff rfl (bnot_iff Iff.rfl) h (fun h => ?_) (fun h => ?_)
 rotate_left
 ·refine AW.skip ?_; refine blockN (thenN ?_); exact ⟨_, FL, h⟩
 refine z3 ?_; iterate 3 refine zp ?_
 obtain ⟨p8, ha, h0, h1, h⟩ := h
 refine zm (V_ixA rfl underlying25 ty9 (ixL rfl ha) rfl h0 h1) ?_; refine zs ty9 h fun σ h => ?_; refine z2 (AW.reg ?_)
 iterate 3 refine zp ?_
 refine Lnil (blockN (thenN ?_)); exact ⟨_, FL, h⟩
def f_bytes_Clone (B : World) (ro : AH) (a0 : Sl) (σ : AH) (Q : Sl → AH → Prop) : Prop :=
 if a0.a = none then
 Q (⟨none, 0, 0⟩ : Sl) σ
 else
 nw ro σ (.cells #[] 5) fun u0 σ =>
 awp prog ro (Builtin.append_ #[30, 30] 30 #[Sl.v (⟨some ⟨u0, 0, none⟩, 0, 0⟩ : Sl), Sl.v a0]) (fun v σ => ∃ (u1 : Sl), v = Sl.v u1 ∧
 Q u1 σ) σ
theorem bytes_Clone_ok {a0 : Sl} {Q : Sl → AH → Prop} (h : Sep ro σ → f_bytes_Clone B ro a0 σ Q) : c_bytes_Clone B ro a0 σ Q := by
 refine zb h func61 ntmps61 fun h => ?_; unfold f_bytes_Clone at h; refine z3 ?_; refine zp ?_; refine z2 (AW.seq (z3 ?_))
 refine zp ?_; refine zm (V_eqL rfl underlying30 rfl rfl) ?_; refine z2 ?_; refine AW.iff rfl isNone_iff h (fun h => ?_) (fun h => ?_)
 ·refine z3 ?_; refine zp ?_; refine z2 ?_; refine AW.ret ?_; refine thenR ?_; exact bR1 results61 rfl ⟨_, rfl, h⟩
 refine AW.skip ?_; refine thenN (z3 ?_); refine zA (A_bsl (vs := []) (cs := #[]) rfl underlying30 ty5 (by decide) rfl rfl) h fun u0 h => ?_; refine zp ?_; refine zl (X_bi (s := Builtin.append_ #[30, 30] 30 #[Sl.v (⟨some ⟨u0, 0, none⟩, 0, 0⟩ : Sl), Sl.v a0]) rfl rfl (fun _ => rfl) (awp_mono _ h ?_))
 rintro v σ ⟨u1, rfl, h⟩; refine zp ?_; refine z2 ?_; refine AW.ret ?_; exact bR1 results61 rfl ⟨_, rfl, h⟩
def f_slices_Backward_string_string (B : World) (ro : AH) (a0 : Sl) (σ : AH) (Q : Value → AH → Prop) : Prop :=
 nw ro σ (.cells #[Sl.v a0] 25) fun u0 σ =>
 Q (.func (.func 126) #[] #[.pointer (some ⟨u0, 0, none⟩)]) σ
theorem slices_Backward_string_string_ok {a0 : Sl} {Q : Value → AH → Prop} (h : Sep ro σ → f_slices_Backward_string_string B ro a0 σ Q) : c_slices_Backward_string_string B ro a0 σ Q := by
 refine zb h func101 ntmps101 fun h => ?_; unfold f_slices_Backward_string_string at h; refine z3 ?_; refine zA (A_box rfl rfl) h fun u0 h => ?_; refine zp ?_; refine z4 ?_; refine zm (V_mkf rfl rfl rfl) ?_; refine zp ?_; refine z2 ?_; refine AW.ret ?_; exact bR1 results101 rfl ⟨_, rfl, h⟩
def j1_slices_IndexFunc_string_string (B : World) (ro : AH) (Q : Int → AH → Prop) (σ : AH) : Prop :=
 Q (-1) σ
def l2_slices_IndexFunc_string_string (B : World) (ro : AH) (a0 : Sl) (a1 : Value) (Q : Int → AH → Prop) : (Int) → AH → ((Int) → AH → Prop) → Prop := fun u0 σ Y2 =>
 if u0 < (a0.len : Int) then
 ∃ p1, a0.a = some p1 ∧ (0 : Int) ≤ u0 ∧ u0 < (a0.len : Int) ∧
 ∃ u2, acell ro σ (p1.add (Int.toNat u0 * 1)) = some (.string u2) ∧
 callV prog B ro a1 [.string u2] σ (fun v σ => ∃ (u3 : Bool), v = .bool u3 ∧
  if u3 = true then
  Q u0 σ
  else
  Y2 (i64.wrap (u0 + 1)) σ)
 else
 j1_slices_IndexFunc_string_string B ro Q σ
def f_slices_IndexFunc_string_string (B : World) (ro : AH) (a0 : Sl) (a1 : Value) (σ : AH) (Q : Int → AH → Prop) : Prop :=
 lfpD (l2_slices_IndexFunc_string_string B ro a0 a1 Q ) (0) σ
theorem slices_IndexFunc_string_string_ok {a0 : Sl} {a1 : Value} {Q : Int → AH → Prop} (h : Sep ro σ → f_slices_IndexFunc_string_string B ro a0 a1 σ Q) : c_slices_IndexFunc_string_string B ro a0 a1 σ Q := by
 refine zb h func107 ntmps107 fun h => ?_; unfold f_slices_IndexFunc_string_string at h; refine z3 ?_; refine zp ?_; refine z2 ?_; refine AW.seqJ (fun fr σ => FrLe [] fr ∧ j1_slices_IndexFunc_string_string B ro Q σ) ?_ ?_
 ·rintro fr σ ⟨hl, h⟩; refine AW.weaken ?_ hl (HLe.refl _)
  unfold j1_slices_IndexFunc_string_string at h; refine z3 ?_; refine zp ?_; refine z2 ?_; refine AW.ret ?_; exact bR1 results107 rfl ⟨_, rfl, h⟩
 refine z3 ?_; refine zp ?_; refine zm (V_lenL rfl rfl underlying25 rfl rfl) ?_; refine zp ?_; refine z2 (AW.block ?_)
 refine ARound.loop (fr' := [(0, Sl.v a0), (1, a1), (7, .int .i64 (a0.len : Int)), (8, .int .i64 0)]) ?_ FL
 refine h (fun u0 σ => ARound _ _ _ _ _ _ [(0, Sl.v a0), (1, a1), (7, .int .i64 (a0.len : Int)), (8, .int .i64 u0)] σ) ?_
 rintro u0 σ Y2 hY2 h
 show AW _ _ _ _ _ _ _ _
 unfold l2_slices_IndexFunc_string_string at h; refine z3 ?_; refine zp ?_; refine z2 (AW.seq ?_)
 refine zi h (fun h => ?_) fun h => ?_
 rotate_left
 ·refine AW.exit ?_; refine thenE (thenE ?_); refine blockE ?_
  refine thenN ?_; exact ⟨FL, h⟩
 refine AW.skip ?_; refine thenN (AW.seq (AW.block (z3 ?_))); iterate 2 refine zp ?_
 refine z4 ?_; iterate 3 refine zp ?_
 obtain ⟨p1, ha, h0, h1, h⟩ := h
 refine zm (V_ixA rfl underlying25 ty9 (ixL rfl ha) rfl h0 h1) ?_; refine zL underlying9 h fun u2 h => ?_; refine zl (X_callV rfl rfl rfl (callV_mono h ?_))
 rintro v σ ⟨u3, rfl, h⟩; refine z2 ?_; refine zj h (fun h => ?_) fun h => ?_
 ·refine z3 ?_; iterate 2 refine zp ?_
  refine z2 ?_; refine AW.ret ?_; refine blockR (thenR (thenR (blockR (thenR ?_)))); exact bR1 results107 rfl ⟨_, rfl, h⟩
 refine AW.skip ?_; refine blockN (thenN (AW.reg ?_)); iterate 2 refine zp ?_
 refine z2 ?_; refine ARound.head (fr' := [(0, Sl.v a0), (1, a1), (7, .int .i64 (a0.len : Int)), (8, .int .i64 (i64.wrap (u0 + 1)))]) ?_ FL
 exact hY2 _ _ h
def f_strings_HasPrefix (B : World) (ro : AH) (a0 : ByteArray) (a1 : ByteArray) (σ : AH) (Q : Bool → AH → Prop) : Prop :=
 c_stringslite_HasPrefix B ro a0 a1 σ fun u0 σ =>
 Q u0 σ
theorem strings_HasPrefix_ok {a0 : ByteArray} {a1 : ByteArray} {Q : Bool → AH → Prop} (h : Sep ro σ → f_strings_HasPrefix B ro a0 a1 σ Q) : c_strings_HasPrefix B ro a0 a1 σ Q := by
 refine zb h func110 ntmps110 fun h => ?_; unfold f_strings_HasPrefix at h; refine z3 ?_; refine zp ?_; refine z4 ?_; iterate 2 refine zp ?_
 refine zc func133 h ?_; rintro v σ ⟨u0, rfl, h⟩; refine zp ?_; refine z2 ?_; refine AW.ret ?_; exact bR1 results110 rfl ⟨_, rfl, h⟩
def f_strings_LastIndexByte (B : World) (ro : AH) (a0 : ByteArray) (a1 : Int) (σ : AH) (Q : Int → AH → Prop) : Prop :=
 c_bytealg_LastIndexByteString B ro a0 a1 σ fun u0 σ =>
 Q u0 σ
theorem strings_LastIndexByte_ok {a0 : ByteArray} {a1 : Int} {Q : Int → AH → Prop} (h : Sep ro σ → f_strings_LastIndexByte B ro a0 a1 σ Q) : c_strings_LastIndexByte B ro a0 a1 σ Q := by
 refine zb h func111 ntmps111 fun h => ?_; unfold f_strings_LastIndexByte at h; refine z3 ?_; refine zp ?_; refine z4 ?_; iterate 2 refine zp ?_
 refine zc func134 h ?_; rintro v σ ⟨u0, rfl, h⟩; refine zp ?_; refine z2 ?_; refine AW.ret ?_; exact bR1 results111 rfl ⟨_, rfl, h⟩
def f_slices_Contains_int_int (B : World) (ro : AH) (a0 : Sl) (a1 : Int) (σ : AH) (Q : Bool → AH → Prop) : Prop :=
 c_slices_Index_int_int B ro a0 a1 σ fun u0 σ =>
 Q (decide (0 ≤ u0)) σ
theorem slices_Contains_int_int_ok {a0 : Sl} {a1 : Int} {Q : Bool → AH → Prop} (h : Sep ro σ → f_slices_Contains_int_int B ro a0 a1 σ Q) : c_slices_Contains_int_int B ro a0 a1 σ Q := by
 refine zb h func121 ntmps121 fun h => ?_; unfold f_slices_Contains_int_int at h; refine z3 ?_; refine zp ?_; refine z4 ?_; iterate 2 refine zp ?_
 refine zc func145 h ?_; rintro v σ ⟨u0, rfl, h⟩; iterate 2 refine zp ?_
 refine z2 ?_; refine AW.ret ?_; exact bR1 results121 rfl ⟨_, rfl, h⟩
def j1_stringslite_HasPrefix (B : World) (ro : AH) (Q : Bool → AH → Prop) (u0 : Bool) (σ : AH) : Prop :=
 Q u0 σ
def f_stringslite_HasPrefix (B : World) (ro : AH) (a0 : ByteArray) (a1 : ByteArray) (σ : AH) (Q : Bool → AH → Prop) : Prop :=
 if (a1.size : Int) ≤ (a0.size : Int) then
 cutOk none (some (a1.size : Int)) a0.size a0.size ∧
 j1_stringslite_HasPrefix B ro Q (decide ((a0.extract (0) (Int.toNat (a1.size : Int))) = a1)) σ
 else
 j1_stringslite_HasPrefix B ro Q false σ
theorem stringslite_HasPrefix_ok {a0 : ByteArray} {a1 : ByteArray} {Q : Bool → AH → Prop} (h : Sep ro σ → f_stringslite_HasPrefix B ro a0 a1 σ Q) : c_stringslite_HasPrefix B ro a0 a1 σ Q := by
 refine zb h func133 ntmps133 fun h => ?_; unfold f_stringslite_HasPrefix at h; refine z3 ?_; refine zp ?_; refine z4 ?_; refine zp ?_; refine zm (V_lenS rfl rfl underlying9 rfl rfl) ?_; refine zp ?_; refine zm (V_lenS rfl rfl underlying9 rfl rfl) ?_; iterate 2 refine zp ?_
 refine LsplitJ 7 (decide ((a1.size : Int) ≤ (a0.size : Int))) decide_eq_true_iff h (fun fr σ => ∃ (u0 : Bool), FrLe [(17, .bool u0)] fr ∧ j1_stringslite_HasPrefix B ro Q u0 σ) ?_ ?_ ?_
 ·intro h e5 hk5; refine zy e5 ?_; refine zy e5 ?_; refine Lypb (V_lenS rfl rfl underlying9 rfl rfl) rfl rfl rfl rfl e5 ?_
  obtain ⟨hc, h⟩ := h
  refine Lypb (V_slS (lo := none) (hi := (some (a1.size : Int))) rfl underlying9 rfl optI_none (optI_some rfl) hc) rfl rfl rfl rfl e5 ?_
  refine zy e5 ?_; refine zy e5 ?_; refine zk e5 ?_; exact hk5 _ _ ⟨_, FL, h⟩
 ·intro h e5 hk5; iterate 6 refine zn e5 ?_
  refine zk e5 ?_; exact hk5 _ _ ⟨_, FL, h⟩
 rintro fr σ ⟨u0, hl, h⟩; unfold j1_stringslite_HasPrefix at h; refine Lfr hl ?_
 refine zp ?_; refine z2 ?_; refine AW.ret ?_; exact bR1 results133 rfl ⟨_, rfl, h⟩
def j1_bytealg_LastIndexByteString (B : World) (ro : AH) (Q : Int → AH → Prop) (σ : AH) : Prop :=
 Q (-1) σ
def l2_bytealg_LastIndexByteString (B : World) (ro : AH) (a0 : ByteArray) (a1 : Int) (Q : Int → AH → Prop) : (Int) → AH → ((Int) → AH → Prop) → Prop := fun u0 σ Y2 =>
 if 0 ≤ u0 then
 ∃ u1 : UInt8, (0 : Int) ≤ u0 ∧ a0[Int.toNat u0]? = some u1 ∧
 if (u1.toNat : Int) = a1 then
  Q u0 σ
 else
 Y2 (i64.wrap (u0 - 1)) σ
 else
 j1_bytealg_LastIndexByteString B ro Q σ
def f_bytealg_LastIndexByteString (B : World) (ro : AH) (a0 : ByteArray) (a1 : Int) (σ : AH) (Q : Int → AH → Prop) : Prop :=
 lfpD (l2_bytealg_LastIndexByteString B ro a0 a1 Q ) (i64.wrap ((a0.size : Int) - 1)) σ
theorem bytealg_LastIndexByteString_ok {a0 : ByteArray} {a1 : Int} {Q : Int → AH → Prop} (h : Sep ro σ → f_bytealg_LastIndexByteString B ro a0 a1 σ Q) : c_bytealg_LastIndexByteString B ro a0 a1 σ Q := by
 refine zb h func134 ntmps134 fun h => ?_; unfold f_bytealg_LastIndexByteString at h; refine z3 ?_; refine zp ?_; refine z2 ?_; refine AW.seqJ (fun fr σ => FrLe [] fr ∧ j1_bytealg_LastIndexByteString B ro Q σ) ?_ ?_
 ·rintro fr σ ⟨hl, h⟩; refine AW.weaken ?_ hl (HLe.refl _)
  unfold j1_bytealg_LastIndexByteString at h; refine z3 ?_; refine zp ?_; refine z2 ?_; refine AW.ret ?_; exact bR1 results134 rfl ⟨_, rfl, h⟩
 refine z3 ?_; refine zp ?_; refine zm (V_lenS rfl rfl underlying9 rfl rfl) ?_; iterate 2 refine zp ?_
 refine z2 (AW.block ?_)
 refine ARound.loop (fr' := [(0, .string a0), (1, .int .u8 a1), (5, .int .i64 (i64.wrap ((a0.size : Int) - 1)))]) ?_ FL
 refine h (fun u0 σ => ARound _ _ _ _ _ _ [(0, .string a0), (1, .int .u8 a1), (5, .int .i64 u0)] σ) ?_
 rintro u0 σ Y2 hY2 h
 show AW _ _ _ _ _ _ _ _
 unfold l2_bytealg_LastIndexByteString at h; refine AW.seq (z3 ?_); iterate 2 refine zp ?_
 refine z2 ?_; refine zi h (fun h => ?_) fun h => ?_
 rotate_left
 ·refine AW.exit ?_; refine thenE (thenE ?_); refine blockE ?_
  refine thenN ?_; exact ⟨FL, h⟩
 refine AW.skip ?_; refine thenN (AW.seq (AW.block (z3 ?_))); iterate 2 refine zp ?_
 obtain ⟨u1, h0, hc, h⟩ := h
 refine zm (V_idxS rfl underlying9 rfl rfl h0 hc) ?_; iterate 2 refine zp ?_
 refine z2 ?_; refine zi h (fun h => ?_) fun h => ?_
 ·refine z3 ?_; iterate 2 refine zp ?_
  refine z2 ?_; refine AW.ret ?_; refine blockR (thenR (thenR (blockR (thenR ?_)))); exact bR1 results134 rfl ⟨_, rfl, h⟩
 refine AW.skip ?_; refine blockN (thenN (AW.reg ?_)); iterate 3 refine zp ?_
 refine z2 ?_; refine ARound.head (fr' := [(0, .string a0), (1, .int .u8 a1), (5, .int .i64 (i64.wrap (u0 - 1)))]) ?_ FL
 exact hY2 _ _ h
def j1_slices_Index_int_int (B : World) (ro : AH) (Q : Int → AH → Prop) (σ : AH) : Prop :=
 Q (-1) σ
def l2_slices_Index_int_int (B : World) (ro : AH) (a0 : Sl) (a1 : Int) (Q : Int → AH → Prop) : (Int) → AH → ((Int) → AH → Prop) → Prop := fun u0 σ Y2 =>
 if u0 < (a0.len : Int) then
 ∃ p1, a0.a = some p1 ∧ (0 : Int) ≤ u0 ∧ u0 < (a0.len : Int) ∧
 ∃ u2, acell ro σ (p1.add (Int.toNat u0 * 1)) = some (.int .i64 u2) ∧
 if a1 = u2 then
  Q u0 σ
 else
 Y2 (i64.wrap (u0 + 1)) σ
 else
 j1_slices_Index_int_int B ro Q σ
def f_slices_Index_int_int (B : World) (ro : AH) (a0 : Sl) (a1 : Int) (σ : AH) (Q : Int → AH → Prop) : Prop :=
 lfpD (l2_slices_Index_int_int B ro a0 a1 Q ) (0) σ
theorem slices_Index_int_int_ok {a0 : Sl} {a1 : Int} {Q : Int → AH → Prop} (h : Sep ro σ → f_slices_Index_int_int B ro a0 a1 σ Q) : c_slices_Index_int_int B ro a0 a1 σ Q := by
 refine zb h func145 ntmps145 fun h => ?_; unfold f_slices_Index_int_int at h; refine z3 ?_; refine zp ?_; refine z2 ?_; refine AW.seqJ (fun fr σ => FrLe [] fr ∧ j1_slices_Index_int_int B ro Q σ) ?_ ?_
 ·rintro fr σ ⟨hl, h⟩; refine AW.weaken ?_ hl (HLe.refl _)
  unfold j1_slices_Index_int_int at h; refine z3 ?_; refine zp ?_; refine z2 ?_; refine AW.ret ?_; exact bR1 results145 rfl ⟨_, rfl, h⟩
 refine z3 ?_; refine zp ?_; refine zm (V_lenL rfl rfl underlying58 rfl rfl) ?_; refine zp ?_; refine z2 (AW.block ?_)
 refine ARound.loop (fr' := [(0, Sl.v a0), (1, .int .i64 a1), (7, .int .i64 (a0.len : Int)), (8, .int .i64 0)]) ?_ FL
 refine h (fun u0 σ => ARound _ _ _ _ _ _ [(0, Sl.v a0), (1, .int .i64 a1), (7, .int .i64 (a0.len : Int)), (8, .int .i64 u0)] σ) ?_
 rintro u0 σ Y2 hY2 h
 show AW _ _ _ _ _ _ _ _
 unfold l2_slices_Index_int_int at h; refine z3 ?_; refine zp ?_; refine z2 (AW.seq ?_)
 refine zi h (fun h => ?_) fun h => ?_
 rotate_left
 ·refine AW.exit ?_; refine thenE (thenE ?_); refine blockE ?_
  refine thenN ?_; exact ⟨FL, h⟩
 refine AW.skip ?_; refine thenN (AW.seq (AW.block (z3 ?_))); iterate 2 refine zp ?_
 refine z4 ?_; iterate 3 refine zp ?_
 obtain ⟨p1, ha, h0, h1, h⟩ := h
 refine zm (V_ixA rfl underlying58 ty3 (ixL rfl ha) rfl h0 h1) ?_; refine zL underlying3 h fun u2 h => ?_; refine zp ?_; refine z2 ?_; refine zi h (fun h => ?_) fun h => ?_
 ·refine z3 ?_; iterate 2 refine zp ?_
  refine z2 ?_; refine AW.ret ?_; refine blockR (thenR (thenR (blockR (thenR ?_)))); exact bR1 results145 rfl ⟨_, rfl, h⟩
 refine AW.skip ?_; refine blockN (thenN (AW.reg ?_)); iterate 2 refine zp ?_
 refine z2 ?_; refine ARound.head (fr' := [(0, Sl.v a0), (1, .int .i64 a1), (7, .int .i64 (a0.len : Int)), (8, .int .i64 (i64.wrap (u0 + 1)))]) ?_ FL
 exact hY2 _ _ h
def f_path_Check (B : World) (ro : AH) (a0 : ByteArray) (σ : AH) (Q : Int → AH → Prop) : Prop :=
 c_path_Parts B ro a0 σ fun u0 u1 σ =>
 Q u1 σ
theorem path_Check_ok {a0 : ByteArray} {Q : Int → AH → Prop} (h : Sep ro σ → f_path_Check B ro a0 σ Q) : c_path_Check B ro a0 σ Q := by
 refine zb h func55 ntmps55 fun h => ?_; unfold f_path_Check at h; refine z3 ?_; refine zp ?_; refine z4 ?_; refine zp ?_; refine zc func106 h ?_; rintro v σ ⟨u0, u1, rfl, h⟩; iterate 5 refine zp ?_
 refine z4 ?_; iterate 2 refine zp ?_
 refine z2 ?_; refine AW.ret ?_; exact bR1 results55 rfl ⟨_, rfl, h⟩
def j4_path_Under (B : World) (ro : AH) (Q : Bool → Int → AH → Prop) (u0 : Bool) (σ : AH) : Prop :=
 Q u0 0 σ
def j2_path_Under (B : World) (ro : AH) (a0 : ByteArray) (a1 : ByteArray) (Q : Bool → Int → AH → Prop) (u0 : Bool) (σ : AH) : Prop :=
 if u0 = true then
 Q false 20 σ
 else
 if (a0 = (⟨#[47]⟩ : ByteArray)) ∨ (a1 = a0) then
 j4_path_Under B ro Q true σ
 else
 a0.size + (⟨#[47]⟩ : ByteArray).size ≤ 9223372036854775807 ∧
 c_strings_HasPrefix B ro a1 (a0 ++ (⟨#[47]⟩ : ByteArray)) σ fun u1 σ =>
 j4_path_Under B ro Q u1 σ
def f_path_Under (B : World) (ro : AH) (a0 : ByteArray) (a1 : ByteArray) (σ : AH) (Q : Bool → Int → AH → Prop) : Prop :=
 c_path_Check B ro a0 σ fun u0 σ =>
 if ¬ (u0 = 0) then
 j2_path_Under B ro a0 a1 Q true σ
 else
 c_path_Check B ro a1 σ fun u1 σ =>
 j2_path_Under B ro a0 a1 Q (!(decide (u1 = 0))) σ
theorem path_Under_ok {a0 : ByteArray} {a1 : ByteArray} {Q : Bool → Int → AH → Prop} (h : Sep ro σ → f_path_Under B ro a0 a1 σ Q) : c_path_Under B ro a0 a1 σ Q := by
 refine zb h func59 ntmps59 fun h => ?_; unfold f_path_Under at h; refine z3 ?_; iterate 2 refine zp ?_
 refine z2 (AW.seq (z3 ?_))
 refine zp ?_; refine zc func55 h ?_; rintro v σ ⟨u0, rfl, h⟩; iterate 2 refine zp ?_
 refine LsplitJ 4 (!(decide (u0 = 0))) (bnot_iff decide_eq_true_iff) h (fun fr σ => ∃ (u1 : Bool), FrLe [(0, .string a0), (1, .string a1), (13, .bool u1)] fr ∧ j2_path_Under B ro a0 a1 Q u1 σ) ?_ ?_ ?_
 ·intro h e3 hk3; iterate 3 refine zn e3 ?_
  refine zk e3 ?_; exact hk3 _ _ ⟨_, FL, h⟩
 ·intro h e3 hk3; refine zy e3 ?_; refine Lyb rfl rfl rfl rfl e3 (X_call rfl func55 rfl rfl rfl (ACalls.mono h ?_))
  rintro v σ ⟨u2, rfl, h⟩; refine zy e3 ?_; refine zk e3 ?_; exact hk3 _ _ ⟨_, FL, h⟩
 rintro fr σ ⟨u1, hl, h⟩; unfold j2_path_Under at h; refine Lfr hl ?_
 refine z2 ?_; refine zj h (fun h => ?_) fun h => ?_
 ·refine z3 ?_; iterate 2 refine zp ?_
  refine z2 ?_; refine AW.ret ?_; refine thenR ?_; exact bR2 results59 rfl rfl ⟨_, _, rfl, h⟩
 refine AW.skip ?_; refine thenN (z3 ?_); iterate 3 refine zp ?_
 refine Lsplit 4 (decide (a0 = (⟨#[47]⟩ : ByteArray))) [(0, .string a0), (1, .string a1), (20, .bool ((decide (a0 = (⟨#[47]⟩ : ByteArray))) || (decide (a1 = a0))))] ?_ ?_ ?_
 ·intro e2 hk2
  iterate 3 refine zn e2 ?_
  refine zk e2 ?_; exact hk2 _ (Fe e2)
 ·intro e2 hk2
  refine zy e2 ?_; refine zy e2 ?_; refine zy e2 ?_; refine zk e2 ?_; exact hk2 _ (Fe e2)
 intro fr hl
 refine Lfr hl ?_
 refine zp ?_; refine LsplitJ 5 ((decide (a0 = (⟨#[47]⟩ : ByteArray))) || (decide (a1 = a0))) (bor_iff decide_eq_true_iff decide_eq_true_iff) h (fun fr σ => ∃ (u3 : Bool), FrLe [(26, .bool u3)] fr ∧ j4_path_Under B ro Q u3 σ) ?_ ?_ ?_
 ·intro h e7 hk7; iterate 4 refine zn e7 ?_
  refine zk e7 ?_; exact hk7 _ _ ⟨_, FL, h⟩
 ·intro h e7 hk7; refine zy e7 ?_; refine zy e7 ?_; obtain ⟨hc, h⟩ := h
  refine Lypb (V_cat rfl rfl rfl hc) rfl rfl rfl rfl e7 ?_
  refine Lyb rfl rfl rfl rfl e7 (X_call rfl func110 rfl rfl rfl (ACalls.mono h ?_))
  rintro v σ ⟨u4, rfl, h⟩; refine zk e7 ?_; exact hk7 _ _ ⟨_, FL, h⟩
 rintro fr σ ⟨u3, hl, h⟩; unfold j4_path_Under at h; refine Lfr hl ?_
 iterate 2 refine zp ?_
 refine z2 ?_; refine AW.ret ?_; exact bR2 results59 rfl rfl ⟨_, _, rfl, h⟩
def j1_path_Parent (B : World) (ro : AH) (a0 : ByteArray) (Q : ByteArray → Int → AH → Prop) (u0 : Bool) (σ : AH) : Prop :=
 if u0 = true then
 Q (⟨#[]⟩ : ByteArray) 20 σ
 else
 c_strings_LastIndexByte B ro a0 47 σ fun u1 σ =>
 cutOk none (some (if 1 < u1 then u1 else 1)) a0.size a0.size ∧
 Q (a0.extract (0) (Int.toNat (if 1 < u1 then u1 else 1))) 0 σ
def f_path_Parent (B : World) (ro : AH) (a0 : ByteArray) (σ : AH) (Q : ByteArray → Int → AH → Prop) : Prop :=
 if a0 = (⟨#[47]⟩ : ByteArray) then
 j1_path_Parent B ro a0 Q true σ
 else
 c_path_Check B ro a0 σ fun u0 σ =>
 j1_path_Parent B ro a0 Q (!(decide (u0 = 0))) σ
theorem path_Parent_ok {a0 : ByteArray} {Q : ByteArray → Int → AH → Prop} (h : Sep ro σ → f_path_Parent B ro a0 σ Q) : c_path_Parent B ro a0 σ Q := by
 refine zb h func62 ntmps62 fun h => ?_; unfold f_path_Parent at h; refine z3 ?_; iterate 2 refine zp ?_
 refine z2 (AW.seq (z3 ?_))
 iterate 3 refine zp ?_
 refine LsplitJ 4 (decide (a0 = (⟨#[47]⟩ : ByteArray))) decide_eq_true_iff h (fun fr σ => ∃ (u0 : Bool), FrLe [(0, .string a0), (10, .bool u0)] fr ∧ j1_path_Parent B ro a0 Q u0 σ) ?_ ?_ ?_
 ·intro h e2 hk2; iterate 3 refine zn e2 ?_
  refine zk e2 ?_; exact hk2 _ _ ⟨_, FL, h⟩
 ·intro h e2 hk2; refine zy e2 ?_; refine Lyb rfl rfl rfl rfl e2 (X_call rfl func55 rfl rfl rfl (ACalls.mono h ?_))
  rintro v σ ⟨u1, rfl, h⟩; refine zy e2 ?_; refine zk e2 ?_; exact hk2 _ _ ⟨_, FL, h⟩
 rintro fr σ ⟨u0, hl, h⟩; unfold j1_path_Parent at h; refine Lfr hl ?_
 refine z2 ?_; refine zj h (fun h => ?_) fun h => ?_
 ·refine z3 ?_; iterate 2 refine zp ?_
  refine z2 ?_; refine AW.ret ?_; refine thenR ?_; exact bR2 results62 rfl rfl ⟨_, _, rfl, h⟩
 refine AW.skip ?_; refine thenN (z3 ?_); iterate 2 refine zp ?_
 refine zc func111 h ?_; rintro v σ ⟨u2, rfl, h⟩; refine zm (V_max2 rfl rfl) ?_; obtain ⟨hc, h⟩ := h
 refine zm (V_slS (lo := none) (hi := (some (if 1 < u2 then u2 else 1))) rfl underlying9 rfl optI_none (optI_some rfl) hc) ?_; iterate 2 refine zp ?_
 refine z2 ?_; refine AW.ret ?_; exact bR2 results62 rfl rfl ⟨_, _, rfl, h⟩
def j1_path_Suffix (B : World) (ro : AH) (a0 : ByteArray) (a1 : Int) (Q : ByteArray → Int → AH → Prop) (u0 : Bool) (σ : AH) : Prop :=
 if u0 = true then
 Q (⟨#[]⟩ : ByteArray) 20 σ
 else
 c_strconv_Itoa B ro a1 σ fun u1 σ =>
 c_strings_Repeat B ro (⟨#[48]⟩ : ByteArray) (i64.wrap (10 - (u1.size : Int))) σ fun u2 σ =>
 u2.size + u1.size ≤ 9223372036854775807 ∧
 a0.size + (u2 ++ u1).size ≤ 9223372036854775807 ∧
 c_path_Check B ro (a0 ++ (u2 ++ u1)) σ fun u3 σ =>
 if ¬ (u3 = 0) then
 Q (⟨#[]⟩ : ByteArray) u3 σ
 else
 Q (a0 ++ (u2 ++ u1)) 0 σ
def f_path_Suffix (B : World) (ro : AH) (a0 : ByteArray) (a1 : Int) (σ : AH) (Q : ByteArray → Int → AH → Prop) : Prop :=
 if ((a0 = (⟨#[47]⟩ : ByteArray)) ∨ (a1 < 0)) ∨ (9999999999 < a1) then
 j1_path_Suffix B ro a0 a1 Q true σ
 else
 c_path_Check B ro a0 σ fun u0 σ =>
 j1_path_Suffix B ro a0 a1 Q (!(decide (u0 = 0))) σ
theorem path_Suffix_ok {a0 : ByteArray} {a1 : Int} {Q : ByteArray → Int → AH → Prop} (h : Sep ro σ → f_path_Suffix B ro a0 a1 σ Q) : c_path_Suffix B ro a0 a1 σ Q := by
 refine zb h func71 ntmps71 fun h => ?_; unfold f_path_Suffix at h; refine z3 ?_; iterate 2 refine zp ?_
 refine z2 (AW.seq (z3 ?_))
 iterate 3 refine zp ?_
 refine Lsplit 3 (decide (a0 = (⟨#[47]⟩ : ByteArray))) [(0, .string a0), (1, .int .i64 a1), (13, .bool ((decide (a0 = (⟨#[47]⟩ : ByteArray))) || (decide (a1 < 0))))] ?_ ?_ ?_
 ·intro e2 hk2
  iterate 2 refine zn e2 ?_
  refine zk e2 ?_; exact hk2 _ (Fe e2)
 ·intro e2 hk2
  refine zy e2 ?_; refine zy e2 ?_; refine zk e2 ?_; exact hk2 _ (Fe e2)
 intro fr hl
 refine Lfr hl ?_
 refine zp ?_; refine Lsplit 3 ((decide (a0 = (⟨#[47]⟩ : ByteArray))) || (decide (a1 < 0))) [(0, .string a0), (1, .int .i64 a1), (17, .bool (((decide (a0 = (⟨#[47]⟩ : ByteArray))) || (decide (a1 < 0))) || (decide (9999999999 < a1))))] ?_ ?_ ?_
 ·intro e6 hk6
  iterate 2 refine zn e6 ?_
  refine zk e6 ?_; exact hk6 _ (Fe e6)
 ·intro e6 hk6
  refine zy e6 ?_; refine zy e6 ?_; refine zk e6 ?_; exact hk6 _ (Fe e6)
 intro fr hl
 refine Lfr hl ?_
 refine zp ?_; refine LsplitJ 4 (((decide (a0 = (⟨#[47]⟩ : ByteArray))) || (decide (a1 < 0))) || (decide (9999999999 < a1))) (bor_iff (bor_iff decide_eq_true_iff decide_eq_true_iff) decide_eq_true_iff) h (fun fr σ => ∃ (u0 : Bool), FrLe [(0, .string a0), (1, .int .i64 a1), (22, .bool u0)] fr ∧ j1_path_Suffix B ro a0 a1 Q u0 σ) ?_ ?_ ?_
 ·intro h e10 hk10; iterate 3 refine zn e10 ?_
  refine zk e10 ?_; exact hk10 _ _ ⟨_, FL, h⟩
 ·intro h e10 hk10; refine zy e10 ?_; refine Lyb rfl rfl rfl rfl e10 (X_call rfl func55 rfl rfl rfl (ACalls.mono h ?_))
  rintro v σ ⟨u1, rfl, h⟩; refine zy e10 ?_; refine zk e10 ?_; exact hk10 _ _ ⟨_, FL, h⟩
 rintro fr σ ⟨u0, hl, h⟩; unfold j1_path_Suffix at h; refine Lfr hl ?_
 refine z2 ?_; refine zj h (fun h => ?_) fun h => ?_
 ·refine z3 ?_; iterate 2 refine zp ?_
  refine z2 ?_; refine AW.ret ?_; refine thenR ?_; exact bR2 results71 rfl rfl ⟨_, _, rfl, h⟩
 refine AW.skip ?_; refine thenN (z3 ?_); refine zp ?_; refine zc func117 h ?_; rintro v σ ⟨u2, rfl, h⟩; refine zp ?_; refine z4 ?_; iterate 2 refine zp ?_
 refine zm (V_lenS rfl rfl underlying9 rfl rfl) ?_; refine zp ?_; refine zc func118 h ?_; rintro v σ ⟨u3, rfl, h⟩; refine zp ?_; obtain ⟨hc, h⟩ := h
 refine zm (V_cat rfl rfl rfl hc) ?_; obtain ⟨hc, h⟩ := h
 refine zm (V_cat rfl rfl rfl hc) ?_; refine zp ?_; refine z2 (AW.seq (z3 ?_))
 refine zp ?_; refine zc func55 h ?_; rintro v σ ⟨u4, rfl, h⟩; refine zp ?_; refine z4 ?_; iterate 2 refine zp ?_
 refine z2 ?_; refine AW.iff rfl (bnot_iff decide_eq_true_iff) h (fun h => ?_) (fun h => ?_)
 ·refine z3 ?_; iterate 3 refine zp ?_
  refine z2 ?_; refine AW.ret ?_; refine thenR ?_; exact bR2 results71 rfl rfl ⟨_, _, rfl, h⟩
 refine AW.skip ?_; refine thenN (z3 ?_); iterate 3 refine zp ?_
 refine z2 ?_; refine AW.ret ?_; exact bR2 results71 rfl rfl ⟨_, _, rfl, h⟩
def f_path_Home (B : World) (ro : AH) (a0 : ByteArray) (σ : AH) (Q : ByteArray → Int → AH → Prop) : Prop :=
 c_path_Parts B ro a0 σ fun u0 u1 σ =>
 if (u0.len : Int) = 0 then
 Q (⟨#[]⟩ : ByteArray) u1 σ
 else
 ∃ p2, u0.a = some p2 ∧ (0 : Int) ≤ 0 ∧ 0 < (u0.len : Int) ∧
 ∃ u3, acell ro σ (p2.add (Int.toNat 0 * 1)) = some (.string u3) ∧
 Q u3 0 σ
theorem path_Home_ok {a0 : ByteArray} {Q : ByteArray → Int → AH → Prop} (h : Sep ro σ → f_path_Home B ro a0 σ Q) : c_path_Home B ro a0 σ Q := by
 refine zb h func97 ntmps97 fun h => ?_; unfold f_path_Home at h; refine z3 ?_; iterate 2 refine zp ?_
 refine z4 ?_; refine zp ?_; refine zc func106 h ?_; rintro v σ ⟨u0, u1, rfl, h⟩; iterate 5 refine zp ?_
 refine z2 (AW.seq (z3 ?_))
 refine zp ?_; refine zm (V_lenL rfl rfl underlying25 rfl rfl) ?_; refine zp ?_; refine z2 ?_; refine zi h (fun h => ?_) fun h => ?_
 ·refine z3 ?_; iterate 3 refine zp ?_
  refine z2 ?_; refine AW.ret ?_; refine thenR ?_; exact bR2 results97 rfl rfl ⟨_, _, rfl, h⟩
 refine AW.skip ?_; refine thenN (z3 ?_); refine zp ?_; obtain ⟨p2, ha, h0, h1, h⟩ := h
 refine zm (V_ixA rfl underlying25 ty9 (ixL rfl ha) rfl h0 h1) ?_; refine zL underlying9 h fun u3 h => ?_; iterate 2 refine zp ?_
 refine z2 ?_; refine AW.ret ?_; exact bR2 results97 rfl rfl ⟨_, _, rfl, h⟩
def j4_path_Parts (B : World) (ro : AH) (u0 : Sl) (Q : Sl → Int → AH → Prop) (σ : AH) : Prop :=
 Q u0 0 σ
def l5_path_Parts (B : World) (ro : AH) (u0 : Sl) (Q : Sl → Int → AH → Prop) : (Int) → AH → ((Int) → AH → Prop) → Prop := fun u1 σ Y5 =>
 if u1 < (u0.len : Int) then
 ∃ p2, u0.a = some p2 ∧ (0 : Int) ≤ u1 ∧ u1 < (u0.len : Int) ∧
 ∃ u3, acell ro σ (p2.add (Int.toNat u1 * 1)) = some (.string u3) ∧
 c_path_Name B ro u3 σ fun u4 σ =>
 if ¬ (u4 = true) then
  Q (⟨none, 0, 0⟩ : Sl) 20 σ
 else
 Y5 (i64.wrap (u1 + 1)) σ
 else
 j4_path_Parts B ro u0 Q σ
def j1_path_Parts (B : World) (ro : AH) (a0 : ByteArray) (Q : Sl → Int → AH → Prop) (u0 : Bool) (σ : AH) : Prop :=
 if u0 = true then
 Q (⟨none, 0, 0⟩ : Sl) 20 σ
 else
 cutOk (some 1) none a0.size a0.size ∧
 c_strings_Split B ro (a0.extract (Int.toNat 1) (a0.size)) (⟨#[47]⟩ : ByteArray) σ fun u1 σ =>
 if 8 < (u1.len : Int) then
 Q (⟨none, 0, 0⟩ : Sl) 20 σ
 else
 lfpD (l5_path_Parts B ro u1 Q ) (0) σ
def f_path_Parts (B : World) (ro : AH) (a0 : ByteArray) (σ : AH) (Q : Sl → Int → AH → Prop) : Prop :=
 if a0 = (⟨#[47]⟩ : ByteArray) then
 Q (⟨none, 0, 0⟩ : Sl) 0 σ
 else
 if 128 < (a0.size : Int) then
 j1_path_Parts B ro a0 Q true σ
 else
 c_strings_HasPrefix B ro a0 (⟨#[47]⟩ : ByteArray) σ fun u0 σ =>
 j1_path_Parts B ro a0 Q (!u0) σ
theorem path_Parts_ok {a0 : ByteArray} {Q : Sl → Int → AH → Prop} (h : Sep ro σ → f_path_Parts B ro a0 σ Q) : c_path_Parts B ro a0 σ Q := by
 refine zb h func106 ntmps106 fun h => ?_; unfold f_path_Parts at h; refine z3 ?_; iterate 2 refine zp ?_
 refine z2 (AW.seq (z3 ?_))
 iterate 2 refine zp ?_
 refine z2 ?_; refine zi h (fun h => ?_) fun h => ?_
 ·refine z3 ?_; iterate 2 refine zp ?_
  refine z2 ?_; refine AW.ret ?_; refine thenR ?_; exact bR2 results106 rfl rfl ⟨_, _, rfl, h⟩
 refine AW.skip ?_; refine thenN (AW.seq (z3 ?_)); refine zp ?_; refine zm (V_lenS rfl rfl underlying9 rfl rfl) ?_; iterate 2 refine zp ?_
 refine LsplitJ 4 (decide (128 < (a0.size : Int))) decide_eq_true_iff h (fun fr σ => ∃ (u0 : Bool), FrLe [(0, .string a0), (16, .bool u0)] fr ∧ j1_path_Parts B ro a0 Q u0 σ) ?_ ?_ ?_
 ·intro h e3 hk3; iterate 3 refine zn e3 ?_
  refine zk e3 ?_; exact hk3 _ _ ⟨_, FL, h⟩
 ·intro h e3 hk3; refine zy e3 ?_; refine Lyb rfl rfl rfl rfl e3 (X_call rfl func110 rfl rfl rfl (ACalls.mono h ?_))
  rintro v σ ⟨u1, rfl, h⟩; refine zy e3 ?_; refine zk e3 ?_; exact hk3 _ _ ⟨_, FL, h⟩
 rintro fr σ ⟨u0, hl, h⟩; unfold j1_path_Parts at h; refine Lfr hl ?_
 refine z2 ?_; refine zj h (fun h => ?_) fun h => ?_
 ·refine z3 ?_; iterate 2 refine zp ?_
  refine z2 ?_; refine AW.ret ?_; refine thenR ?_; exact bR2 results106 rfl rfl ⟨_, _, rfl, h⟩
 refine AW.skip ?_; refine thenN (z3 ?_); refine zp ?_; obtain ⟨hc, h⟩ := h
 refine zm (V_slS (lo := (some 1)) (hi := none) rfl underlying9 rfl (optI_some rfl) optI_none hc) ?_; refine zc func128 h ?_; rintro v σ ⟨u2, rfl, h⟩; refine zp ?_; refine z2 (AW.seq (z3 ?_))
 refine zp ?_; refine zm (V_lenL rfl rfl underlying25 rfl rfl) ?_; refine zp ?_; refine z2 ?_; refine zi h (fun h => ?_) fun h => ?_
 ·refine z3 ?_; iterate 2 refine zp ?_
  refine z2 ?_; refine AW.ret ?_; refine thenR ?_; exact bR2 results106 rfl rfl ⟨_, _, rfl, h⟩
 refine AW.skip ?_; refine thenN ?_; refine AW.seqJ (fun fr σ => FrLe [(4, Sl.v u2)] fr ∧ j4_path_Parts B ro u2 Q σ) ?_ ?_
 ·rintro fr σ ⟨hl, h⟩; refine AW.weaken ?_ hl (HLe.refl _)
  unfold j4_path_Parts at h; refine z3 ?_; iterate 3 refine zp ?_
  refine z2 ?_; refine AW.ret ?_; exact bR2 results106 rfl rfl ⟨_, _, rfl, h⟩
 refine z3 ?_; refine zp ?_; refine zm (V_lenL rfl rfl underlying25 rfl rfl) ?_; refine zp ?_; refine z2 (AW.block ?_)
 refine ARound.loop (fr' := [(4, Sl.v u2), (23, Sl.v u2), (24, .int .i64 (u2.len : Int)), (25, .int .i64 0)]) ?_ FL
 refine h (fun u3 σ => ARound _ _ _ _ _ _ [(4, Sl.v u2), (23, Sl.v u2), (24, .int .i64 (u2.len : Int)), (25, .int .i64 u3)] σ) ?_
 rintro u3 σ Y5 hY5 h
 show AW _ _ _ _ _ _ _ _
 unfold l5_path_Parts at h; refine z3 ?_; refine zp ?_; refine z2 (AW.seq ?_)
 refine zi h (fun h => ?_) fun h => ?_
 rotate_left
 ·refine AW.exit ?_; refine thenE (thenE ?_); refine blockE ?_
  refine thenN ?_; exact ⟨FL, h⟩
 refine AW.skip ?_; refine thenN (AW.seq (AW.block (z3 ?_))); obtain ⟨p4, ha, h0, h1, h⟩ := h
 refine zm (V_ixA rfl underlying25 ty9 (ixL rfl ha) rfl h0 h1) ?_; refine zL underlying9 h fun u5 h => ?_; refine zp ?_; refine z4 ?_; refine zp ?_; refine zc func129 h ?_; rintro v σ ⟨u6, rfl, h⟩; refine zp ?_; refine z2 ?_; refine AW.iff rfl (bnot_iff Iff.rfl) h (fun h => ?_) (fun h => ?_)
 ·refine z3 ?_; iterate 2 refine zp ?_
  refine z2 ?_; refine AW.ret ?_; refine blockR (thenR (thenR (blockR (thenR ?_)))); exact bR2 results106 rfl rfl ⟨_, _, rfl, h⟩
 refine AW.skip ?_; refine blockN (thenN (AW.reg ?_)); iterate 2 refine zp ?_
 refine z2 ?_; refine ARound.head (fr' := [(4, Sl.v u2), (23, Sl.v u2), (24, .int .i64 (u2.len : Int)), (25, .int .i64 (i64.wrap (u3 + 1)))]) ?_ FL
 exact hY5 _ _ h
def j1_path_Name (B : World) (ro : AH) (Q : Bool → AH → Prop) (σ : AH) : Prop :=
 Q true σ
def j6_path_Name (B : World) (ro : AH) (p0 : Addr) (Q : Bool → AH → Prop) (Y3 : (Unit) → AH → Prop) (u1 : Bool) (σ : AH) : Prop :=
 if u1 = true then
 Y3 () σ
 else
 Q false σ
def l3_path_Name (B : World) (ro : AH) (p0 : Addr) (Q : Bool → AH → Prop) : (Unit) → AH → ((Unit) → AH → Prop) → Prop := fun _ σ Y3 =>
 awp prog ro (Instr.next (.pointer (some p0)) true 0) (fun v σ =>
 (v = .tuple #[.bool false] ∧
  j1_path_Name B ro Q σ) ∨
 (∃ (u1 : Int) (u2 : Int), v = .tuple #[.bool true, .int .i64 u1, .int .i32 u2] ∧
  if (97 ≤ u2) ∧ (u2 ≤ 122) then
  j6_path_Name B ro p0 Q Y3 ((decide (97 ≤ u2)) && (decide (u2 ≤ 122))) σ
  else
  if (48 ≤ u2) ∧ (u2 ≤ 57) then
  j6_path_Name B ro p0 Q Y3 ((decide (48 ≤ u2)) && (decide (u2 ≤ 57))) σ
  else
  if u2 = 46 then
  j6_path_Name B ro p0 Q Y3 (decide (u2 = 46)) σ
  else
  if u2 = 95 then
  j6_path_Name B ro p0 Q Y3 (decide (u2 = 95)) σ
  else
  j6_path_Name B ro p0 Q Y3 (decide (u2 = 45)) σ)) σ
def f_path_Name (B : World) (ro : AH) (a0 : ByteArray) (σ : AH) (Q : Bool → AH → Prop) : Prop :=
 if (((a0 = (⟨#[]⟩ : ByteArray)) ∨ (32 < (a0.size : Int))) ∨ (a0 = (⟨#[46]⟩ : ByteArray))) ∨ (a0 = (⟨#[46, 46]⟩ : ByteArray)) then
 Q false σ
 else
 awp prog ro (Instr.range 9 (.string a0)) (fun v σ =>
 (∃ (p0 : Addr), v = .pointer (some p0) ∧
  lfpD (l3_path_Name B ro p0 Q ) () σ)) σ
theorem path_Name_ok {a0 : ByteArray} {Q : Bool → AH → Prop} (h : Sep ro σ → f_path_Name B ro a0 σ Q) : c_path_Name B ro a0 σ Q := by
 refine zb h func129 ntmps129 fun h => ?_; unfold f_path_Name at h; refine z3 ?_; refine zp ?_; refine z2 (AW.seq (z3 ?_))
 iterate 3 refine zp ?_
 refine Lsplit 4 (decide (a0 = (⟨#[]⟩ : ByteArray))) [(0, .string a0), (11, .bool ((decide (a0 = (⟨#[]⟩ : ByteArray))) || (decide (32 < (a0.size : Int)))))] ?_ ?_ ?_
 ·intro e2 hk2
  iterate 3 refine zn e2 ?_
  refine zk e2 ?_; exact hk2 _ (Fe e2)
 ·intro e2 hk2
  refine zy e2 ?_; refine Lypb (V_lenS rfl rfl underlying9 rfl rfl) rfl rfl rfl rfl e2 ?_
  refine zy e2 ?_; refine zk e2 ?_; exact hk2 _ (Fe e2)
 intro fr hl
 refine Lfr hl ?_
 refine zp ?_; refine Lsplit 3 ((decide (a0 = (⟨#[]⟩ : ByteArray))) || (decide (32 < (a0.size : Int)))) [(0, .string a0), (15, .bool (((decide (a0 = (⟨#[]⟩ : ByteArray))) || (decide (32 < (a0.size : Int)))) || (decide (a0 = (⟨#[46]⟩ : ByteArray)))))] ?_ ?_ ?_
 ·intro e7 hk7
  iterate 2 refine zn e7 ?_
  refine zk e7 ?_; exact hk7 _ (Fe e7)
 ·intro e7 hk7
  refine zy e7 ?_; refine zy e7 ?_; refine zk e7 ?_; exact hk7 _ (Fe e7)
 intro fr hl
 refine Lfr hl ?_
 refine zp ?_; refine Lsplit 3 (((decide (a0 = (⟨#[]⟩ : ByteArray))) || (decide (32 < (a0.size : Int)))) || (decide (a0 = (⟨#[46]⟩ : ByteArray)))) [(0, .string a0), (19, .bool ((((decide (a0 = (⟨#[]⟩ : ByteArray))) || (decide (32 < (a0.size : Int)))) || (decide (a0 = (⟨#[46]⟩ : ByteArray)))) || (decide (a0 = (⟨#[46, 46]⟩ : ByteArray)))))] ?_ ?_ ?_
 ·intro e11 hk11
  iterate 2 refine zn e11 ?_
  refine zk e11 ?_; exact hk11 _ (Fe e11)
 ·intro e11 hk11
  refine zy e11 ?_; refine zy e11 ?_; refine zk e11 ?_; exact hk11 _ (Fe e11)
 intro fr hl
 refine Lfr hl ?_
 refine z2 ?_; refine AW.iff rfl (bor_iff (bor_iff (bor_iff decide_eq_true_iff decide_eq_true_iff) decide_eq_true_iff) decide_eq_true_iff) h (fun h => ?_) (fun h => ?_)
 ·refine z3 ?_; refine zp ?_; refine z2 ?_; refine AW.ret ?_; refine thenR ?_; exact bR1 results129 rfl ⟨_, rfl, h⟩
 refine AW.skip ?_; refine thenN ?_; refine AW.seqJ (fun fr σ => FrLe [] fr ∧ j1_path_Name B ro Q σ) ?_ ?_
 ·rintro fr σ ⟨hl, h⟩; refine AW.weaken ?_ hl (HLe.refl _)
  unfold j1_path_Name at h; refine z3 ?_; refine zp ?_; refine z2 ?_; refine AW.ret ?_; exact bR1 results129 rfl ⟨_, rfl, h⟩
 refine z3 ?_; refine zp ?_; refine zl (X_rng rfl rfl (awp_mono _ h ?_))
 rintro v σ ⟨p0, rfl, h⟩; refine z2 (AW.block ?_)
 refine ARound.loop (fr' := [(21, .pointer (some p0))]) ?_ FL
 refine h (fun _ σ => ARound _ _ _ _ _ _ [(21, .pointer (some p0))] σ) ?_
 rintro _ σ Y3 hY3 h
 show AW _ _ _ _ _ _ _ _
 unfold l3_path_Name at h; refine z3 ?_; refine zl (X_nxt rfl rfl rfl (awp_mono _ h ?_))
 rintro v σ (⟨rfl, h⟩ | ⟨u1, u2, rfl, h⟩)
 ·refine zp ?_; refine z2 (AW.seq ?_)
  refine AW.no rfl ?_; refine AW.exit ?_; refine thenE (thenE ?_); refine blockE ?_
  refine thenN ?_; exact ⟨FL, h⟩
 ·refine zp ?_; refine z2 (AW.seq ?_)
  refine AW.yes rfl ?_; refine AW.skip ?_; refine thenN (AW.block (z3 ?_)); iterate 2 refine zp ?_
  refine z2 (AW.block ?_)
  refine AW.seqJ (fun fr σ => ∃ (u3 : Bool), FrLe [(21, .pointer (some p0)), (25, .bool u3)] fr ∧ j6_path_Name B ro p0 Q Y3 u3 σ) ?_ ?_
  ·rintro fr σ ⟨u3, hl, h⟩; refine AW.weaken ?_ hl (HLe.refl _)
   unfold j6_path_Name at h; refine zj h (fun h => ?_) fun h => ?_
   ·refine AW.skip ?_; refine blockN (blockN (thenN ?_)); refine ARound.head (fr' := [(21, .pointer (some p0))]) ?_ FL
    exact hY3 _ _ h
   refine z3 ?_; refine zp ?_; refine z2 ?_; refine AW.ret ?_; refine blockR (blockR (thenR (blockR (thenR ?_)))); exact bR1 results129 rfl ⟨_, rfl, h⟩
  refine z3 ?_; iterate 3 refine zp ?_
  refine Lsplit 3 (decide (97 ≤ u2)) [(4, .int .i32 u2), (21, .pointer (some p0)), (31, .bool ((decide (97 ≤ u2)) && (decide (u2 ≤ 122))))] ?_ ?_ ?_
  ·intro e2 hk2
   refine zy e2 ?_; refine zy e2 ?_; refine zk e2 ?_; exact hk2 _ (Fe e2)
  ·intro e2 hk2
   iterate 2 refine zn e2 ?_
   refine zk e2 ?_; exact hk2 _ (Fe e2)
  intro fr hl
  refine Lfr hl ?_
  refine zp ?_; refine z2 ?_; refine AW.iff rfl (band_iff decide_eq_true_iff decide_eq_true_iff) h (fun h => ?_) (fun h => ?_)
  ·refine AW.skip ?_; refine thenN ?_; exact ⟨_, FL, h⟩
  refine z3 ?_; iterate 3 refine zp ?_
  refine Lsplit 3 (decide (48 ≤ u2)) [(4, .int .i32 u2), (21, .pointer (some p0)), (37, .bool ((decide (48 ≤ u2)) && (decide (u2 ≤ 57))))] ?_ ?_ ?_
  ·intro e2 hk2
   refine zy e2 ?_; refine zy e2 ?_; refine zk e2 ?_; exact hk2 _ (Fe e2)
  ·intro e2 hk2
   iterate 2 refine zn e2 ?_
   refine zk e2 ?_; exact hk2 _ (Fe e2)
  intro fr hl
  refine Lfr hl ?_
  refine zp ?_; refine z2 ?_; refine AW.iff rfl (band_iff decide_eq_true_iff decide_eq_true_iff) h (fun h => ?_) (fun h => ?_)
  ·refine AW.skip ?_; refine thenN ?_; exact ⟨_, FL, h⟩
  refine z3 ?_; iterate 3 refine zp ?_
  refine z2 ?_; refine zi h (fun h => ?_) fun h => ?_
  ·refine AW.skip ?_; refine thenN ?_; exact ⟨_, FL, h⟩
  refine z3 ?_; iterate 3 refine zp ?_
  refine z2 ?_; refine zi h (fun h => ?_) fun h => ?_
  ·refine AW.skip ?_; refine thenN ?_; exact ⟨_, FL, h⟩
  refine AW.reg ?_; iterate 3 refine zp ?_
  refine z2 ?_; exact ⟨_, FL, h⟩
def f_ref02_Parent (B : World) (ro : AH) (a0 : ByteArray) (σ : AH) (Q : ByteArray → Bool → AH → Prop) : Prop :=
 c_ref02_Parts B ro a0 σ fun u0 u1 σ =>
 if (¬ (u1 = true)) ∨ ((u0.len : Int) = 0) then
 Q (⟨#[]⟩ : ByteArray) false σ
 else
 cutOk none (some (i64.wrap ((u0.len : Int) - 1))) u0.len u0.cap ∧
 c_ref02_Make B ro (⟨cutA u0.a (0) u0.cap 1, Int.toNat (i64.wrap ((u0.len : Int) - 1)) - 0, u0.cap - 0⟩ : Sl) σ fun u2 σ =>
 Q u2 true σ
theorem ref02_Parent_ok {a0 : ByteArray} {Q : ByteArray → Bool → AH → Prop} (h : Sep ro σ → f_ref02_Parent B ro a0 σ Q) : c_ref02_Parent B ro a0 σ Q := by
 refine zb h func19 ntmps19 fun h => ?_; unfold f_ref02_Parent at h; refine z3 ?_; iterate 2 refine zp ?_
 refine z4 ?_; refine zp ?_; refine zc func64 h ?_; rintro v σ ⟨u0, u1, rfl, h⟩; iterate 5 refine zp ?_
 refine z2 (AW.seq (z3 ?_))
 iterate 3 refine zp ?_
 refine Lsplit 4 (!u1) [(4, Sl.v u0), (17, .bool ((!u1) || (decide ((u0.len : Int) = 0))))] ?_ ?_ ?_
 ·intro e2 hk2
  iterate 3 refine zn e2 ?_
  refine zk e2 ?_; exact hk2 _ (Fe e2)
 ·intro e2 hk2
  refine zy e2 ?_; refine Lypb (V_lenL rfl rfl underlying25 rfl rfl) rfl rfl rfl rfl e2 ?_
  refine zy e2 ?_; refine zk e2 ?_; exact hk2 _ (Fe e2)
 intro fr hl
 refine Lfr hl ?_
 refine z2 ?_; refine AW.iff rfl (bor_iff (bnot_iff Iff.rfl) decide_eq_true_iff) h (fun h => ?_) (fun h => ?_)
 ·refine z3 ?_; iterate 2 refine zp ?_
  refine z2 ?_; refine AW.ret ?_; refine thenR ?_; exact bR2 results19 rfl rfl ⟨_, _, rfl, h⟩
 refine AW.skip ?_; refine thenN (z3 ?_); iterate 2 refine zp ?_
 refine zm (V_lenL rfl rfl underlying25 rfl rfl) ?_; refine zp ?_; obtain ⟨hc, h⟩ := h
 refine zm (V_slL (lo := none) (hi := (some (i64.wrap ((u0.len : Int) - 1)))) rfl underlying25 ty9 rfl optI_none (optI_some rfl) hc) ?_; refine zc func65 h ?_; rintro v σ ⟨u2, rfl, h⟩; iterate 2 refine zp ?_
 refine z2 ?_; refine AW.ret ?_; exact bR2 results19 rfl rfl ⟨_, _, rfl, h⟩
def j3_ref02_Parts (B : World) (ro : AH) (Q : Sl → Bool → AH → Prop) (u0 : Sl) (σ : AH) : Prop :=
 if 8 < (u0.len : Int) then
 Q (⟨none, 0, 0⟩ : Sl) false σ
 else
 Q u0 true σ
def j9_ref02_Parts (B : World) (ro : AH) (a0 : ByteArray) (u0 : Int) (Q : Sl → Bool → AH → Prop) (Y5 : (Sl × Int × Int) → AH → Prop) (u1 : Sl) (u2 : Int) (σ : AH) : Prop :=
 Y5 (u1, u2, i64.wrap (u0 + 1)) σ
def j12_ref02_Parts (B : World) (ro : AH) (a0 : ByteArray) (u0 : Sl) (u1 : Int) (u2 : Int) (Q : Sl → Bool → AH → Prop) (Y5 : (Sl × Int × Int) → AH → Prop) (u3 : Bool) (σ : AH) : Prop :=
 if u3 = true then
 cutOk (some u1) (some u2) a0.size a0.size ∧
 c_ref02_Name B ro (a0.extract (Int.toNat u1) (Int.toNat u2)) σ fun u4 σ =>
 if ¬ (u4 = true) then
  Q (⟨none, 0, 0⟩ : Sl) false σ
 else
 cutOk (some u1) (some u2) a0.size a0.size ∧
 nw ro σ (.cells #[.string (a0.extract (Int.toNat u1) (Int.toNat u2))] 9) fun u5 σ =>
 awp prog ro (Builtin.append_ #[25, 25] 25 #[Sl.v u0, Sl.v (⟨some ⟨u5, 0, none⟩, 1, 1⟩ : Sl)]) (fun v σ => ∃ (u6 : Sl), v = Sl.v u6 ∧
  j9_ref02_Parts B ro a0 u2 Q Y5 u6 (i64.wrap (u2 + 1)) σ) σ
 else
 j9_ref02_Parts B ro a0 u2 Q Y5 u0 u1 σ
def l5_ref02_Parts (B : World) (ro : AH) (a0 : ByteArray) (Q : Sl → Bool → AH → Prop) : (Sl × Int × Int) → AH → ((Sl × Int × Int) → AH → Prop) → Prop := fun ⟨u0, u1, u2⟩ σ Y5 =>
 if u2 ≤ (a0.size : Int) then
 if u2 = (a0.size : Int) then
  j12_ref02_Parts B ro a0 u0 u1 u2 Q Y5 true σ
 else
 ∃ u3 : UInt8, (0 : Int) ≤ u2 ∧ a0[Int.toNat u2]? = some u3 ∧
 j12_ref02_Parts B ro a0 u0 u1 u2 Q Y5 (decide ((u3.toNat : Int) = 47)) σ
 else
 j3_ref02_Parts B ro Q u0 σ
def j1_ref02_Parts (B : World) (ro : AH) (a0 : ByteArray) (Q : Sl → Bool → AH → Prop) (u0 : Bool) (σ : AH) : Prop :=
 if u0 = true then
 Q (⟨none, 0, 0⟩ : Sl) false σ
 else
 lfpD (l5_ref02_Parts B ro a0 Q ) ((⟨none, 0, 0⟩ : Sl), 1, 1) σ
def f_ref02_Parts (B : World) (ro : AH) (a0 : ByteArray) (σ : AH) (Q : Sl → Bool → AH → Prop) : Prop :=
 if a0 = (⟨#[47]⟩ : ByteArray) then
 Q (⟨none, 0, 0⟩ : Sl) true σ
 else
 if ((a0.size : Int) < 1) ∨ (128 < (a0.size : Int)) then
 j1_ref02_Parts B ro a0 Q true σ
 else
 ∃ u0 : UInt8, (0 : Int) ≤ 0 ∧ a0[Int.toNat 0]? = some u0 ∧
 j1_ref02_Parts B ro a0 Q (!(decide ((u0.toNat : Int) = 47))) σ
theorem ref02_Parts_ok {a0 : ByteArray} {Q : Sl → Bool → AH → Prop} (h : Sep ro σ → f_ref02_Parts B ro a0 σ Q) : c_ref02_Parts B ro a0 σ Q := by
 refine zb h func64 ntmps64 fun h => ?_; unfold f_ref02_Parts at h; refine z3 ?_; iterate 2 refine zp ?_
 refine z4 ?_; refine zp ?_; refine z2 (AW.seq (z3 ?_))
 iterate 2 refine zp ?_
 refine z2 ?_; refine zi h (fun h => ?_) fun h => ?_
 ·refine z3 ?_; iterate 3 refine zp ?_
  refine z2 ?_; refine AW.ret ?_; refine thenR ?_; exact bR2 results64 rfl rfl ⟨_, _, rfl, h⟩
 refine AW.skip ?_; refine thenN (AW.seq (z3 ?_)); refine zp ?_; refine zm (V_lenS rfl rfl underlying9 rfl rfl) ?_; iterate 2 refine zp ?_
 refine Lsplit 4 (decide ((a0.size : Int) < 1)) [(0, .string a0), (4, Sl.v (⟨none, 0, 0⟩ : Sl)), (17, .bool ((decide ((a0.size : Int) < 1)) || (decide (128 < (a0.size : Int)))))] ?_ ?_ ?_
 ·intro e3 hk3
  iterate 3 refine zn e3 ?_
  refine zk e3 ?_; exact hk3 _ (Fe e3)
 ·intro e3 hk3
  refine zy e3 ?_; refine Lypb (V_lenS rfl rfl underlying9 rfl rfl) rfl rfl rfl rfl e3 ?_
  refine zy e3 ?_; refine zk e3 ?_; exact hk3 _ (Fe e3)
 intro fr hl
 refine Lfr hl ?_
 refine zp ?_; refine LsplitJ 4 ((decide ((a0.size : Int) < 1)) || (decide (128 < (a0.size : Int)))) (bor_iff decide_eq_true_iff decide_eq_true_iff) h (fun fr σ => ∃ (u0 : Bool), FrLe [(0, .string a0), (4, Sl.v (⟨none, 0, 0⟩ : Sl)), (22, .bool u0)] fr ∧ j1_ref02_Parts B ro a0 Q u0 σ) ?_ ?_ ?_
 ·intro h e8 hk8; iterate 3 refine zn e8 ?_
  refine zk e8 ?_; exact hk8 _ _ ⟨_, FL, h⟩
 ·intro h e8 hk8; refine zy e8 ?_; obtain ⟨u1, h0, hc, h⟩ := h
  refine Lypb (V_idxS rfl underlying9 rfl rfl h0 hc) rfl rfl rfl rfl e8 ?_
  refine zy e8 ?_; refine zk e8 ?_; exact hk8 _ _ ⟨_, FL, h⟩
 rintro fr σ ⟨u0, hl, h⟩; unfold j1_ref02_Parts at h; refine Lfr hl ?_
 refine z2 ?_; refine zj h (fun h => ?_) fun h => ?_
 ·refine z3 ?_; iterate 2 refine zp ?_
  refine z2 ?_; refine AW.ret ?_; refine thenR ?_; exact bR2 results64 rfl rfl ⟨_, _, rfl, h⟩
 refine AW.skip ?_; refine thenN (z3 ?_); refine zp ?_; refine z2 ?_; refine AW.seqJ (fun fr σ => ∃ (u2 : Sl), FrLe [(4, Sl.v u2)] fr ∧ j3_ref02_Parts B ro Q u2 σ) ?_ ?_
 ·rintro fr σ ⟨u2, hl, h⟩; refine AW.weaken ?_ hl (HLe.refl _)
  unfold j3_ref02_Parts at h; refine AW.seq (z3 ?_); refine zp ?_; refine zm (V_lenL rfl rfl underlying25 rfl rfl) ?_; refine zp ?_; refine z2 ?_; refine zi h (fun h => ?_) fun h => ?_
  ·refine z3 ?_; iterate 2 refine zp ?_
   refine z2 ?_; refine AW.ret ?_; refine thenR ?_; exact bR2 results64 rfl rfl ⟨_, _, rfl, h⟩
  refine AW.skip ?_; refine thenN (z3 ?_); iterate 3 refine zp ?_
  refine z2 ?_; refine AW.ret ?_; exact bR2 results64 rfl rfl ⟨_, _, rfl, h⟩
 refine z3 ?_; refine zp ?_; refine z2 (AW.block ?_)
 refine ARound.loop (fr' := [(0, .string a0), (4, Sl.v (⟨none, 0, 0⟩ : Sl)), (5, .int .i64 1), (6, .int .i64 1)]) ?_ FL
 refine h (fun ⟨u3, u4, u5⟩ σ => ARound _ _ _ _ _ _ [(0, .string a0), (4, Sl.v u3), (5, .int .i64 u4), (6, .int .i64 u5)] σ) ?_
 rintro ⟨u3, u4, u5⟩ σ Y5 hY5 h
 show AW _ _ _ _ _ _ _ _
 unfold l5_ref02_Parts at h; dsimp only at h; refine AW.seq (z3 ?_); iterate 2 refine zp ?_
 refine zm (V_lenS rfl rfl underlying9 rfl rfl) ?_; refine zp ?_; refine z2 ?_; refine zi h (fun h => ?_) fun h => ?_
 rotate_left
 ·refine AW.exit ?_; refine thenE (thenE ?_); refine blockE ?_
  refine thenN ?_; exact ⟨_, FL, h⟩
 refine AW.skip ?_; refine thenN ?_; refine AW.seqJ (fun fr σ => ∃ (u6 : Sl) (u7 : Int), FrLe [(0, .string a0), (6, .int .i64 u5), (4, Sl.v u6), (5, .int .i64 u7)] fr ∧ j9_ref02_Parts B ro a0 u5 Q Y5 u6 u7 σ) ?_ ?_
 ·rintro fr σ ⟨u6, u7, hl, h⟩; refine AW.weaken ?_ hl (HLe.refl _)
  unfold j9_ref02_Parts at h; refine AW.reg ?_; iterate 3 refine zp ?_
  refine z2 ?_; refine ARound.head (fr' := [(0, .string a0), (4, Sl.v u6), (5, .int .i64 u7), (6, .int .i64 (i64.wrap (u5 + 1)))]) ?_ FL
  exact hY5 _ _ h
 refine AW.block (z3 ?_); iterate 2 refine zp ?_
 refine zm (V_lenS rfl rfl underlying9 rfl rfl) ?_; iterate 2 refine zp ?_
 refine LsplitJ 5 (decide (u5 = (a0.size : Int))) decide_eq_true_iff h (fun fr σ => ∃ (u8 : Bool), FrLe [(0, .string a0), (4, Sl.v u3), (5, .int .i64 u4), (6, .int .i64 u5), (38, .bool u8)] fr ∧ j12_ref02_Parts B ro a0 u3 u4 u5 Q Y5 u8 σ) ?_ ?_ ?_
 ·intro h e4 hk4; iterate 4 refine zn e4 ?_
  refine zk e4 ?_; exact hk4 _ _ ⟨_, FL, h⟩
 ·intro h e4 hk4; refine zy e4 ?_; refine zy e4 ?_; obtain ⟨u9, h0, hc, h⟩ := h
  refine Lypb (V_idxS rfl underlying9 rfl rfl h0 hc) rfl rfl rfl rfl e4 ?_
  refine zy e4 ?_; refine zk e4 ?_; exact hk4 _ _ ⟨_, FL, h⟩
 rintro fr σ ⟨u8, hl, h⟩; unfold j12_ref02_Parts at h; refine Lfr hl ?_
 refine z2 ?_; refine zj h (fun h => ?_) fun h => ?_
 rotate_left
 ·refine AW.skip ?_; refine blockN (thenN ?_); exact ⟨_, _, FL, h⟩
 refine AW.seq (z3 ?_); iterate 3 refine zp ?_
 obtain ⟨hc, h⟩ := h
 refine zm (V_slS (lo := (some u4)) (hi := (some u5)) rfl underlying9 rfl (optI_some rfl) (optI_some rfl) hc) ?_; refine zc func112 h ?_; rintro v σ ⟨u10, rfl, h⟩; refine zp ?_; refine z2 ?_; refine AW.iff rfl (bnot_iff Iff.rfl) h (fun h => ?_) (fun h => ?_)
 ·refine z3 ?_; iterate 2 refine zp ?_
  refine z2 ?_; refine AW.ret ?_; refine thenR (blockR (thenR (thenR (blockR (thenR ?_))))); exact bR2 results64 rfl rfl ⟨_, _, rfl, h⟩
 refine AW.skip ?_; refine thenN (z3 ?_); iterate 4 refine zp ?_
 obtain ⟨hc, h⟩ := h
 refine zm (V_slS (lo := (some u4)) (hi := (some u5)) rfl underlying9 rfl (optI_some rfl) (optI_some rfl) hc) ?_; refine zA (A_bsl (vs := [(0, .string (a0.extract (Int.toNat u4) (Int.toNat u5)))]) (cs := #[.string (a0.extract (Int.toNat u4) (Int.toNat u5))]) rfl underlying25 ty9 (by decide) rfl rfl) h fun u11 h => ?_; refine zl (X_bi (s := Builtin.append_ #[25, 25] 25 #[Sl.v u3, Sl.v (⟨some ⟨u11, 0, none⟩, 1, 1⟩ : Sl)]) rfl rfl (fun _ => rfl) (awp_mono _ h ?_))
 rintro v σ ⟨u12, rfl, h⟩; refine zp ?_; refine z2 (AW.reg ?_)
 iterate 3 refine zp ?_
 refine Lnil (blockN (thenN ?_)); exact ⟨_, _, FL, h⟩
def j1_ref02_Make (B : World) (ro : AH) (Q : ByteArray → AH → Prop) (u0 : ByteArray) (σ : AH) : Prop :=
 Q u0 σ
def l3_ref02_Make (B : World) (ro : AH) (a0 : Sl) (Q : ByteArray → AH → Prop) : (ByteArray × Int) → AH → ((ByteArray × Int) → AH → Prop) → Prop := fun ⟨u0, u1⟩ σ Y3 =>
 if u1 < (a0.len : Int) then
 ∃ p2, a0.a = some p2 ∧ (0 : Int) ≤ u1 ∧ u1 < (a0.len : Int) ∧
 ∃ u3, acell ro σ (p2.add (Int.toNat u1 * 1)) = some (.string u3) ∧
 (⟨#[47]⟩ : ByteArray).size + u3.size ≤ 9223372036854775807 ∧
 u0.size + ((⟨#[47]⟩ : ByteArray) ++ u3).size ≤ 9223372036854775807 ∧
 Y3 (u0 ++ ((⟨#[47]⟩ : ByteArray) ++ u3), i64.wrap (u1 + 1)) σ
 else
 j1_ref02_Make B ro Q u0 σ
def f_ref02_Make (B : World) (ro : AH) (a0 : Sl) (σ : AH) (Q : ByteArray → AH → Prop) : Prop :=
 if (a0.len : Int) = 0 then
 Q (⟨#[47]⟩ : ByteArray) σ
 else
 lfpD (l3_ref02_Make B ro a0 Q ) ((⟨#[]⟩ : ByteArray), 0) σ
theorem ref02_Make_ok {a0 : Sl} {Q : ByteArray → AH → Prop} (h : Sep ro σ → f_ref02_Make B ro a0 σ Q) : c_ref02_Make B ro a0 σ Q := by
 refine zb h func65 ntmps65 fun h => ?_; unfold f_ref02_Make at h; refine z3 ?_; refine zp ?_; refine z2 (AW.seq (z3 ?_))
 refine zp ?_; refine zm (V_lenL rfl rfl underlying25 rfl rfl) ?_; refine zp ?_; refine z2 ?_; refine zi h (fun h => ?_) fun h => ?_
 ·refine z3 ?_; refine zp ?_; refine z2 ?_; refine AW.ret ?_; refine thenR ?_; exact bR1 results65 rfl ⟨_, rfl, h⟩
 refine AW.skip ?_; refine thenN (z3 ?_); refine zp ?_; refine z2 ?_; refine AW.seqJ (fun fr σ => ∃ (u0 : ByteArray), FrLe [(3, .string u0)] fr ∧ j1_ref02_Make B ro Q u0 σ) ?_ ?_
 ·rintro fr σ ⟨u0, hl, h⟩; refine AW.weaken ?_ hl (HLe.refl _)
  unfold j1_ref02_Make at h; refine z3 ?_; iterate 2 refine zp ?_
  refine z2 ?_; refine AW.ret ?_; exact bR1 results65 rfl ⟨_, rfl, h⟩
 refine z3 ?_; refine zp ?_; refine z2 (AW.block ?_)
 refine ARound.loop (fr' := [(0, Sl.v a0), (3, .string (⟨#[]⟩ : ByteArray)), (4, .int .i64 0)]) ?_ FL
 refine h (fun ⟨u1, u2⟩ σ => ARound _ _ _ _ _ _ [(0, Sl.v a0), (3, .string u1), (4, .int .i64 u2)] σ) ?_
 rintro ⟨u1, u2⟩ σ Y3 hY3 h
 show AW _ _ _ _ _ _ _ _
 unfold l3_ref02_Make at h; dsimp only at h; refine AW.seq (z3 ?_); iterate 2 refine zp ?_
 refine zm (V_lenL rfl rfl underlying25 rfl rfl) ?_; refine zp ?_; refine z2 ?_; refine zi h (fun h => ?_) fun h => ?_
 rotate_left
 ·refine AW.exit ?_; refine thenE (thenE ?_); refine blockE ?_
  refine thenN ?_; exact ⟨_, FL, h⟩
 refine AW.skip ?_; refine thenN (AW.seq (AW.block (AW.reg ?_))); iterate 3 refine zp ?_
 obtain ⟨p3, ha, h0, h1, h⟩ := h
 refine zm (V_ixA rfl underlying25 ty9 (ixL rfl ha) rfl h0 h1) ?_; refine zL underlying9 h fun u4 h => ?_; obtain ⟨hc, h⟩ := h
 refine zm (V_cat rfl rfl rfl hc) ?_; obtain ⟨hc, h⟩ := h
 refine zm (V_cat rfl rfl rfl hc) ?_; refine zp ?_; refine Lnil (blockN (thenN (AW.reg ?_))); iterate 3 refine zp ?_
 refine z2 ?_; refine ARound.head (fr' := [(0, Sl.v a0), (3, .string (u1 ++ ((⟨#[47]⟩ : ByteArray) ++ u4))), (4, .int .i64 (i64.wrap (u2 + 1)))]) ?_ FL
 exact hY3 _ _ h
def f_ref02_Suffix (B : World) (ro : AH) (a0 : ByteArray) (a1 : Int) (σ : AH) (Q : ByteArray → Bool → AH → Prop) : Prop :=
 c_ref02_Parts B ro a0 σ fun u0 u1 σ =>
 if (((¬ (u1 = true)) ∨ ((u0.len : Int) = 0)) ∨ (a1 < 0)) ∨ (9999999999 < a1) then
 Q (⟨#[]⟩ : ByteArray) false σ
 else
 c_ref02_Digits B ro a1 σ fun u2 σ =>
 a0.size + u2.size ≤ 9223372036854775807 ∧
 c_ref02_Parts B ro (a0 ++ u2) σ fun u3 u4 σ =>
 if ¬ (u4 = true) then
 Q (⟨#[]⟩ : ByteArray) false σ
 else
 Q (a0 ++ u2) true σ
theorem ref02_Suffix_ok {a0 : ByteArray} {a1 : Int} {Q : ByteArray → Bool → AH → Prop} (h : Sep ro σ → f_ref02_Suffix B ro a0 a1 σ Q) : c_ref02_Suffix B ro a0 a1 σ Q := by
 refine zb h func93 ntmps93 fun h => ?_; unfold f_ref02_Suffix at h; refine z3 ?_; iterate 2 refine zp ?_
 refine z4 ?_; refine zp ?_; refine zc func64 h ?_; rintro v σ ⟨u0, u1, rfl, h⟩; iterate 5 refine zp ?_
 refine z2 (AW.seq (z3 ?_))
 iterate 3 refine zp ?_
 refine Lsplit 4 (!u1) [(0, .string a0), (1, .int .i64 a1), (20, .bool ((!u1) || (decide ((u0.len : Int) = 0))))] ?_ ?_ ?_
 ·intro e2 hk2
  iterate 3 refine zn e2 ?_
  refine zk e2 ?_; exact hk2 _ (Fe e2)
 ·intro e2 hk2
  refine zy e2 ?_; refine Lypb (V_lenL rfl rfl underlying25 rfl rfl) rfl rfl rfl rfl e2 ?_
  refine zy e2 ?_; refine zk e2 ?_; exact hk2 _ (Fe e2)
 intro fr hl
 refine Lfr hl ?_
 refine zp ?_; refine Lsplit 3 ((!u1) || (decide ((u0.len : Int) = 0))) [(0, .string a0), (1, .int .i64 a1), (24, .bool (((!u1) || (decide ((u0.len : Int) = 0))) || (decide (a1 < 0))))] ?_ ?_ ?_
 ·intro e7 hk7
  iterate 2 refine zn e7 ?_
  refine zk e7 ?_; exact hk7 _ (Fe e7)
 ·intro e7 hk7
  refine zy e7 ?_; refine zy e7 ?_; refine zk e7 ?_; exact hk7 _ (Fe e7)
 intro fr hl
 refine Lfr hl ?_
 refine zp ?_; refine Lsplit 3 (((!u1) || (decide ((u0.len : Int) = 0))) || (decide (a1 < 0))) [(0, .string a0), (1, .int .i64 a1), (28, .bool ((((!u1) || (decide ((u0.len : Int) = 0))) || (decide (a1 < 0))) || (decide (9999999999 < a1))))] ?_ ?_ ?_
 ·intro e11 hk11
  iterate 2 refine zn e11 ?_
  refine zk e11 ?_; exact hk11 _ (Fe e11)
 ·intro e11 hk11
  refine zy e11 ?_; refine zy e11 ?_; refine zk e11 ?_; exact hk11 _ (Fe e11)
 intro fr hl
 refine Lfr hl ?_
 refine z2 ?_; refine AW.iff rfl (bor_iff (bor_iff (bor_iff (bnot_iff Iff.rfl) decide_eq_true_iff) decide_eq_true_iff) decide_eq_true_iff) h (fun h => ?_) (fun h => ?_)
 ·refine z3 ?_; iterate 2 refine zp ?_
  refine z2 ?_; refine AW.ret ?_; refine thenR ?_; exact bR2 results93 rfl rfl ⟨_, _, rfl, h⟩
 refine AW.skip ?_; refine thenN (z3 ?_); iterate 2 refine zp ?_
 refine zc func124 h ?_; rintro v σ ⟨u2, rfl, h⟩; obtain ⟨hc, h⟩ := h
 refine zm (V_cat rfl rfl rfl hc) ?_; refine zp ?_; refine z4 ?_; refine zp ?_; refine zc func64 h ?_; rintro v σ ⟨u3, u4, rfl, h⟩; iterate 4 refine zp ?_
 refine z2 (AW.seq (z3 ?_))
 iterate 2 refine zp ?_
 refine z2 ?_; refine AW.iff rfl (bnot_iff Iff.rfl) h (fun h => ?_) (fun h => ?_)
 ·refine z3 ?_; iterate 2 refine zp ?_
  refine z2 ?_; refine AW.ret ?_; refine thenR ?_; exact bR2 results93 rfl rfl ⟨_, _, rfl, h⟩
 refine AW.skip ?_; refine thenN (z3 ?_); iterate 3 refine zp ?_
 refine z2 ?_; refine AW.ret ?_; exact bR2 results93 rfl rfl ⟨_, _, rfl, h⟩
def j1_ref02_Name (B : World) (ro : AH) (Q : Bool → AH → Prop) (σ : AH) : Prop :=
 Q true σ
def j5_ref02_Name (B : World) (ro : AH) (a0 : ByteArray) (u0 : Int) (u1 : UInt8) (Q : Bool → AH → Prop) (Y2 : (Int) → AH → Prop) (u2 : Bool) (σ : AH) : Prop :=
 if ¬ ((((u2 = true) ∨ ((u1.toNat : Int) = 46)) ∨ ((u1.toNat : Int) = 95)) ∨ ((u1.toNat : Int) = 45)) then
 Q false σ
 else
 Y2 (i64.wrap (u0 + 1)) σ
def l2_ref02_Name (B : World) (ro : AH) (a0 : ByteArray) (Q : Bool → AH → Prop) : (Int) → AH → ((Int) → AH → Prop) → Prop := fun u0 σ Y2 =>
 if u0 < (a0.size : Int) then
 ∃ u1 : UInt8, (0 : Int) ≤ u0 ∧ a0[Int.toNat u0]? = some u1 ∧
 if (97 ≤ (u1.toNat : Int)) ∧ ((u1.toNat : Int) ≤ 122) then
  j5_ref02_Name B ro a0 u0 u1 Q Y2 true σ
 else
 j5_ref02_Name B ro a0 u0 u1 Q Y2 ((decide (48 ≤ (u1.toNat : Int))) && (decide ((u1.toNat : Int) ≤ 57))) σ
 else
 j1_ref02_Name B ro Q σ
def f_ref02_Name (B : World) (ro : AH) (a0 : ByteArray) (σ : AH) (Q : Bool → AH → Prop) : Prop :=
 if ((((a0.size : Int) < 1) ∨ (32 < (a0.size : Int))) ∨ (a0 = (⟨#[46]⟩ : ByteArray))) ∨ (a0 = (⟨#[46, 46]⟩ : ByteArray)) then
 Q false σ
 else
 lfpD (l2_ref02_Name B ro a0 Q ) (0) σ
theorem ref02_Name_ok {a0 : ByteArray} {Q : Bool → AH → Prop} (h : Sep ro σ → f_ref02_Name B ro a0 σ Q) : c_ref02_Name B ro a0 σ Q := by
 refine zb h func112 ntmps112 fun h => ?_; unfold f_ref02_Name at h; refine z3 ?_; refine zp ?_; refine z2 (AW.seq (z3 ?_))
 refine zp ?_; refine zm (V_lenS rfl rfl underlying9 rfl rfl) ?_; iterate 2 refine zp ?_
 refine Lsplit 4 (decide ((a0.size : Int) < 1)) [(0, .string a0), (12, .bool ((decide ((a0.size : Int) < 1)) || (decide (32 < (a0.size : Int)))))] ?_ ?_ ?_
 ·intro e3 hk3
  iterate 3 refine zn e3 ?_
  refine zk e3 ?_; exact hk3 _ (Fe e3)
 ·intro e3 hk3
  refine zy e3 ?_; refine Lypb (V_lenS rfl rfl underlying9 rfl rfl) rfl rfl rfl rfl e3 ?_
  refine zy e3 ?_; refine zk e3 ?_; exact hk3 _ (Fe e3)
 intro fr hl
 refine Lfr hl ?_
 refine zp ?_; refine Lsplit 3 ((decide ((a0.size : Int) < 1)) || (decide (32 < (a0.size : Int)))) [(0, .string a0), (16, .bool (((decide ((a0.size : Int) < 1)) || (decide (32 < (a0.size : Int)))) || (decide (a0 = (⟨#[46]⟩ : ByteArray)))))] ?_ ?_ ?_
 ·intro e8 hk8
  iterate 2 refine zn e8 ?_
  refine zk e8 ?_; exact hk8 _ (Fe e8)
 ·intro e8 hk8
  refine zy e8 ?_; refine zy e8 ?_; refine zk e8 ?_; exact hk8 _ (Fe e8)
 intro fr hl
 refine Lfr hl ?_
 refine zp ?_; refine Lsplit 3 (((decide ((a0.size : Int) < 1)) || (decide (32 < (a0.size : Int)))) || (decide (a0 = (⟨#[46]⟩ : ByteArray)))) [(0, .string a0), (20, .bool ((((decide ((a0.size : Int) < 1)) || (decide (32 < (a0.size : Int)))) || (decide (a0 = (⟨#[46]⟩ : ByteArray)))) || (decide (a0 = (⟨#[46, 46]⟩ : ByteArray)))))] ?_ ?_ ?_
 ·intro e12 hk12
  iterate 2 refine zn e12 ?_
  refine zk e12 ?_; exact hk12 _ (Fe e12)
 ·intro e12 hk12
  refine zy e12 ?_; refine zy e12 ?_; refine zk e12 ?_; exact hk12 _ (Fe e12)
 intro fr hl
 refine Lfr hl ?_
 refine z2 ?_; refine AW.iff rfl (bor_iff (bor_iff (bor_iff decide_eq_true_iff decide_eq_true_iff) decide_eq_true_iff) decide_eq_true_iff) h (fun h => ?_) (fun h => ?_)
 ·refine z3 ?_; refine zp ?_; refine z2 ?_; refine AW.ret ?_; refine thenR ?_; exact bR1 results112 rfl ⟨_, rfl, h⟩
 refine AW.skip ?_; refine thenN ?_; refine AW.seqJ (fun fr σ => FrLe [] fr ∧ j1_ref02_Name B ro Q σ) ?_ ?_
 ·rintro fr σ ⟨hl, h⟩; refine AW.weaken ?_ hl (HLe.refl _)
  unfold j1_ref02_Name at h; refine z3 ?_; refine zp ?_; refine z2 ?_; refine AW.ret ?_; exact bR1 results112 rfl ⟨_, rfl, h⟩
 refine z3 ?_; refine zp ?_; refine z2 (AW.block ?_)
 refine ARound.loop (fr' := [(0, .string a0), (3, .int .i64 0)]) ?_ FL
 refine h (fun u0 σ => ARound _ _ _ _ _ _ [(0, .string a0), (3, .int .i64 u0)] σ) ?_
 rintro u0 σ Y2 hY2 h
 show AW _ _ _ _ _ _ _ _
 unfold l2_ref02_Name at h; refine AW.seq (z3 ?_); iterate 2 refine zp ?_
 refine zm (V_lenS rfl rfl underlying9 rfl rfl) ?_; refine zp ?_; refine z2 ?_; refine zi h (fun h => ?_) fun h => ?_
 rotate_left
 ·refine AW.exit ?_; refine thenE (thenE ?_); refine blockE ?_
  refine thenN ?_; exact ⟨FL, h⟩
 refine AW.skip ?_; refine thenN (AW.seq (AW.block (z3 ?_))); iterate 2 refine zp ?_
 obtain ⟨u1, h0, hc, h⟩ := h
 refine zm (V_idxS rfl underlying9 rfl rfl h0 hc) ?_; refine zp ?_; refine z4 ?_; iterate 3 refine zp ?_
 refine Lsplit 3 (decide (97 ≤ (u1.toNat : Int))) [(0, .string a0), (3, .int .i64 u0), (4, .int .u8 (u1.toNat : Int)), (35, .bool ((decide (97 ≤ (u1.toNat : Int))) && (decide ((u1.toNat : Int) ≤ 122))))] ?_ ?_ ?_
 ·intro e2 hk2
  refine zy e2 ?_; refine zy e2 ?_; refine zk e2 ?_; exact hk2 _ (Fe e2)
 ·intro e2 hk2
  iterate 2 refine zn e2 ?_
  refine zk e2 ?_; exact hk2 _ (Fe e2)
 intro fr hl
 refine Lfr hl ?_
 refine zp ?_; refine LsplitJ 7 ((decide (97 ≤ (u1.toNat : Int))) && (decide ((u1.toNat : Int) ≤ 122))) (band_iff decide_eq_true_iff decide_eq_true_iff) h (fun fr σ => ∃ (u2 : Bool), FrLe [(0, .string a0), (3, .int .i64 u0), (4, .int .u8 (u1.toNat : Int)), (43, .bool u2)] fr ∧ j5_ref02_Name B ro a0 u0 u1 Q Y2 u2 σ) ?_ ?_ ?_
 ·intro h e6 hk6; iterate 3 refine zn e6 ?_
  refine Ln rfl rfl rfl rfl (.inr rfl) ?_
  refine Ln rfl rfl rfl rfl (.inr rfl) ?_
  refine zn e6 ?_; refine zk e6 ?_; exact hk6 _ _ ⟨_, FL, h⟩
 ·intro h e6 hk6; refine zy e6 ?_; refine zy e6 ?_; refine zy e6 ?_; refine Lsplit 3 (decide (48 ≤ (u1.toNat : Int))) [(0, .string a0), (3, .int .i64 u0), (4, .int .u8 (u1.toNat : Int)), (36, .bool ((decide (97 ≤ (u1.toNat : Int))) && (decide ((u1.toNat : Int) ≤ 122)))), (42, .bool ((decide (48 ≤ (u1.toNat : Int))) && (decide ((u1.toNat : Int) ≤ 57))))] ?_ ?_ ?_
  ·intro e9 hk9
   refine zy e9 ?_; refine zy e9 ?_; refine Lypb (V_pickT rfl (evb e9) rfl) rfl rfl rfl rfl e6 ?_
   exact hk9 _ (Fe e9)
  ·intro e9 hk9
   iterate 2 refine zn e9 ?_
   refine Lypb (V_pickF rfl (evb e9) rfl) rfl rfl rfl rfl e6 ?_
   exact hk9 _ (Fe e9)
  intro fr hl
  refine Lfr hl ?_
  refine zk e6 ?_; exact hk6 _ _ ⟨_, FL, h⟩
 rintro fr σ ⟨u2, hl, h⟩; unfold j5_ref02_Name at h; refine Lfr hl ?_
 refine zp ?_; refine Lsplit 3 u2 [(0, .string a0), (3, .int .i64 u0), (4, .int .u8 (u1.toNat : Int)), (47, .bool (u2 || (decide ((u1.toNat : Int) = 46))))] ?_ ?_ ?_
 ·intro e14 hk14
  iterate 2 refine zn e14 ?_
  refine zk e14 ?_; exact hk14 _ (Fe e14)
 ·intro e14 hk14
  refine zy e14 ?_; refine zy e14 ?_; refine zk e14 ?_; exact hk14 _ (Fe e14)
 intro fr hl
 refine Lfr hl ?_
 refine zp ?_; refine Lsplit 3 (u2 || (decide ((u1.toNat : Int) = 46))) [(0, .string a0), (3, .int .i64 u0), (4, .int .u8 (u1.toNat : Int)), (51, .bool ((u2 || (decide ((u1.toNat : Int) = 46))) || (decide ((u1.toNat : Int) = 95))))] ?_ ?_ ?_
 ·intro e18 hk18
  iterate 2 refine zn e18 ?_
  refine zk e18 ?_; exact hk18 _ (Fe e18)
 ·intro e18 hk18
  refine zy e18 ?_; refine zy e18 ?_; refine zk e18 ?_; exact hk18 _ (Fe e18)
 intro fr hl
 refine Lfr hl ?_
 refine zp ?_; refine Lsplit 3 ((u2 || (decide ((u1.toNat : Int) = 46))) || (decide ((u1.toNat : Int) = 95))) [(0, .string a0), (3, .int .i64 u0), (55, .bool (((u2 || (decide ((u1.toNat : Int) = 46))) || (decide ((u1.toNat : Int) = 95))) || (decide ((u1.toNat : Int) = 45))))] ?_ ?_ ?_
 ·intro e22 hk22
  iterate 2 refine zn e22 ?_
  refine zk e22 ?_; exact hk22 _ (Fe e22)
 ·intro e22 hk22
  refine zy e22 ?_; refine zy e22 ?_; refine zk e22 ?_; exact hk22 _ (Fe e22)
 intro fr hl
 refine Lfr hl ?_
 refine zp ?_; refine z2 ?_; refine AW.iff rfl (bnot_iff (bor_iff (bor_iff (bor_iff Iff.rfl decide_eq_true_iff) decide_eq_true_iff) decide_eq_true_iff)) h (fun h => ?_) (fun h => ?_)
 ·refine z3 ?_; refine zp ?_; refine z2 ?_; refine AW.ret ?_; refine blockR (thenR (thenR (blockR (thenR ?_)))); exact bR1 results112 rfl ⟨_, rfl, h⟩
 refine AW.skip ?_; refine blockN (thenN (AW.reg ?_)); iterate 3 refine zp ?_
 refine z2 ?_; refine ARound.head (fr' := [(0, .string a0), (3, .int .i64 (i64.wrap (u0 + 1)))]) ?_ FL
 exact hY2 _ _ h
def j1_ref02_Digits (B : World) (ro : AH) (Q : ByteArray → AH → Prop) (u0 : ByteArray) (σ : AH) : Prop :=
 Q u0 σ
def l3_ref02_Digits (B : World) (ro : AH) (Q : ByteArray → AH → Prop) : (Int × ByteArray × Int) → AH → ((Int × ByteArray × Int) → AH → Prop) → Prop := fun ⟨u0, u1, u2⟩ σ Y3 =>
 if u2 < 10 then
 nw ro σ (.cells #[.int .u8 (IntKind.u8.wrap (i64.wrap (48 + (Int.tmod u0 10))))] 5) fun u3 σ =>
 awp prog ro (convert 30 9 (Sl.v (⟨some ⟨u3, 0, none⟩, 1, 1⟩ : Sl))) (fun v σ =>
  (∃ (u4 : ByteArray), v = .string u4 ∧
  u4.size + u1.size ≤ 9223372036854775807 ∧
  Y3 (i64.wrap (Int.tdiv u0 10), u4 ++ u1, i64.wrap (u2 + 1)) σ)) σ
 else
 j1_ref02_Digits B ro Q u1 σ
def f_ref02_Digits (B : World) (ro : AH) (a0 : Int) (σ : AH) (Q : ByteArray → AH → Prop) : Prop :=
 lfpD (l3_ref02_Digits B ro Q ) (a0, (⟨#[]⟩ : ByteArray), 0) σ
theorem ref02_Digits_ok {a0 : Int} {Q : ByteArray → AH → Prop} (h : Sep ro σ → f_ref02_Digits B ro a0 σ Q) : c_ref02_Digits B ro a0 σ Q := by
 refine zb h func124 ntmps124 fun h => ?_; unfold f_ref02_Digits at h; refine z3 ?_; refine zp ?_; refine z4 ?_; refine zp ?_; refine z2 ?_; refine AW.seqJ (fun fr σ => ∃ (u0 : ByteArray), FrLe [(3, .string u0)] fr ∧ j1_ref02_Digits B ro Q u0 σ) ?_ ?_
 ·rintro fr σ ⟨u0, hl, h⟩; refine AW.weaken ?_ hl (HLe.refl _)
  unfold j1_ref02_Digits at h; refine z3 ?_; iterate 2 refine zp ?_
  refine z2 ?_; refine AW.ret ?_; exact bR1 results124 rfl ⟨_, rfl, h⟩
 refine z3 ?_; refine zp ?_; refine z2 (AW.block ?_)
 refine ARound.loop (fr' := [(0, .int .i64 a0), (3, .string (⟨#[]⟩ : ByteArray)), (4, .int .i64 0)]) ?_ FL
 refine h (fun ⟨u1, u2, u3⟩ σ => ARound _ _ _ _ _ _ [(0, .int .i64 u1), (3, .string u2), (4, .int .i64 u3)] σ) ?_
 rintro ⟨u1, u2, u3⟩ σ Y3 hY3 h
 show AW _ _ _ _ _ _ _ _
 unfold l3_ref02_Digits at h; dsimp only at h; refine AW.seq (z3 ?_); iterate 2 refine zp ?_
 refine z2 ?_; refine zi h (fun h => ?_) fun h => ?_
 rotate_left
 ·refine AW.exit ?_; refine thenE (thenE ?_); refine blockE ?_
  refine thenN ?_; exact ⟨_, FL, h⟩
 refine AW.skip ?_; refine thenN (AW.seq (AW.block (z3 ?_))); refine zp ?_; refine zm (V_rem rfl rfl rfl (by decide)) ?_; refine zp ?_; refine zm (V_cvt rfl rfl underlying3 underlying5) ?_; refine zA (A_bsl (vs := [(0, .int .u8 (IntKind.u8.wrap (i64.wrap (48 + (Int.tmod u1 10)))))]) (cs := #[.int .u8 (IntKind.u8.wrap (i64.wrap (48 + (Int.tmod u1 10))))]) rfl underlying30 ty5 (by decide) rfl rfl) h fun u4 h => ?_
 refine zl (X_cvt rfl rfl (awp_mono _ h ?_))
 rintro v σ ⟨u5, rfl, h⟩; refine zp ?_; obtain ⟨hc, h⟩ := h
 refine zm (V_cat rfl rfl rfl hc) ?_; refine zp ?_; refine z2 (AW.reg ?_)
 refine zp ?_; refine zm (V_quo rfl rfl rfl (by decide)) ?_; refine zp ?_; refine Lnil (blockN (thenN (AW.reg ?_))); iterate 3 refine zp ?_
 refine z2 ?_; refine ARound.head (fr' := [(0, .int .i64 (i64.wrap (Int.tdiv u1 10))), (3, .string (u5 ++ u2)), (4, .int .i64 (i64.wrap (u3 + 1)))]) ?_ FL
 exact hY3 _ _ h
def f_ref02_Home (B : World) (ro : AH) (a0 : ByteArray) (σ : AH) (Q : ByteArray → Bool → AH → Prop) : Prop :=
 c_ref02_Parts B ro a0 σ fun u0 u1 σ =>
 if (¬ (u1 = true)) ∨ ((u0.len : Int) = 0) then
 Q (⟨#[]⟩ : ByteArray) u1 σ
 else
 ∃ p2, u0.a = some p2 ∧ (0 : Int) ≤ 0 ∧ 0 < (u0.len : Int) ∧
 ∃ u3, acell ro σ (p2.add (Int.toNat 0 * 1)) = some (.string u3) ∧
 Q u3 true σ
theorem ref02_Home_ok {a0 : ByteArray} {Q : ByteArray → Bool → AH → Prop} (h : Sep ro σ → f_ref02_Home B ro a0 σ Q) : c_ref02_Home B ro a0 σ Q := by
 refine zb h func127 ntmps127 fun h => ?_; unfold f_ref02_Home at h; refine z3 ?_; iterate 2 refine zp ?_
 refine z4 ?_; refine zp ?_; refine zc func64 h ?_; rintro v σ ⟨u0, u1, rfl, h⟩; iterate 5 refine zp ?_
 refine z2 (AW.seq (z3 ?_))
 iterate 3 refine zp ?_
 refine Lsplit 4 (!u1) [(4, Sl.v u0), (5, .bool u1), (17, .bool ((!u1) || (decide ((u0.len : Int) = 0))))] ?_ ?_ ?_
 ·intro e2 hk2
  iterate 3 refine zn e2 ?_
  refine zk e2 ?_; exact hk2 _ (Fe e2)
 ·intro e2 hk2
  refine zy e2 ?_; refine Lypb (V_lenL rfl rfl underlying25 rfl rfl) rfl rfl rfl rfl e2 ?_
  refine zy e2 ?_; refine zk e2 ?_; exact hk2 _ (Fe e2)
 intro fr hl
 refine Lfr hl ?_
 refine z2 ?_; refine AW.iff rfl (bor_iff (bnot_iff Iff.rfl) decide_eq_true_iff) h (fun h => ?_) (fun h => ?_)
 ·refine z3 ?_; iterate 3 refine zp ?_
  refine z2 ?_; refine AW.ret ?_; refine thenR ?_; exact bR2 results127 rfl rfl ⟨_, _, rfl, h⟩
 refine AW.skip ?_; refine thenN (z3 ?_); refine zp ?_; obtain ⟨p2, ha, h0, h1, h⟩ := h
 refine zm (V_ixA rfl underlying25 ty9 (ixL rfl ha) rfl h0 h1) ?_; refine zL underlying9 h fun u3 h => ?_; iterate 2 refine zp ?_
 refine z2 ?_; refine AW.ret ?_; exact bR2 results127 rfl rfl ⟨_, _, rfl, h⟩
end G
namespace Pa
open Go SL
def okc (c : UInt8) : Bool := (97 ≤ c.toNat && c.toNat ≤ 122) || (48 ≤ c.toNat && c.toNat ≤ 57) || c.toNat == 46 || c.toNat == 95 || c.toNat == 45
def nameOk (l : Str) : Bool := decide (1 ≤ l.length) && decide (l.length ≤ 32) && (l != [46]) && (l != [46, 46]) && l.all okc
def cut : Str → List Str
 | [] => [[]]
 | c :: r => if c = 47 then [] :: cut r else match cut r with | [] => [[c]] | h :: t => (c :: h) :: t
def parts (l : Str) : Option (List Str) :=
 if l = [47] then some []
 else if l.length ≤ 128 ∧ l.head? = some 47 ∧ (cut (l.drop 1)).length ≤ 8 ∧ (cut (l.drop 1)).all nameOk = true then some (cut (l.drop 1)) else none
def mk (ps : List Str) : Str := if ps = [] then [47] else ps.flatMap (fun x => 47 :: x)
theorem cut_ne (l : Str) : cut l ≠ [] := by
 cases l with
 | nil => simp [cut]
 | cons c r => unfold cut; split <;> (try split) <;> simp
theorem name_no {x : Str} (h : nameOk x = true) : 47 ∉ x := by
 intro hm
 unfold nameOk at h
 simp only [Bool.and_eq_true, List.all_eq_true] at h
 have := h.2 47 hm
 exact absurd this (by decide)
theorem name_len {x : Str} (h : nameOk x = true) : 1 ≤ x.length ∧ x.length ≤ 32 := by
 unfold nameOk at h
 simp only [Bool.and_eq_true, decide_eq_true_eq] at h
 exact ⟨h.1.1.1.1, h.1.1.1.2⟩
theorem cut_flat (l : Str) : (cut l).flatMap (fun x => 47 :: x) = 47 :: l := by
 induction l with
 | nil => rfl
 | cons c r ih =>
  unfold cut
  split
  ·rename_i h; subst h
   rw [List.flatMap_cons, ih]; rfl
  ·split
   ·rename_i h; exact absurd h (cut_ne r)
   ·rename_i h t e
    rw [e, List.flatMap_cons] at ih
    rw [List.flatMap_cons]
    simp only [List.cons_append, List.cons.injEq, true_and] at ih ⊢
    exact ih
theorem cut_word (x : Str) (hx : 47 ∉ x) : cut x = [x] := by
 induction x with
 | nil => rfl
 | cons c x ih =>
  simp at hx
  unfold cut
  rw [if_neg (fun e => hx.1 e.symm), ih hx.2]
theorem cut_app (x r : Str) (hx : 47 ∉ x) : cut (x ++ 47 :: r) = x :: cut r := by
 induction x with
 | nil => rw [List.nil_append]; conv => lhs; unfold cut
          rw [if_pos rfl]
 | cons c x ih =>
  simp at hx
  rw [List.cons_append]
  conv => lhs; unfold cut
  rw [if_neg (fun e => hx.1 e.symm), ih hx.2]
theorem cut_mk : ∀ (ps : List Str), ps ≠ [] → (∀ x ∈ ps, 47 ∉ x) → cut ((ps.flatMap (fun x => 47 :: x)).drop 1) = ps := by
 intro ps
 induction ps with
 | nil => intro h; exact absurd rfl h
 | cons x ps ih =>
  intro _ hx
  rw [List.flatMap_cons]
  cases ps with
  | nil => simpa using cut_word x (hx x (by simp))
  | cons y ps =>
   have := ih (by simp) fun z hz => hx z (by simp [hz])
   rw [List.flatMap_cons] at this ⊢
   simp only [List.cons_append, List.drop_succ_cons, List.drop_zero] at this ⊢
   rw [cut_app x _ (hx x (by simp)), this]
theorem mk_head (ps : List Str) : ∃ r, mk ps = 47 :: r := by
 unfold mk
 cases ps with
 | nil => exact ⟨[], rfl⟩
 | cons x ps => exact ⟨_, rfl⟩
structure Good (ps : List Str) : Prop where
 n : ps.length ≤ 8
 ok : ∀ x ∈ ps, nameOk x = true
 len : (mk ps).length ≤ 128
theorem mk_ne {ps : List Str} (hn : ps ≠ []) (hx : ∀ x ∈ ps, nameOk x = true) : mk ps ≠ [47] := by
 unfold mk; rw [if_neg hn]
 cases ps with
 | nil => exact absurd rfl hn
 | cons x ps =>
  rw [List.flatMap_cons]
  have := (name_len (hx x (by simp))).1
  intro h
  have := congrArg List.length h
  simp at this
  have : x = [] := this.1
  subst this
  simp at *
theorem parts_iff {l : Str} {ps : List Str} : parts l = some ps ↔ l = mk ps ∧ Good ps := by
 constructor
 ·intro h
  unfold parts at h
  split at h
  ·rename_i e; cases h; exact ⟨e, by simp, by simp, by decide⟩
  ·split at h
   ·rename_i e1 e2
    cases h
    obtain ⟨h1, h2, h3, h4⟩ := e2
    cases l with
    | nil => cases h2
    | cons c r =>
     cases h2
     simp only [List.drop_succ_cons, List.drop_zero] at *
     have e : mk (cut r) = 47 :: r := by unfold mk; rw [if_neg (cut_ne r), cut_flat]
     exact ⟨e.symm, h3, by simpa using h4, by rw [e]; exact h1⟩
   ·cases h
 ·rintro ⟨rfl, h⟩
  unfold parts
  by_cases hn : ps = []
  ·subst hn; rfl
  ·rw [if_neg (mk_ne hn h.ok)]
   have e : cut ((mk ps).drop 1) = ps := by unfold mk; rw [if_neg hn]; exact cut_mk ps hn fun x hx => name_no (h.ok x hx)
   rw [e, if_pos]
   obtain ⟨r, hr⟩ := mk_head ps
   exact ⟨h.len, by rw [hr]; rfl, h.n, by simpa using h.ok⟩
theorem mk_inj {ps qs : List Str} (hp : Good ps) (hq : Good qs) (h : mk ps = mk qs) : ps = qs := by
 have a := parts_iff.2 ⟨rfl, hp⟩
 have b := parts_iff.2 ⟨h, hq⟩
 rw [a] at b; exact Option.some.inj b
def li (l : Str) : Nat → Int
 | 0 => -1
 | k + 1 => if l[k]? = some 47 then (k : Int) else li l k
theorem li_word (a x : Str) (hx : 47 ∉ x) : ∀ k, k ≤ x.length → li (a ++ 47 :: x) (a.length + 1 + k) = a.length := by
 intro k
 induction k with
 | zero => intro _; show li _ (a.length + 1) = _; unfold li; rw [if_pos (by simp)]
 | succ k ih =>
  intro hk
  show li _ ((a.length + 1 + k) + 1) = _
  unfold li
  rw [if_neg, ih (by omega)]
  rw [List.getElem?_append_right (by omega), show a.length + 1 + k - a.length = k + 1 by omega, List.getElem?_cons_succ, List.getElem?_eq_getElem (by omega)]
  intro h
  exact hx ((Option.some.inj h) ▸ List.getElem_mem _)
theorem mk_snoc (ps : List Str) (x : Str) : mk (ps ++ [x]) = (if ps = [] then [] else mk ps) ++ 47 :: x := by
 unfold mk
 rw [if_neg (by simp), List.flatMap_append]
 cases ps with
 | nil => simp
 | cons y ps => simp
theorem Good.up {ps : List Str} (h : Good ps) : Good ps.dropLast := by
 rcases List.eq_nil_or_concat ps with rfl | ⟨qs, x, rfl⟩
 ·exact h
 ·rw [List.concat_eq_append] at h ⊢
  rw [List.dropLast_concat]
  refine ⟨by have := h.n; simp at this; omega, fun y hy => h.ok y (by simp [hy]), ?_⟩
  have := h.len
  rw [mk_snoc] at this
  split at this
  ·rename_i e; subst e; decide
  ·simp at this; omega
theorem idx_no : ∀ (s : Str), 47 ∉ s → Lib.index s [47] = -1 := by
 intro s
 induction s with
 | nil => intro _; rfl
 | cons b l ih =>
  intro h
  simp at h
  unfold Lib.index
  rw [if_neg (by simp; exact h.1), ih h.2]; rfl
theorem idx_at : ∀ (a r : Str), 47 ∉ a → Lib.index (a ++ 47 :: r) [47] = a.length := by
 intro a
 induction a with
 | nil => intro r _; show Lib.index (47 :: r) [47] = 0; unfold Lib.index; rw [if_pos (by simp)]
 | cons b a ih =>
  intro r h
  simp at h
  rw [List.cons_append]
  unfold Lib.index
  rw [if_neg (by simp; exact h.1), ih r h.2, if_neg (by simp)]
  simp
theorem splitK_cut : ∀ (fuel : Nat) (s : Str), s.length < fuel → Lib.splitK [47] 0 (Lib.countFrom [47] fuel s) s = cut s := by
 intro fuel
 induction fuel with
 | zero => intro s h; omega
 | succ n ih =>
  intro s h
  unfold Lib.countFrom
  by_cases hm : 47 ∈ s
  ·obtain ⟨a, r, rfl, ha⟩ := List.eq_append_cons_of_mem hm
   rw [idx_at a r ha, if_neg (by simp), Nat.add_comm 1]
   unfold Lib.splitK
   rw [idx_at a r ha, if_neg (by simp)]
   simp only [Int.toNat_natCast, Nat.add_zero, List.take_left, List.length_cons, List.length_nil]
   have e : (a ++ 47 :: r).drop (a.length + 1) = r := by
    rw [show a ++ 47 :: r = (a ++ [47]) ++ r by simp, show a.length + 1 = (a ++ [47]).length by simp, List.drop_left]
   rw [show a.length + (0 + 1) = a.length + 1 by omega, e, ih r (by simp at h; omega), cut_app a r ha]
  ·rw [idx_no s hm, if_pos (by rfl), cut_word s hm]; rfl
theorem split_cut (s : ByteArray) : (Lib.splitB (S [47]) 0 (Lib.countB s (S [47])) s).map L = cut (L s) := by
 rw [show (Lib.splitB (S [47]) 0 (Lib.countB s (S [47])) s).map L = Lib.splitK [47] 0 (Lib.countB s (S [47])) (L s) from Lib.splitB_data _ _ _ _]
 have : Lib.countB s (S [47]) = Lib.count (L s) [47] := rfl
 rw [this]
 exact splitK_cut _ _ (by omega)
end Pa
end Go.Proofs.YthfpmipeejjogaaGreatDoor
