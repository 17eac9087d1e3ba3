/- GLib, GPath, PaA, Shelf, PaB, PaC, ZtG, MapIt -/
import Derived.Shelf.Strings.Builder1
import Derived.Shelf.Strings.Builder2
import Derived.Shelf.Small.Bits
import Derived.Shelf.Strings.BuilderF
import Derived.Shelf.Utf8.RuneCount
import Derived.Shelf.Strconv.Itoa0
import Derived.Shelf.Strconv.Itoa1
import Derived.Shelf.LaysM
import Derived.Shelf.Strconv.Itoa2
import Derived.Shelf.Strconv.Itoa3
import Derived.Shelf.Bytes.GrowSliceCatch
import Derived.Shelf.Bytes.GrowSlice
import Derived.Shelf.Strings.Search1
import Derived.Shelf.Strings.Search2
import Derived.Shelf.Strings.Search3
import Derived.Shelf.Strings.Count
import Derived.Shelf.Strings.Shaped
import Derived.Shelf.Strings.Prefix
import Derived.Shelf.Strings.Split
import Derived.Shelf.Strings.SplitShaped
import Derived.Shelf.Unicode.Decode
import Derived.Shelf.Strings.RuneCount
import Derived.Shelf.Strings.Explode
import Derived.Shelf.Bits.Mul64
import Derived.Shelf.Strings.Repeat
import Derived.Shelf.Unicode.DecodeSlow
import Derived.Shelf.Unicode.DecodeAny
import Derived.Ground.Names2Prog
import Derived.Shelf.Slices.Clone
import Derived.Shelf.Slices.SearchI
import Derived.Ground.SlgnProg
import Derived.Shelf.SlicesE.Clone
import Derived.Ground.SlgmProg
import Derived.Shelf.SortM.Plain
import Derived.Shelf.SortM.SortNone
import Derived.Shelf.SlIter.Nil
import Derived.Ground.GgzProg
import Derived.Laws.RangeString
import Derived.Test.YtomdigihapdhnaaGreatDoorProg
import Derived.Test.YtomdigihapdhnaaGreatDoorXC
/- Functions as predicate transformers, and the proofs that the code does what they tell: printed by wip/tools/gen.py. -/
namespace Go.Proofs.YtomdigihapdhnaaGreatDoor.G
open Go Go.Proofs.YtomdigihapdhnaaGreatDoor.SL
set_option linter.unusedVariables false
set_option linter.unusedSimpArgs false

def f_slices_Clone_int_int (B : World) (ro : AH) (a0 : Sl) (σ : AH) (Q : Sl → AH → Prop) : Prop :=
 if a0.a = none then
  Q (⟨none, 0, 0⟩ : Sl) σ
 else
 nw ro σ (.cells #[] 3) fun x5_1 σ =>
 awp Tryz.prog ro (Builtin.append_ #[55, 55] 55 #[Sl.v (⟨some ⟨x5_1, 0, none⟩, 0, 0⟩ : Sl), Sl.v a0]) (fun v σ => ∃ (x7_2 : Sl), v = Sl.v x7_2 ∧
  Q x7_2 σ) σ

set_option maxRecDepth 100000 in
set_option maxHeartbeats 4000000 in
theorem slices_Clone_int_int_ok {B : World} {ro : AH} {a0 : Sl} {σ : AH} {Q : Sl → AH → Prop} (h : Sep ro σ → f_slices_Clone_int_int B ro a0 σ Q) : c_slices_Clone_int_int B ro a0 σ Q := by
  refine ACalls.of_sep fun hsep => ?_
  replace h := h hsep
  refine ACalls.of_body (args := [Sl.v a0]) Tryz.func65 rfl (by rw [Tryz.ntmps65]; simp) ?_
  rw [Tryz.ntmps65]
  unfold f_slices_Clone_int_int at h
  refine AW.seq ?_
  refine AW.reg ?_
  refine Lp (V_asg rfl rfl) rfl rfl ?_
  refine Lnil ?_
  refine thenN ?_
  refine AW.seq ?_
  refine AW.seq ?_
  refine AW.reg ?_
  refine Lp (V_move rfl rfl) rfl rfl ?_
  refine Lp (V_eqL rfl Tryz.underlying55 rfl rfl) rfl rfl ?_
  refine Lnil ?_
  refine thenN ?_
  refine AW.iff rfl isNone_iff h (fun h => ?_) (fun h => ?_)
  · refine AW.seq ?_
    refine AW.reg ?_
    refine Lp (V_asg rfl rfl) rfl rfl ?_
    refine Lnil ?_
    refine thenN ?_
    refine AW.ret ?_
    refine thenR ?_
    exact bR1 Tryz.results65 rfl ⟨_, rfl, h⟩
  refine AW.skip ?_
  refine thenN ?_
  refine AW.seq ?_
  refine AW.reg ?_
  refine Ls rfl rfl (X_new (A_bsl (vs := []) (cs := #[]) rfl Tryz.underlying55 ty3 (by decide) rfl rfl) fun x5_1 g1 g2 => ?_)
  replace h := h x5_1 g1 g2
  refine Lp (V_move rfl rfl) rfl rfl ?_
  refine Ls rfl rfl (X_bi (s := Builtin.append_ #[55, 55] 55 #[Sl.v (⟨some ⟨x5_1, 0, none⟩, 0, 0⟩ : Sl), Sl.v a0]) rfl rfl (fun _ => rfl) (awp_mono _ h ?_))
  rintro v σ ⟨x7_2, rfl, h⟩
  refine Lp (V_asg rfl rfl) rfl rfl ?_
  refine Lnil ?_
  refine thenN ?_
  refine AW.ret ?_
  exact bR1 Tryz.results65 rfl ⟨_, rfl, h⟩

def f_bytes_Clone (B : World) (ro : AH) (a0 : Sl) (σ : AH) (Q : Sl → AH → Prop) : Prop :=
 if a0.a = none then
  Q (⟨none, 0, 0⟩ : Sl) σ
 else
 nw ro σ (.cells #[] 5) fun x5_1 σ =>
 awp Tryz.prog ro (Builtin.append_ #[24, 24] 24 #[Sl.v (⟨some ⟨x5_1, 0, none⟩, 0, 0⟩ : Sl), Sl.v a0]) (fun v σ => ∃ (x7_2 : Sl), v = Sl.v x7_2 ∧
  Q x7_2 σ) σ

set_option maxRecDepth 100000 in
set_option maxHeartbeats 4000000 in
theorem bytes_Clone_ok {B : World} {ro : AH} {a0 : Sl} {σ : AH} {Q : Sl → AH → Prop} (h : Sep ro σ → f_bytes_Clone B ro a0 σ Q) : c_bytes_Clone B ro a0 σ Q := by
  refine ACalls.of_sep fun hsep => ?_
  replace h := h hsep
  refine ACalls.of_body (args := [Sl.v a0]) Tryz.func80 rfl (by rw [Tryz.ntmps80]; simp) ?_
  rw [Tryz.ntmps80]
  unfold f_bytes_Clone at h
  refine AW.seq ?_
  refine AW.reg ?_
  refine Lp (V_asg rfl rfl) rfl rfl ?_
  refine Lnil ?_
  refine thenN ?_
  refine AW.seq ?_
  refine AW.seq ?_
  refine AW.reg ?_
  refine Lp (V_move rfl rfl) rfl rfl ?_
  refine Lp (V_eqL rfl Tryz.underlying24 rfl rfl) rfl rfl ?_
  refine Lnil ?_
  refine thenN ?_
  refine AW.iff rfl isNone_iff h (fun h => ?_) (fun h => ?_)
  · refine AW.seq ?_
    refine AW.reg ?_
    refine Lp (V_asg rfl rfl) rfl rfl ?_
    refine Lnil ?_
    refine thenN ?_
    refine AW.ret ?_
    refine thenR ?_
    exact bR1 Tryz.results80 rfl ⟨_, rfl, h⟩
  refine AW.skip ?_
  refine thenN ?_
  refine AW.seq ?_
  refine AW.reg ?_
  refine Ls rfl rfl (X_new (A_bsl (vs := []) (cs := #[]) rfl Tryz.underlying24 ty5 (by decide) rfl rfl) fun x5_1 g1 g2 => ?_)
  replace h := h x5_1 g1 g2
  refine Lp (V_move rfl rfl) rfl rfl ?_
  refine Ls rfl rfl (X_bi (s := Builtin.append_ #[24, 24] 24 #[Sl.v (⟨some ⟨x5_1, 0, none⟩, 0, 0⟩ : Sl), Sl.v a0]) rfl rfl (fun _ => rfl) (awp_mono _ h ?_))
  rintro v σ ⟨x7_2, rfl, h⟩
  refine Lp (V_asg rfl rfl) rfl rfl ?_
  refine Lnil ?_
  refine thenN ?_
  refine AW.ret ?_
  exact bR1 Tryz.results80 rfl ⟨_, rfl, h⟩

def f_strings_HasPrefix (B : World) (ro : AH) (a0 : ByteArray) (a1 : ByteArray) (σ : AH) (Q : Bool → AH → Prop) : Prop :=
 c_stringslite_HasPrefix B ro a0 a1 σ fun x7_1 σ =>
 Q x7_1 σ

set_option maxRecDepth 100000 in
set_option maxHeartbeats 4000000 in
theorem strings_HasPrefix_ok {B : World} {ro : AH} {a0 : ByteArray} {a1 : ByteArray} {σ : AH} {Q : Bool → AH → Prop} (h : Sep ro σ → f_strings_HasPrefix B ro a0 a1 σ Q) : c_strings_HasPrefix B ro a0 a1 σ Q := by
  refine ACalls.of_sep fun hsep => ?_
  replace h := h hsep
  refine ACalls.of_body (args := [.string a0, .string a1]) Tryz.func138 rfl (by rw [Tryz.ntmps138]; simp) ?_
  rw [Tryz.ntmps138]
  unfold f_strings_HasPrefix at h
  refine AW.seq ?_
  refine AW.reg ?_
  refine Lp (V_asg rfl rfl) rfl rfl ?_
  refine Lnil ?_
  refine thenN ?_
  refine AW.seq ?_
  refine AW.reg ?_
  refine Lp (V_move rfl rfl) rfl rfl ?_
  refine Lp (V_move rfl rfl) rfl rfl ?_
  refine Ls rfl rfl (X_call rfl Tryz.func197 rfl rfl rfl (ACalls.mono h ?_))
  rintro v σ ⟨x7_1, rfl, h⟩
  refine Lp (V_asg rfl rfl) rfl rfl ?_
  refine Lnil ?_
  refine thenN ?_
  refine AW.ret ?_
  exact bR1 Tryz.results138 rfl ⟨_, rfl, h⟩

def j1_stringslite_HasPrefix (B : World) (ro : AH) (Q : Bool → AH → Prop) (x17_2 : Bool) (σ : AH) : Prop :=
 Q x17_2 σ

def f_stringslite_HasPrefix (B : World) (ro : AH) (a0 : ByteArray) (a1 : ByteArray) (σ : AH) (Q : Bool → AH → Prop) : Prop :=
 if (a1.size : Int) ≤ (a0.size : Int) then
  cutOk none (some (a1.size : Int)) a0.size a0.size ∧
  j1_stringslite_HasPrefix B ro Q (decide ((a0.extract (0) (Int.toNat (a1.size : Int))) = a1)) σ
 else
 j1_stringslite_HasPrefix B ro Q false σ

set_option maxRecDepth 100000 in
set_option maxHeartbeats 4000000 in
theorem stringslite_HasPrefix_ok {B : World} {ro : AH} {a0 : ByteArray} {a1 : ByteArray} {σ : AH} {Q : Bool → AH → Prop} (h : Sep ro σ → f_stringslite_HasPrefix B ro a0 a1 σ Q) : c_stringslite_HasPrefix B ro a0 a1 σ Q := by
  refine ACalls.of_sep fun hsep => ?_
  replace h := h hsep
  refine ACalls.of_body (args := [.string a0, .string a1]) Tryz.func197 rfl (by rw [Tryz.ntmps197]; simp) ?_
  rw [Tryz.ntmps197]
  unfold f_stringslite_HasPrefix at h
  refine AW.seq ?_
  refine AW.reg ?_
  refine Lp (V_asg rfl rfl) rfl rfl ?_
  refine Lnil ?_
  refine thenN ?_
  refine AW.seq ?_
  refine AW.reg ?_
  refine Lp (V_move rfl rfl) rfl rfl ?_
  refine Lp (V_lenS rfl rfl Tryz.underlying9 rfl rfl) rfl rfl ?_
  refine Lp (V_move rfl rfl) rfl rfl ?_
  refine Lp (V_lenS rfl rfl Tryz.underlying9 rfl rfl) rfl rfl ?_
  refine Lp (V_geq rfl rfl rfl) rfl rfl ?_
  refine Lp (V_move rfl rfl) rfl rfl ?_
  refine LsplitJ 7 (decide ((a1.size : Int) ≤ (a0.size : Int))) decide_eq_true_iff h (fun fr σ => ∃ (x17_2 : Bool), FrLe [(17, .bool x17_2)] fr ∧ j1_stringslite_HasPrefix B ro Q x17_2 σ) ?_ ?_ ?_
  · intro h e5 hk5
    refine Lypb (V_move rfl rfl) rfl rfl rfl rfl e5 ?_
    refine Lypb (V_move rfl rfl) rfl rfl rfl rfl e5 ?_
    refine Lypb (V_lenS rfl rfl Tryz.underlying9 rfl rfl) rfl rfl rfl rfl e5 ?_
    obtain ⟨hc, h⟩ := h
    refine Lypb (V_slS (lo := none) (hi := (some (a1.size : Int))) rfl Tryz.underlying9 rfl optI_none (optI_some rfl) hc) rfl rfl rfl rfl e5 ?_
    refine Lypb (V_move rfl rfl) rfl rfl rfl rfl e5 ?_
    refine Lypb (V_eqlS rfl rfl rfl) rfl rfl rfl rfl e5 ?_
    refine Lp (V_pickT rfl (evb e5) rfl) rfl rfl ?_
    exact hk5 _ _ ⟨_, (FrLe.cons rfl (FrLe.nil _)), h⟩
  · intro h e5 hk5
    refine Ln rfl rfl rfl rfl (.inl (by rw [e5]; rfl)) ?_
    refine Ln rfl rfl rfl rfl (.inl (by rw [e5]; rfl)) ?_
    refine Ln rfl rfl rfl rfl (.inl (by rw [e5]; rfl)) ?_
    refine Ln rfl rfl rfl rfl (.inl (by rw [e5]; rfl)) ?_
    refine Ln rfl rfl rfl rfl (.inl (by rw [e5]; rfl)) ?_
    refine Ln rfl rfl rfl rfl (.inl (by rw [e5]; rfl)) ?_
    refine Lp (V_pickF rfl (evb e5) rfl) rfl rfl ?_
    exact hk5 _ _ ⟨_, (FrLe.cons rfl (FrLe.nil _)), h⟩
  rintro fr σ ⟨x17_2, hl, h⟩
  unfold j1_stringslite_HasPrefix at h
  refine Lfr hl ?_
  refine Lp (V_asg rfl rfl) rfl rfl ?_
  refine Lnil ?_
  refine thenN ?_
  refine AW.ret ?_
  exact bR1 Tryz.results197 rfl ⟨_, rfl, h⟩

def f_strings_LastIndexByte (B : World) (ro : AH) (a0 : ByteArray) (a1 : Int) (σ : AH) (Q : Int → AH → Prop) : Prop :=
 c_bytealg_LastIndexByteString B ro a0 a1 σ fun x7_1 σ =>
 Q x7_1 σ

set_option maxRecDepth 100000 in
set_option maxHeartbeats 4000000 in
theorem strings_LastIndexByte_ok {B : World} {ro : AH} {a0 : ByteArray} {a1 : Int} {σ : AH} {Q : Int → AH → Prop} (h : Sep ro σ → f_strings_LastIndexByte B ro a0 a1 σ Q) : c_strings_LastIndexByte B ro a0 a1 σ Q := by
  refine ACalls.of_sep fun hsep => ?_
  replace h := h hsep
  refine ACalls.of_body (args := [.string a0, .int .u8 a1]) Tryz.func227 rfl (by rw [Tryz.ntmps227]; simp) ?_
  rw [Tryz.ntmps227]
  unfold f_strings_LastIndexByte at h
  refine AW.seq ?_
  refine AW.reg ?_
  refine Lp (V_asg rfl rfl) rfl rfl ?_
  refine Lnil ?_
  refine thenN ?_
  refine AW.seq ?_
  refine AW.reg ?_
  refine Lp (V_move rfl rfl) rfl rfl ?_
  refine Lp (V_move rfl rfl) rfl rfl ?_
  refine Ls rfl rfl (X_call rfl Tryz.func264 rfl rfl rfl (ACalls.mono h ?_))
  rintro v σ ⟨x7_1, rfl, h⟩
  refine Lp (V_asg rfl rfl) rfl rfl ?_
  refine Lnil ?_
  refine thenN ?_
  refine AW.ret ?_
  exact bR1 Tryz.results227 rfl ⟨_, rfl, h⟩

def j1_bytealg_LastIndexByteString (B : World) (ro : AH) (Q : Int → AH → Prop) (σ : AH) : Prop :=
 Q (-1) σ

def l2_bytealg_LastIndexByteString (B : World) (ro : AH) (a0 : ByteArray) (a1 : Int) (Q : Int → AH → Prop) : (Int) → AH → ((Int) → AH → Prop) → Prop := fun x5_3 σ Y2 =>
 if 0 ≤ x5_3 then
  ∃ x15_4 : UInt8, (0 : Int) ≤ x5_3 ∧ a0[Int.toNat x5_3]? = some x15_4 ∧
  if (x15_4.toNat : Int) = a1 then
   Q x5_3 σ
  else
  Y2 (IntKind.i64.wrap (x5_3 - 1)) σ
 else
 j1_bytealg_LastIndexByteString B ro Q σ

def f_bytealg_LastIndexByteString (B : World) (ro : AH) (a0 : ByteArray) (a1 : Int) (σ : AH) (Q : Int → AH → Prop) : Prop :=
 lfpD (l2_bytealg_LastIndexByteString B ro a0 a1 Q ) (IntKind.i64.wrap ((a0.size : Int) - 1)) σ

set_option maxRecDepth 100000 in
set_option maxHeartbeats 4000000 in
theorem bytealg_LastIndexByteString_ok {B : World} {ro : AH} {a0 : ByteArray} {a1 : Int} {σ : AH} {Q : Int → AH → Prop} (h : Sep ro σ → f_bytealg_LastIndexByteString B ro a0 a1 σ Q) : c_bytealg_LastIndexByteString B ro a0 a1 σ Q := by
  refine ACalls.of_sep fun hsep => ?_
  replace h := h hsep
  refine ACalls.of_body (args := [.string a0, .int .u8 a1]) Tryz.func264 rfl (by rw [Tryz.ntmps264]; simp) ?_
  rw [Tryz.ntmps264]
  unfold f_bytealg_LastIndexByteString at h
  refine AW.seq ?_
  refine AW.reg ?_
  refine Lp (V_asg rfl rfl) rfl rfl ?_
  refine Lnil ?_
  refine thenN ?_
  refine AW.seqJ (fun fr σ => FrLe [] fr ∧ j1_bytealg_LastIndexByteString B ro Q σ) ?_ ?_
  · rintro fr σ ⟨hl, h⟩
    refine AW.weaken ?_ hl (HLe.refl _)
    unfold j1_bytealg_LastIndexByteString at h
    refine AW.seq ?_
    refine AW.reg ?_
    refine Lp (V_asg rfl rfl) rfl rfl ?_
    refine Lnil ?_
    refine thenN ?_
    refine AW.ret ?_
    exact bR1 Tryz.results264 rfl ⟨_, rfl, h⟩
  refine AW.seq ?_
  refine AW.reg ?_
  refine Lp (V_move rfl rfl) rfl rfl ?_
  refine Lp (V_lenS rfl rfl Tryz.underlying9 rfl rfl) rfl rfl ?_
  refine Lp (V_sub rfl rfl rfl) rfl rfl ?_
  refine Lp (V_asg rfl rfl) rfl rfl ?_
  refine Lnil ?_
  refine thenN ?_
  refine AW.block ?_
  refine ARound.loop (fr' := [(0, .string a0), (1, .int .u8 a1), (5, .int .i64 (IntKind.i64.wrap ((a0.size : Int) - 1)))]) ?_ (FrLe.cons rfl (FrLe.cons rfl (FrLe.cons rfl (FrLe.nil _))))
  refine h (fun x5_3 σ => ARound _ _ _ _ _ _ [(0, .string a0), (1, .int .u8 a1), (5, .int .i64 x5_3)] σ) ?_
  rintro x5_3 σ Y2 hY2 h
  show AW _ _ _ _ _ _ _ _
  unfold l2_bytealg_LastIndexByteString at h
  refine AW.seq ?_
  refine AW.seq ?_
  refine AW.reg ?_
  refine Lp (V_move rfl rfl) rfl rfl ?_
  refine Lp (V_geq rfl rfl rfl) rfl rfl ?_
  refine Lnil ?_
  refine thenN ?_
  refine AW.iff rfl decide_eq_true_iff h (fun h => ?_) (fun h => ?_)
  rotate_left
  · refine AW.exit ?_
    refine thenE ?_
    refine thenE ?_
    refine blockE ?_
    refine thenN ?_
    exact ⟨(FrLe.nil _), h⟩
  refine AW.skip ?_
  refine thenN ?_
  refine AW.seq ?_
  refine AW.block ?_
  refine AW.seq ?_
  refine AW.reg ?_
  refine Lp (V_move rfl rfl) rfl rfl ?_
  refine Lp (V_move rfl rfl) rfl rfl ?_
  obtain ⟨x15_4, h0, hc, h⟩ := h
  refine Lp (V_idxS rfl Tryz.underlying9 rfl rfl h0 hc) rfl rfl ?_
  refine Lp (V_move rfl rfl) rfl rfl ?_
  refine Lp (V_eql rfl rfl rfl) rfl rfl ?_
  refine Lnil ?_
  refine thenN ?_
  refine AW.iff rfl decide_eq_true_iff h (fun h => ?_) (fun h => ?_)
  · refine AW.seq ?_
    refine AW.reg ?_
    refine Lp (V_move rfl rfl) rfl rfl ?_
    refine Lp (V_asg rfl rfl) rfl rfl ?_
    refine Lnil ?_
    refine thenN ?_
    refine AW.ret ?_
    refine blockR ?_
    refine thenR ?_
    refine thenR ?_
    refine blockR ?_
    refine thenR ?_
    exact bR1 Tryz.results264 rfl ⟨_, rfl, h⟩
  refine AW.skip ?_
  refine blockN ?_
  refine thenN ?_
  refine AW.reg ?_
  refine Lp (V_move rfl rfl) rfl rfl ?_
  refine Lp (V_sub rfl rfl rfl) rfl rfl ?_
  refine Lp (V_asg rfl rfl) rfl rfl ?_
  refine Lnil ?_
  refine thenN ?_
  refine ARound.head (fr' := [(0, .string a0), (1, .int .u8 a1), (5, .int .i64 (IntKind.i64.wrap (x5_3 - 1)))]) ?_ (FrLe.cons rfl (FrLe.cons rfl (FrLe.cons rfl (FrLe.nil _))))
  exact hY2 _ _ h

end Go.Proofs.YtomdigihapdhnaaGreatDoor.G

/- Functions as predicate transformers, and the proofs that the code does what they tell: printed by wip/tools/gen.py. -/
namespace Go.Proofs.YtomdigihapdhnaaGreatDoor.G
open Go Go.Proofs.YtomdigihapdhnaaGreatDoor.SL
set_option linter.unusedVariables false
set_option linter.unusedSimpArgs false

def f_path_Check (B : World) (ro : AH) (a0 : ByteArray) (σ : AH) (Q : Int → AH → Prop) : Prop :=
 c_path_Parts B ro a0 σ fun x7_1 x7_2 σ =>
 Q x7_2 σ

set_option maxRecDepth 100000 in
set_option maxHeartbeats 4000000 in
theorem path_Check_ok {B : World} {ro : AH} {a0 : ByteArray} {σ : AH} {Q : Int → AH → Prop} (h : Sep ro σ → f_path_Check B ro a0 σ Q) : c_path_Check B ro a0 σ Q := by
  refine ACalls.of_sep fun hsep => ?_
  replace h := h hsep
  refine ACalls.of_body (args := [.string a0]) Tryz.func82 rfl (by rw [Tryz.ntmps82]; simp) ?_
  rw [Tryz.ntmps82]
  unfold f_path_Check at h
  refine AW.seq ?_
  refine AW.reg ?_
  refine Lp (V_asg rfl rfl) rfl rfl ?_
  refine Lnil ?_
  refine thenN ?_
  refine AW.seq ?_
  refine AW.reg ?_
  refine Lp (V_move rfl rfl) rfl rfl ?_
  refine Ls rfl rfl (X_call rfl Tryz.func134 rfl rfl rfl (ACalls.mono h ?_))
  rintro v σ ⟨x7_1, x7_2, rfl, h⟩
  refine Lp (V_move rfl rfl) rfl rfl ?_
  refine Lp (V_ext rfl rfl rfl) rfl rfl ?_
  refine Lp (V_ext rfl rfl rfl) rfl rfl ?_
  refine Lp (V_asg rfl rfl) rfl rfl ?_
  refine Lp (V_asg rfl rfl) rfl rfl ?_
  refine Lnil ?_
  refine thenN ?_
  refine AW.seq ?_
  refine AW.reg ?_
  refine Lp (V_move rfl rfl) rfl rfl ?_
  refine Lp (V_asg rfl rfl) rfl rfl ?_
  refine Lnil ?_
  refine thenN ?_
  refine AW.ret ?_
  exact bR1 Tryz.results82 rfl ⟨_, rfl, h⟩

def j1_path_Name (B : World) (ro : AH) (Q : Bool → AH → Prop) (σ : AH) : Prop :=
 Q true σ

def j6_path_Name (B : World) (ro : AH) (p21_2 : Addr) (Q : Bool → AH → Prop) (Y3 : (Unit) → AH → Prop) (x25_7 : Bool) (σ : AH) : Prop :=
 if x25_7 = true then
  Y3 () σ
 else
 Q false σ

def l3_path_Name (B : World) (ro : AH) (p21_2 : Addr) (Q : Bool → AH → Prop) : (Unit) → AH → ((Unit) → AH → Prop) → Prop := fun _ σ Y3 =>
 awp Tryz.prog ro (Instr.next (.pointer (some p21_2)) true 0) (fun v σ =>
  (v = .tuple #[.bool false] ∧
   j1_path_Name B ro Q σ) ∨
  (∃ (x22_4 : Int) (x22_5 : Int), v = .tuple #[.bool true, .int .i64 x22_4, .int .i32 x22_5] ∧
   if (97 ≤ x22_5) ∧ (x22_5 ≤ 122) then
    j6_path_Name B ro p21_2 Q Y3 ((decide (97 ≤ x22_5)) && (decide (x22_5 ≤ 122))) σ
   else
   if (48 ≤ x22_5) ∧ (x22_5 ≤ 57) then
    j6_path_Name B ro p21_2 Q Y3 ((decide (48 ≤ x22_5)) && (decide (x22_5 ≤ 57))) σ
   else
   if x22_5 = 46 then
    j6_path_Name B ro p21_2 Q Y3 (decide (x22_5 = 46)) σ
   else
   if x22_5 = 95 then
    j6_path_Name B ro p21_2 Q Y3 (decide (x22_5 = 95)) σ
   else
   j6_path_Name B ro p21_2 Q Y3 (decide (x22_5 = 45)) σ)) σ

def f_path_Name (B : World) (ro : AH) (a0 : ByteArray) (σ : AH) (Q : Bool → AH → Prop) : Prop :=
 if (((a0 = (⟨#[]⟩ : ByteArray)) ∨ (32 < (a0.size : Int))) ∨ (a0 = (⟨#[46]⟩ : ByteArray))) ∨ (a0 = (⟨#[46, 46]⟩ : ByteArray)) then
  Q false σ
 else
 awp Tryz.prog ro (Instr.range 9 (.string a0)) (fun v σ =>
  (∃ (p21_2 : Addr), v = .pointer (some p21_2) ∧
   lfpD (l3_path_Name B ro p21_2 Q ) () σ)) σ

set_option maxRecDepth 100000 in
set_option maxHeartbeats 4000000 in
theorem path_Name_ok {B : World} {ro : AH} {a0 : ByteArray} {σ : AH} {Q : Bool → AH → Prop} (h : Sep ro σ → f_path_Name B ro a0 σ Q) : c_path_Name B ro a0 σ Q := by
  refine ACalls.of_sep fun hsep => ?_
  replace h := h hsep
  refine ACalls.of_body (args := [.string a0]) Tryz.func99 rfl (by rw [Tryz.ntmps99]; simp) ?_
  rw [Tryz.ntmps99]
  unfold f_path_Name at h
  refine AW.seq ?_
  refine AW.reg ?_
  refine Lp (V_asg rfl rfl) rfl rfl ?_
  refine Lnil ?_
  refine thenN ?_
  refine AW.seq ?_
  refine AW.seq ?_
  refine AW.reg ?_
  refine Lp (V_move rfl rfl) rfl rfl ?_
  refine Lp (V_eqlS rfl rfl rfl) rfl rfl ?_
  refine Lp (V_move rfl rfl) rfl rfl ?_
  refine Lsplit 4 (decide (a0 = (⟨#[]⟩ : ByteArray))) [(0, .string a0), (11, .bool ((decide (a0 = (⟨#[]⟩ : ByteArray))) || (decide (32 < (a0.size : Int)))))] ?_ ?_ ?_
  · intro e2 hk2
    refine Ln rfl rfl rfl rfl (.inl (by rw [e2]; rfl)) ?_
    refine Ln rfl rfl rfl rfl (.inl (by rw [e2]; rfl)) ?_
    refine Ln rfl rfl rfl rfl (.inl (by rw [e2]; rfl)) ?_
    refine Lp (V_pickT rfl (evb e2) rfl) rfl rfl ?_
    exact hk2 _ (FrLe.cons rfl (FrLe.cons (by rw [e2]; rfl) (FrLe.nil _)))
  · intro e2 hk2
    refine Lypb (V_move rfl rfl) rfl rfl rfl rfl e2 ?_
    refine Lypb (V_lenS rfl rfl Tryz.underlying9 rfl rfl) rfl rfl rfl rfl e2 ?_
    refine Lypb (V_gtr rfl rfl rfl) rfl rfl rfl rfl e2 ?_
    refine Lp (V_pickF rfl (evb e2) rfl) rfl rfl ?_
    exact hk2 _ (FrLe.cons rfl (FrLe.cons (by rw [e2]; rfl) (FrLe.nil _)))
  intro fr hl
  refine Lfr hl ?_
  refine Lp (V_move rfl rfl) rfl rfl ?_
  refine Lsplit 3 ((decide (a0 = (⟨#[]⟩ : ByteArray))) || (decide (32 < (a0.size : Int)))) [(0, .string a0), (15, .bool (((decide (a0 = (⟨#[]⟩ : ByteArray))) || (decide (32 < (a0.size : Int)))) || (decide (a0 = (⟨#[46]⟩ : ByteArray)))))] ?_ ?_ ?_
  · intro e7 hk7
    refine Ln rfl rfl rfl rfl (.inl (by rw [e7]; rfl)) ?_
    refine Ln rfl rfl rfl rfl (.inl (by rw [e7]; rfl)) ?_
    refine Lp (V_pickT rfl (evb e7) rfl) rfl rfl ?_
    exact hk7 _ (FrLe.cons rfl (FrLe.cons (by rw [e7]; rfl) (FrLe.nil _)))
  · intro e7 hk7
    refine Lypb (V_move rfl rfl) rfl rfl rfl rfl e7 ?_
    refine Lypb (V_eqlS rfl rfl rfl) rfl rfl rfl rfl e7 ?_
    refine Lp (V_pickF rfl (evb e7) rfl) rfl rfl ?_
    exact hk7 _ (FrLe.cons rfl (FrLe.cons (by rw [e7]; rfl) (FrLe.nil _)))
  intro fr hl
  refine Lfr hl ?_
  refine Lp (V_move rfl rfl) rfl rfl ?_
  refine Lsplit 3 (((decide (a0 = (⟨#[]⟩ : ByteArray))) || (decide (32 < (a0.size : Int)))) || (decide (a0 = (⟨#[46]⟩ : ByteArray)))) [(0, .string a0), (19, .bool ((((decide (a0 = (⟨#[]⟩ : ByteArray))) || (decide (32 < (a0.size : Int)))) || (decide (a0 = (⟨#[46]⟩ : ByteArray)))) || (decide (a0 = (⟨#[46, 46]⟩ : ByteArray)))))] ?_ ?_ ?_
  · intro e11 hk11
    refine Ln rfl rfl rfl rfl (.inl (by rw [e11]; rfl)) ?_
    refine Ln rfl rfl rfl rfl (.inl (by rw [e11]; rfl)) ?_
    refine Lp (V_pickT rfl (evb e11) rfl) rfl rfl ?_
    exact hk11 _ (FrLe.cons rfl (FrLe.cons (by rw [e11]; rfl) (FrLe.nil _)))
  · intro e11 hk11
    refine Lypb (V_move rfl rfl) rfl rfl rfl rfl e11 ?_
    refine Lypb (V_eqlS rfl rfl rfl) rfl rfl rfl rfl e11 ?_
    refine Lp (V_pickF rfl (evb e11) rfl) rfl rfl ?_
    exact hk11 _ (FrLe.cons rfl (FrLe.cons (by rw [e11]; rfl) (FrLe.nil _)))
  intro fr hl
  refine Lfr hl ?_
  refine Lnil ?_
  refine thenN ?_
  refine AW.iff rfl (bor_iff (bor_iff (bor_iff decide_eq_true_iff decide_eq_true_iff) decide_eq_true_iff) decide_eq_true_iff) h (fun h => ?_) (fun h => ?_)
  · refine AW.seq ?_
    refine AW.reg ?_
    refine Lp (V_asg rfl rfl) rfl rfl ?_
    refine Lnil ?_
    refine thenN ?_
    refine AW.ret ?_
    refine thenR ?_
    exact bR1 Tryz.results99 rfl ⟨_, rfl, h⟩
  refine AW.skip ?_
  refine thenN ?_
  refine AW.seqJ (fun fr σ => FrLe [] fr ∧ j1_path_Name B ro Q σ) ?_ ?_
  · rintro fr σ ⟨hl, h⟩
    refine AW.weaken ?_ hl (HLe.refl _)
    unfold j1_path_Name at h
    refine AW.seq ?_
    refine AW.reg ?_
    refine Lp (V_asg rfl rfl) rfl rfl ?_
    refine Lnil ?_
    refine thenN ?_
    refine AW.ret ?_
    exact bR1 Tryz.results99 rfl ⟨_, rfl, h⟩
  refine AW.seq ?_
  refine AW.reg ?_
  refine Lp (V_move rfl rfl) rfl rfl ?_
  refine Ls rfl rfl (X_rng rfl rfl (awp_mono _ h ?_))
  rintro v σ ⟨p21_2, rfl, h⟩
  refine Lnil ?_
  refine thenN ?_
  refine AW.block ?_
  refine ARound.loop (fr' := [(21, .pointer (some p21_2))]) ?_ (FrLe.cons rfl (FrLe.nil _))
  refine h (fun _ σ => ARound _ _ _ _ _ _ [(21, .pointer (some p21_2))] σ) ?_
  rintro _ σ Y3 hY3 h
  show AW _ _ _ _ _ _ _ _
  unfold l3_path_Name at h
  refine AW.seq ?_
  refine AW.reg ?_
  refine Ls rfl rfl (X_nxt rfl rfl rfl (awp_mono _ h ?_))
  rintro v σ (⟨rfl, h⟩ | ⟨x22_4, x22_5, rfl, h⟩)
  · refine Lp (V_ext rfl rfl rfl) rfl rfl ?_
    refine Lnil ?_
    refine thenN ?_
    refine AW.seq ?_
    refine AW.no rfl ?_
    refine AW.exit ?_
    refine thenE ?_
    refine thenE ?_
    refine blockE ?_
    refine thenN ?_
    exact ⟨(FrLe.nil _), h⟩
  · refine Lp (V_ext rfl rfl rfl) rfl rfl ?_
    refine Lnil ?_
    refine thenN ?_
    refine AW.seq ?_
    refine AW.yes rfl ?_
    refine AW.skip ?_
    refine thenN ?_
    refine AW.block ?_
    refine AW.seq ?_
    refine AW.reg ?_
    refine Lp (V_ext rfl rfl rfl) rfl rfl ?_
    refine Lp (V_asg rfl rfl) rfl rfl ?_
    refine Lnil ?_
    refine thenN ?_
    refine AW.block ?_
    refine AW.seqJ (fun fr σ => ∃ (x25_7 : Bool), FrLe [(21, .pointer (some p21_2)), (25, .bool x25_7)] fr ∧ j6_path_Name B ro p21_2 Q Y3 x25_7 σ) ?_ ?_
    · rintro fr σ ⟨x25_7, hl, h⟩
      refine AW.weaken ?_ hl (HLe.refl _)
      unfold j6_path_Name at h
      refine AW.iff rfl Iff.rfl h (fun h => ?_) (fun h => ?_)
      · refine AW.skip ?_
        refine blockN ?_
        refine blockN ?_
        refine thenN ?_
        refine ARound.head (fr' := [(21, .pointer (some p21_2))]) ?_ (FrLe.cons rfl (FrLe.nil _))
        exact hY3 _ _ h
      refine AW.seq ?_
      refine AW.reg ?_
      refine Lp (V_asg rfl rfl) rfl rfl ?_
      refine Lnil ?_
      refine thenN ?_
      refine AW.ret ?_
      refine blockR ?_
      refine blockR ?_
      refine thenR ?_
      refine blockR ?_
      refine thenR ?_
      exact bR1 Tryz.results99 rfl ⟨_, rfl, h⟩
    refine AW.seq ?_
    refine AW.reg ?_
    refine Lp (V_move rfl rfl) rfl rfl ?_
    refine Lp (V_geq rfl rfl rfl) rfl rfl ?_
    refine Lp (V_move rfl rfl) rfl rfl ?_
    refine Lsplit 3 (decide (97 ≤ x22_5)) [(4, .int .i32 x22_5), (21, .pointer (some p21_2)), (31, .bool ((decide (97 ≤ x22_5)) && (decide (x22_5 ≤ 122))))] ?_ ?_ ?_
    · intro e2 hk2
      refine Lypb (V_move rfl rfl) rfl rfl rfl rfl e2 ?_
      refine Lypb (V_leq rfl rfl rfl) rfl rfl rfl rfl e2 ?_
      refine Lp (V_pickT rfl (evb e2) rfl) rfl rfl ?_
      exact hk2 _ (FrLe.cons rfl (FrLe.cons rfl (FrLe.cons (by rw [e2]; rfl) (FrLe.nil _))))
    · intro e2 hk2
      refine Ln rfl rfl rfl rfl (.inl (by rw [e2]; rfl)) ?_
      refine Ln rfl rfl rfl rfl (.inl (by rw [e2]; rfl)) ?_
      refine Lp (V_pickF rfl (evb e2) rfl) rfl rfl ?_
      exact hk2 _ (FrLe.cons rfl (FrLe.cons rfl (FrLe.cons (by rw [e2]; rfl) (FrLe.nil _))))
    intro fr hl
    refine Lfr hl ?_
    refine Lp (V_asg rfl rfl) rfl rfl ?_
    refine Lnil ?_
    refine thenN ?_
    refine AW.iff rfl (band_iff decide_eq_true_iff decide_eq_true_iff) h (fun h => ?_) (fun h => ?_)
    · refine AW.skip ?_
      refine thenN ?_
      exact ⟨_, (FrLe.cons rfl (FrLe.cons rfl (FrLe.nil _))), h⟩
    refine AW.seq ?_
    refine AW.reg ?_
    refine Lp (V_move rfl rfl) rfl rfl ?_
    refine Lp (V_geq rfl rfl rfl) rfl rfl ?_
    refine Lp (V_move rfl rfl) rfl rfl ?_
    refine Lsplit 3 (decide (48 ≤ x22_5)) [(4, .int .i32 x22_5), (21, .pointer (some p21_2)), (37, .bool ((decide (48 ≤ x22_5)) && (decide (x22_5 ≤ 57))))] ?_ ?_ ?_
    · intro e2 hk2
      refine Lypb (V_move rfl rfl) rfl rfl rfl rfl e2 ?_
      refine Lypb (V_leq rfl rfl rfl) rfl rfl rfl rfl e2 ?_
      refine Lp (V_pickT rfl (evb e2) rfl) rfl rfl ?_
      exact hk2 _ (FrLe.cons rfl (FrLe.cons rfl (FrLe.cons (by rw [e2]; rfl) (FrLe.nil _))))
    · intro e2 hk2
      refine Ln rfl rfl rfl rfl (.inl (by rw [e2]; rfl)) ?_
      refine Ln rfl rfl rfl rfl (.inl (by rw [e2]; rfl)) ?_
      refine Lp (V_pickF rfl (evb e2) rfl) rfl rfl ?_
      exact hk2 _ (FrLe.cons rfl (FrLe.cons rfl (FrLe.cons (by rw [e2]; rfl) (FrLe.nil _))))
    intro fr hl
    refine Lfr hl ?_
    refine Lp (V_asg rfl rfl) rfl rfl ?_
    refine Lnil ?_
    refine thenN ?_
    refine AW.iff rfl (band_iff decide_eq_true_iff decide_eq_true_iff) h (fun h => ?_) (fun h => ?_)
    · refine AW.skip ?_
      refine thenN ?_
      exact ⟨_, (FrLe.cons rfl (FrLe.cons rfl (FrLe.nil _))), h⟩
    refine AW.seq ?_
    refine AW.reg ?_
    refine Lp (V_move rfl rfl) rfl rfl ?_
    refine Lp (V_eql rfl rfl rfl) rfl rfl ?_
    refine Lp (V_asg rfl rfl) rfl rfl ?_
    refine Lnil ?_
    refine thenN ?_
    refine AW.iff rfl decide_eq_true_iff h (fun h => ?_) (fun h => ?_)
    · refine AW.skip ?_
      refine thenN ?_
      exact ⟨_, (FrLe.cons rfl (FrLe.cons rfl (FrLe.nil _))), h⟩
    refine AW.seq ?_
    refine AW.reg ?_
    refine Lp (V_move rfl rfl) rfl rfl ?_
    refine Lp (V_eql rfl rfl rfl) rfl rfl ?_
    refine Lp (V_asg rfl rfl) rfl rfl ?_
    refine Lnil ?_
    refine thenN ?_
    refine AW.iff rfl decide_eq_true_iff h (fun h => ?_) (fun h => ?_)
    · refine AW.skip ?_
      refine thenN ?_
      exact ⟨_, (FrLe.cons rfl (FrLe.cons rfl (FrLe.nil _))), h⟩
    refine AW.reg ?_
    refine Lp (V_move rfl rfl) rfl rfl ?_
    refine Lp (V_eql rfl rfl rfl) rfl rfl ?_
    refine Lp (V_asg rfl rfl) rfl rfl ?_
    refine Lnil ?_
    refine thenN ?_
    exact ⟨_, (FrLe.cons rfl (FrLe.cons rfl (FrLe.nil _))), h⟩

def j4_path_Parts (B : World) (ro : AH) (x19_3 : Sl) (Q : Sl → Int → AH → Prop) (σ : AH) : Prop :=
 Q x19_3 0 σ

def l5_path_Parts (B : World) (ro : AH) (x19_3 : Sl) (Q : Sl → Int → AH → Prop) : (Int) → AH → ((Int) → AH → Prop) → Prop := fun x25_6 σ Y5 =>
 if x25_6 < (x19_3.len : Int) then
  ∃ p27_7 : Addr, x19_3.a = some p27_7 ∧ (0 : Int) ≤ x25_6 ∧ x25_6 < (x19_3.len : Int) ∧
  ∃ (x28_8 : ByteArray), acell ro σ (p27_7.add (Int.toNat x25_6 * 1)) = some (.string x28_8) ∧
  c_path_Name B ro x28_8 σ fun x30_9 σ =>
  if ¬ (x30_9 = true) then
   Q (⟨none, 0, 0⟩ : Sl) 20 σ
  else
  Y5 (IntKind.i64.wrap (x25_6 + 1)) σ
 else
 j4_path_Parts B ro x19_3 Q σ

def j1_path_Parts (B : World) (ro : AH) (a0 : ByteArray) (Q : Sl → Int → AH → Prop) (x16_2 : Bool) (σ : AH) : Prop :=
 if x16_2 = true then
  Q (⟨none, 0, 0⟩ : Sl) 20 σ
 else
 cutOk (some 1) none a0.size a0.size ∧
 c_strings_Split B ro (a0.extract (Int.toNat 1) (a0.size)) (⟨#[47]⟩ : ByteArray) σ fun x19_3 σ =>
 if 8 < (x19_3.len : Int) then
  Q (⟨none, 0, 0⟩ : Sl) 20 σ
 else
 lfpD (l5_path_Parts B ro x19_3 Q ) (0) σ

def f_path_Parts (B : World) (ro : AH) (a0 : ByteArray) (σ : AH) (Q : Sl → Int → AH → Prop) : Prop :=
 if a0 = (⟨#[47]⟩ : ByteArray) then
  Q (⟨none, 0, 0⟩ : Sl) 0 σ
 else
 if 128 < (a0.size : Int) then
  j1_path_Parts B ro a0 Q true σ
 else
 c_strings_HasPrefix B ro a0 (⟨#[47]⟩ : ByteArray) σ fun x14_10 σ =>
 j1_path_Parts B ro a0 Q (!x14_10) σ

set_option maxRecDepth 100000 in
set_option maxHeartbeats 4000000 in
theorem path_Parts_ok {B : World} {ro : AH} {a0 : ByteArray} {σ : AH} {Q : Sl → Int → AH → Prop} (h : Sep ro σ → f_path_Parts B ro a0 σ Q) : c_path_Parts B ro a0 σ Q := by
  refine ACalls.of_sep fun hsep => ?_
  replace h := h hsep
  refine ACalls.of_body (args := [.string a0]) Tryz.func134 rfl (by rw [Tryz.ntmps134]; simp) ?_
  rw [Tryz.ntmps134]
  unfold f_path_Parts at h
  refine AW.seq ?_
  refine AW.reg ?_
  refine Lp (V_asg rfl rfl) rfl rfl ?_
  refine Lp (V_asg rfl rfl) rfl rfl ?_
  refine Lnil ?_
  refine thenN ?_
  refine AW.seq ?_
  refine AW.seq ?_
  refine AW.reg ?_
  refine Lp (V_move rfl rfl) rfl rfl ?_
  refine Lp (V_eqlS rfl rfl rfl) rfl rfl ?_
  refine Lnil ?_
  refine thenN ?_
  refine AW.iff rfl decide_eq_true_iff h (fun h => ?_) (fun h => ?_)
  · refine AW.seq ?_
    refine AW.reg ?_
    refine Lp (V_asg rfl rfl) rfl rfl ?_
    refine Lp (V_asg rfl rfl) rfl rfl ?_
    refine Lnil ?_
    refine thenN ?_
    refine AW.ret ?_
    refine thenR ?_
    exact bR2 Tryz.results134 rfl rfl ⟨_, _, rfl, h⟩
  refine AW.skip ?_
  refine thenN ?_
  refine AW.seq ?_
  refine AW.seq ?_
  refine AW.reg ?_
  refine Lp (V_move rfl rfl) rfl rfl ?_
  refine Lp (V_lenS rfl rfl Tryz.underlying9 rfl rfl) rfl rfl ?_
  refine Lp (V_gtr rfl rfl rfl) rfl rfl ?_
  refine Lp (V_move rfl rfl) rfl rfl ?_
  refine LsplitJ 4 (decide (128 < (a0.size : Int))) decide_eq_true_iff h (fun fr σ => ∃ (x16_2 : Bool), FrLe [(0, .string a0), (16, .bool x16_2)] fr ∧ j1_path_Parts B ro a0 Q x16_2 σ) ?_ ?_ ?_
  · intro h e3 hk3
    refine Ln rfl rfl rfl rfl (.inl (by rw [e3]; rfl)) ?_
    refine Ln rfl rfl rfl rfl (.inl (by rw [e3]; rfl)) ?_
    refine Ln rfl rfl rfl rfl (.inl (by rw [e3]; rfl)) ?_
    refine Lp (V_pickT rfl (evb e3) rfl) rfl rfl ?_
    exact hk3 _ _ ⟨_, (FrLe.cons rfl (FrLe.cons rfl (FrLe.nil _))), h⟩
  · intro h e3 hk3
    refine Lypb (V_move rfl rfl) rfl rfl rfl rfl e3 ?_
    refine Lyb rfl rfl rfl rfl e3 (X_call rfl Tryz.func138 rfl rfl rfl (ACalls.mono h ?_))
    rintro v σ ⟨x14_10, rfl, h⟩
    refine Lypb (V_not rfl rfl) rfl rfl rfl rfl e3 ?_
    refine Lp (V_pickF rfl (evb e3) rfl) rfl rfl ?_
    exact hk3 _ _ ⟨_, (FrLe.cons rfl (FrLe.cons rfl (FrLe.nil _))), h⟩
  rintro fr σ ⟨x16_2, hl, h⟩
  unfold j1_path_Parts at h
  refine Lfr hl ?_
  refine Lnil ?_
  refine thenN ?_
  refine AW.iff rfl Iff.rfl h (fun h => ?_) (fun h => ?_)
  · refine AW.seq ?_
    refine AW.reg ?_
    refine Lp (V_asg rfl rfl) rfl rfl ?_
    refine Lp (V_asg rfl rfl) rfl rfl ?_
    refine Lnil ?_
    refine thenN ?_
    refine AW.ret ?_
    refine thenR ?_
    exact bR2 Tryz.results134 rfl rfl ⟨_, _, rfl, h⟩
  refine AW.skip ?_
  refine thenN ?_
  refine AW.seq ?_
  refine AW.reg ?_
  refine Lp (V_move rfl rfl) rfl rfl ?_
  obtain ⟨hc, h⟩ := h
  refine Lp (V_slS (lo := (some 1)) (hi := none) rfl Tryz.underlying9 rfl (optI_some rfl) optI_none hc) rfl rfl ?_
  refine Ls rfl rfl (X_call rfl Tryz.func193 rfl rfl rfl (ACalls.mono h ?_))
  rintro v σ ⟨x19_3, rfl, h⟩
  refine Lp (V_asg rfl rfl) rfl rfl ?_
  refine Lnil ?_
  refine thenN ?_
  refine AW.seq ?_
  refine AW.seq ?_
  refine AW.reg ?_
  refine Lp (V_move rfl rfl) rfl rfl ?_
  refine Lp (V_lenL rfl rfl Tryz.underlying27 rfl rfl) rfl rfl ?_
  refine Lp (V_gtr rfl rfl rfl) rfl rfl ?_
  refine Lnil ?_
  refine thenN ?_
  refine AW.iff rfl decide_eq_true_iff h (fun h => ?_) (fun h => ?_)
  · refine AW.seq ?_
    refine AW.reg ?_
    refine Lp (V_asg rfl rfl) rfl rfl ?_
    refine Lp (V_asg rfl rfl) rfl rfl ?_
    refine Lnil ?_
    refine thenN ?_
    refine AW.ret ?_
    refine thenR ?_
    exact bR2 Tryz.results134 rfl rfl ⟨_, _, rfl, h⟩
  refine AW.skip ?_
  refine thenN ?_
  refine AW.seqJ (fun fr σ => FrLe [(4, Sl.v x19_3)] fr ∧ j4_path_Parts B ro x19_3 Q σ) ?_ ?_
  · rintro fr σ ⟨hl, h⟩
    refine AW.weaken ?_ hl (HLe.refl _)
    unfold j4_path_Parts at h
    refine AW.seq ?_
    refine AW.reg ?_
    refine Lp (V_move rfl rfl) rfl rfl ?_
    refine Lp (V_asg rfl rfl) rfl rfl ?_
    refine Lp (V_asg rfl rfl) rfl rfl ?_
    refine Lnil ?_
    refine thenN ?_
    refine AW.ret ?_
    exact bR2 Tryz.results134 rfl rfl ⟨_, _, rfl, h⟩
  refine AW.seq ?_
  refine AW.reg ?_
  refine Lp (V_move rfl rfl) rfl rfl ?_
  refine Lp (V_lenL rfl rfl Tryz.underlying27 rfl rfl) rfl rfl ?_
  refine Lp (V_move rfl rfl) rfl rfl ?_
  refine Lnil ?_
  refine thenN ?_
  refine AW.block ?_
  refine ARound.loop (fr' := [(4, Sl.v x19_3), (23, Sl.v x19_3), (24, .int .i64 (x19_3.len : Int)), (25, .int .i64 0)]) ?_ (FrLe.cons rfl (FrLe.cons rfl (FrLe.cons rfl (FrLe.cons rfl (FrLe.nil _)))))
  refine h (fun x25_6 σ => ARound _ _ _ _ _ _ [(4, Sl.v x19_3), (23, Sl.v x19_3), (24, .int .i64 (x19_3.len : Int)), (25, .int .i64 x25_6)] σ) ?_
  rintro x25_6 σ Y5 hY5 h
  show AW _ _ _ _ _ _ _ _
  unfold l5_path_Parts at h
  refine AW.seq ?_
  refine AW.reg ?_
  refine Lp (V_lss rfl rfl rfl) rfl rfl ?_
  refine Lnil ?_
  refine thenN ?_
  refine AW.seq ?_
  refine AW.iff rfl decide_eq_true_iff h (fun h => ?_) (fun h => ?_)
  rotate_left
  · refine AW.exit ?_
    refine thenE ?_
    refine thenE ?_
    refine blockE ?_
    refine thenN ?_
    exact ⟨(FrLe.cons rfl (FrLe.nil _)), h⟩
  refine AW.skip ?_
  refine thenN ?_
  refine AW.seq ?_
  refine AW.block ?_
  refine AW.seq ?_
  refine AW.reg ?_
  obtain ⟨p27_7, ha, h0, h1, h⟩ := h
  refine Lp (V_ixA rfl Tryz.underlying27 ty9 (ixL rfl ha) rfl h0 h1) rfl rfl ?_
  obtain ⟨x28_8, hc, h⟩ := h
  refine Ls rfl rfl (X_ld rfl Tryz.underlying9 rfl rfl hc ?_)
  refine Lp (V_asg rfl rfl) rfl rfl ?_
  refine Lnil ?_
  refine thenN ?_
  refine AW.seq ?_
  refine AW.reg ?_
  refine Lp (V_move rfl rfl) rfl rfl ?_
  refine Ls rfl rfl (X_call rfl Tryz.func99 rfl rfl rfl (ACalls.mono h ?_))
  rintro v σ ⟨x30_9, rfl, h⟩
  refine Lp (V_not rfl rfl) rfl rfl ?_
  refine Lnil ?_
  refine thenN ?_
  refine AW.iff rfl (bnot_iff Iff.rfl) h (fun h => ?_) (fun h => ?_)
  · refine AW.seq ?_
    refine AW.reg ?_
    refine Lp (V_asg rfl rfl) rfl rfl ?_
    refine Lp (V_asg rfl rfl) rfl rfl ?_
    refine Lnil ?_
    refine thenN ?_
    refine AW.ret ?_
    refine blockR ?_
    refine thenR ?_
    refine thenR ?_
    refine blockR ?_
    refine thenR ?_
    exact bR2 Tryz.results134 rfl rfl ⟨_, _, rfl, h⟩
  refine AW.skip ?_
  refine blockN ?_
  refine thenN ?_
  refine AW.reg ?_
  refine Lp (V_add rfl rfl rfl) rfl rfl ?_
  refine Lp (V_move rfl rfl) rfl rfl ?_
  refine Lnil ?_
  refine thenN ?_
  refine ARound.head (fr' := [(4, Sl.v x19_3), (23, Sl.v x19_3), (24, .int .i64 (x19_3.len : Int)), (25, .int .i64 (IntKind.i64.wrap (x25_6 + 1)))]) ?_ (FrLe.cons rfl (FrLe.cons rfl (FrLe.cons rfl (FrLe.cons rfl (FrLe.nil _)))))
  exact hY5 _ _ h

def j1_path_Parent (B : World) (ro : AH) (a0 : ByteArray) (Q : ByteArray → Int → AH → Prop) (x10_2 : Bool) (σ : AH) : Prop :=
 if x10_2 = true then
  Q (⟨#[]⟩ : ByteArray) 20 σ
 else
 c_strings_LastIndexByte B ro a0 47 σ fun x13_3 σ =>
 cutOk none (some (if 1 < x13_3 then x13_3 else 1)) a0.size a0.size ∧
 Q (a0.extract (0) (Int.toNat (if 1 < x13_3 then x13_3 else 1))) 0 σ

def f_path_Parent (B : World) (ro : AH) (a0 : ByteArray) (σ : AH) (Q : ByteArray → Int → AH → Prop) : Prop :=
 if a0 = (⟨#[47]⟩ : ByteArray) then
  j1_path_Parent B ro a0 Q true σ
 else
 c_path_Check B ro a0 σ fun x8_4 σ =>
 j1_path_Parent B ro a0 Q (!(decide (x8_4 = 0))) σ

set_option maxRecDepth 100000 in
set_option maxHeartbeats 4000000 in
theorem path_Parent_ok {B : World} {ro : AH} {a0 : ByteArray} {σ : AH} {Q : ByteArray → Int → AH → Prop} (h : Sep ro σ → f_path_Parent B ro a0 σ Q) : c_path_Parent B ro a0 σ Q := by
  refine ACalls.of_sep fun hsep => ?_
  replace h := h hsep
  refine ACalls.of_body (args := [.string a0]) Tryz.func179 rfl (by rw [Tryz.ntmps179]; simp) ?_
  rw [Tryz.ntmps179]
  unfold f_path_Parent at h
  refine AW.seq ?_
  refine AW.reg ?_
  refine Lp (V_asg rfl rfl) rfl rfl ?_
  refine Lp (V_asg rfl rfl) rfl rfl ?_
  refine Lnil ?_
  refine thenN ?_
  refine AW.seq ?_
  refine AW.seq ?_
  refine AW.reg ?_
  refine Lp (V_move rfl rfl) rfl rfl ?_
  refine Lp (V_eqlS rfl rfl rfl) rfl rfl ?_
  refine Lp (V_move rfl rfl) rfl rfl ?_
  refine LsplitJ 4 (decide (a0 = (⟨#[47]⟩ : ByteArray))) decide_eq_true_iff h (fun fr σ => ∃ (x10_2 : Bool), FrLe [(0, .string a0), (10, .bool x10_2)] fr ∧ j1_path_Parent B ro a0 Q x10_2 σ) ?_ ?_ ?_
  · intro h e2 hk2
    refine Ln rfl rfl rfl rfl (.inl (by rw [e2]; rfl)) ?_
    refine Ln rfl rfl rfl rfl (.inl (by rw [e2]; rfl)) ?_
    refine Ln rfl rfl rfl rfl (.inl (by rw [e2]; rfl)) ?_
    refine Lp (V_pickT rfl (evb e2) rfl) rfl rfl ?_
    exact hk2 _ _ ⟨_, (FrLe.cons rfl (FrLe.cons rfl (FrLe.nil _))), h⟩
  · intro h e2 hk2
    refine Lypb (V_move rfl rfl) rfl rfl rfl rfl e2 ?_
    refine Lyb rfl rfl rfl rfl e2 (X_call rfl Tryz.func82 rfl rfl rfl (ACalls.mono h ?_))
    rintro v σ ⟨x8_4, rfl, h⟩
    refine Lypb (V_neq rfl rfl rfl) rfl rfl rfl rfl e2 ?_
    refine Lp (V_pickF rfl (evb e2) rfl) rfl rfl ?_
    exact hk2 _ _ ⟨_, (FrLe.cons rfl (FrLe.cons rfl (FrLe.nil _))), h⟩
  rintro fr σ ⟨x10_2, hl, h⟩
  unfold j1_path_Parent at h
  refine Lfr hl ?_
  refine Lnil ?_
  refine thenN ?_
  refine AW.iff rfl Iff.rfl h (fun h => ?_) (fun h => ?_)
  · refine AW.seq ?_
    refine AW.reg ?_
    refine Lp (V_asg rfl rfl) rfl rfl ?_
    refine Lp (V_asg rfl rfl) rfl rfl ?_
    refine Lnil ?_
    refine thenN ?_
    refine AW.ret ?_
    refine thenR ?_
    exact bR2 Tryz.results179 rfl rfl ⟨_, _, rfl, h⟩
  refine AW.skip ?_
  refine thenN ?_
  refine AW.seq ?_
  refine AW.reg ?_
  refine Lp (V_move rfl rfl) rfl rfl ?_
  refine Lp (V_move rfl rfl) rfl rfl ?_
  refine Ls rfl rfl (X_call rfl Tryz.func227 rfl rfl rfl (ACalls.mono h ?_))
  rintro v σ ⟨x13_3, rfl, h⟩
  refine Lp (V_max2 rfl rfl) rfl rfl ?_
  obtain ⟨hc, h⟩ := h
  refine Lp (V_slS (lo := none) (hi := (some (if 1 < x13_3 then x13_3 else 1))) rfl Tryz.underlying9 rfl optI_none (optI_some rfl) hc) rfl rfl ?_
  refine Lp (V_asg rfl rfl) rfl rfl ?_
  refine Lp (V_asg rfl rfl) rfl rfl ?_
  refine Lnil ?_
  refine thenN ?_
  refine AW.ret ?_
  exact bR2 Tryz.results179 rfl rfl ⟨_, _, rfl, h⟩

def j1_path_Suffix (B : World) (ro : AH) (a0 : ByteArray) (a1 : Int) (Q : ByteArray → Int → AH → Prop) (x22_2 : Bool) (σ : AH) : Prop :=
 if x22_2 = true then
  Q (⟨#[]⟩ : ByteArray) 20 σ
 else
 c_strconv_Itoa B ro a1 σ fun x24_3 σ =>
 c_strings_Repeat B ro (⟨#[48]⟩ : ByteArray) (IntKind.i64.wrap (10 - (x24_3.size : Int))) σ fun x29_4 σ =>
 x29_4.size + x24_3.size ≤ 9223372036854775807 ∧
 a0.size + (x29_4 ++ x24_3).size ≤ 9223372036854775807 ∧
 c_path_Check B ro (a0 ++ (x29_4 ++ x24_3)) σ fun x34_5 σ =>
 if ¬ (x34_5 = 0) then
  Q (⟨#[]⟩ : ByteArray) x34_5 σ
 else
 Q (a0 ++ (x29_4 ++ x24_3)) 0 σ

def f_path_Suffix (B : World) (ro : AH) (a0 : ByteArray) (a1 : Int) (σ : AH) (Q : ByteArray → Int → AH → Prop) : Prop :=
 if ((a0 = (⟨#[47]⟩ : ByteArray)) ∨ (a1 < 0)) ∨ (9999999999 < a1) then
  j1_path_Suffix B ro a0 a1 Q true σ
 else
 c_path_Check B ro a0 σ fun x20_6 σ =>
 j1_path_Suffix B ro a0 a1 Q (!(decide (x20_6 = 0))) σ

set_option maxRecDepth 100000 in
set_option maxHeartbeats 4000000 in
theorem path_Suffix_ok {B : World} {ro : AH} {a0 : ByteArray} {a1 : Int} {σ : AH} {Q : ByteArray → Int → AH → Prop} (h : Sep ro σ → f_path_Suffix B ro a0 a1 σ Q) : c_path_Suffix B ro a0 a1 σ Q := by
  refine ACalls.of_sep fun hsep => ?_
  replace h := h hsep
  refine ACalls.of_body (args := [.string a0, .int .i64 a1]) Tryz.func180 rfl (by rw [Tryz.ntmps180]; simp) ?_
  rw [Tryz.ntmps180]
  unfold f_path_Suffix at h
  refine AW.seq ?_
  refine AW.reg ?_
  refine Lp (V_asg rfl rfl) rfl rfl ?_
  refine Lp (V_asg rfl rfl) rfl rfl ?_
  refine Lnil ?_
  refine thenN ?_
  refine AW.seq ?_
  refine AW.seq ?_
  refine AW.reg ?_
  refine Lp (V_move rfl rfl) rfl rfl ?_
  refine Lp (V_eqlS rfl rfl rfl) rfl rfl ?_
  refine Lp (V_move rfl rfl) rfl rfl ?_
  refine Lsplit 3 (decide (a0 = (⟨#[47]⟩ : ByteArray))) [(0, .string a0), (1, .int .i64 a1), (13, .bool ((decide (a0 = (⟨#[47]⟩ : ByteArray))) || (decide (a1 < 0))))] ?_ ?_ ?_
  · intro e2 hk2
    refine Ln rfl rfl rfl rfl (.inl (by rw [e2]; rfl)) ?_
    refine Ln rfl rfl rfl rfl (.inl (by rw [e2]; rfl)) ?_
    refine Lp (V_pickT rfl (evb e2) rfl) rfl rfl ?_
    exact hk2 _ (FrLe.cons rfl (FrLe.cons rfl (FrLe.cons (by rw [e2]; rfl) (FrLe.nil _))))
  · intro e2 hk2
    refine Lypb (V_move rfl rfl) rfl rfl rfl rfl e2 ?_
    refine Lypb (V_lss rfl rfl rfl) rfl rfl rfl rfl e2 ?_
    refine Lp (V_pickF rfl (evb e2) rfl) rfl rfl ?_
    exact hk2 _ (FrLe.cons rfl (FrLe.cons rfl (FrLe.cons (by rw [e2]; rfl) (FrLe.nil _))))
  intro fr hl
  refine Lfr hl ?_
  refine Lp (V_move rfl rfl) rfl rfl ?_
  refine Lsplit 3 ((decide (a0 = (⟨#[47]⟩ : ByteArray))) || (decide (a1 < 0))) [(0, .string a0), (1, .int .i64 a1), (17, .bool (((decide (a0 = (⟨#[47]⟩ : ByteArray))) || (decide (a1 < 0))) || (decide (9999999999 < a1))))] ?_ ?_ ?_
  · intro e6 hk6
    refine Ln rfl rfl rfl rfl (.inl (by rw [e6]; rfl)) ?_
    refine Ln rfl rfl rfl rfl (.inl (by rw [e6]; rfl)) ?_
    refine Lp (V_pickT rfl (evb e6) rfl) rfl rfl ?_
    exact hk6 _ (FrLe.cons rfl (FrLe.cons rfl (FrLe.cons (by rw [e6]; rfl) (FrLe.nil _))))
  · intro e6 hk6
    refine Lypb (V_move rfl rfl) rfl rfl rfl rfl e6 ?_
    refine Lypb (V_gtr rfl rfl rfl) rfl rfl rfl rfl e6 ?_
    refine Lp (V_pickF rfl (evb e6) rfl) rfl rfl ?_
    exact hk6 _ (FrLe.cons rfl (FrLe.cons rfl (FrLe.cons (by rw [e6]; rfl) (FrLe.nil _))))
  intro fr hl
  refine Lfr hl ?_
  refine Lp (V_move rfl rfl) rfl rfl ?_
  refine LsplitJ 4 (((decide (a0 = (⟨#[47]⟩ : ByteArray))) || (decide (a1 < 0))) || (decide (9999999999 < a1))) (bor_iff (bor_iff decide_eq_true_iff decide_eq_true_iff) decide_eq_true_iff) h (fun fr σ => ∃ (x22_2 : Bool), FrLe [(0, .string a0), (1, .int .i64 a1), (22, .bool x22_2)] fr ∧ j1_path_Suffix B ro a0 a1 Q x22_2 σ) ?_ ?_ ?_
  · intro h e10 hk10
    refine Ln rfl rfl rfl rfl (.inl (by rw [e10]; rfl)) ?_
    refine Ln rfl rfl rfl rfl (.inl (by rw [e10]; rfl)) ?_
    refine Ln rfl rfl rfl rfl (.inl (by rw [e10]; rfl)) ?_
    refine Lp (V_pickT rfl (evb e10) rfl) rfl rfl ?_
    exact hk10 _ _ ⟨_, (FrLe.cons rfl (FrLe.cons rfl (FrLe.cons rfl (FrLe.nil _)))), h⟩
  · intro h e10 hk10
    refine Lypb (V_move rfl rfl) rfl rfl rfl rfl e10 ?_
    refine Lyb rfl rfl rfl rfl e10 (X_call rfl Tryz.func82 rfl rfl rfl (ACalls.mono h ?_))
    rintro v σ ⟨x20_6, rfl, h⟩
    refine Lypb (V_neq rfl rfl rfl) rfl rfl rfl rfl e10 ?_
    refine Lp (V_pickF rfl (evb e10) rfl) rfl rfl ?_
    exact hk10 _ _ ⟨_, (FrLe.cons rfl (FrLe.cons rfl (FrLe.cons rfl (FrLe.nil _)))), h⟩
  rintro fr σ ⟨x22_2, hl, h⟩
  unfold j1_path_Suffix at h
  refine Lfr hl ?_
  refine Lnil ?_
  refine thenN ?_
  refine AW.iff rfl Iff.rfl h (fun h => ?_) (fun h => ?_)
  · refine AW.seq ?_
    refine AW.reg ?_
    refine Lp (V_asg rfl rfl) rfl rfl ?_
    refine Lp (V_asg rfl rfl) rfl rfl ?_
    refine Lnil ?_
    refine thenN ?_
    refine AW.ret ?_
    refine thenR ?_
    exact bR2 Tryz.results180 rfl rfl ⟨_, _, rfl, h⟩
  refine AW.skip ?_
  refine thenN ?_
  refine AW.seq ?_
  refine AW.reg ?_
  refine Lp (V_move rfl rfl) rfl rfl ?_
  refine Ls rfl rfl (X_call rfl Tryz.func228 rfl rfl rfl (ACalls.mono h ?_))
  rintro v σ ⟨x24_3, rfl, h⟩
  refine Lp (V_asg rfl rfl) rfl rfl ?_
  refine Lnil ?_
  refine thenN ?_
  refine AW.seq ?_
  refine AW.reg ?_
  refine Lp (V_move rfl rfl) rfl rfl ?_
  refine Lp (V_move rfl rfl) rfl rfl ?_
  refine Lp (V_lenS rfl rfl Tryz.underlying9 rfl rfl) rfl rfl ?_
  refine Lp (V_sub rfl rfl rfl) rfl rfl ?_
  refine Ls rfl rfl (X_call rfl Tryz.func229 rfl rfl rfl (ACalls.mono h ?_))
  rintro v σ ⟨x29_4, rfl, h⟩
  refine Lp (V_move rfl rfl) rfl rfl ?_
  obtain ⟨hc, h⟩ := h
  refine Lp (V_cat rfl rfl rfl hc) rfl rfl ?_
  obtain ⟨hc, h⟩ := h
  refine Lp (V_cat rfl rfl rfl hc) rfl rfl ?_
  refine Lp (V_asg rfl rfl) rfl rfl ?_
  refine Lnil ?_
  refine thenN ?_
  refine AW.seq ?_
  refine AW.seq ?_
  refine AW.reg ?_
  refine Lp (V_move rfl rfl) rfl rfl ?_
  refine Ls rfl rfl (X_call rfl Tryz.func82 rfl rfl rfl (ACalls.mono h ?_))
  rintro v σ ⟨x34_5, rfl, h⟩
  refine Lp (V_asg rfl rfl) rfl rfl ?_
  refine Lnil ?_
  refine thenN ?_
  refine AW.seq ?_
  refine AW.reg ?_
  refine Lp (V_move rfl rfl) rfl rfl ?_
  refine Lp (V_neq rfl rfl rfl) rfl rfl ?_
  refine Lnil ?_
  refine thenN ?_
  refine AW.iff rfl (bnot_iff decide_eq_true_iff) h (fun h => ?_) (fun h => ?_)
  · refine AW.seq ?_
    refine AW.reg ?_
    refine Lp (V_move rfl rfl) rfl rfl ?_
    refine Lp (V_asg rfl rfl) rfl rfl ?_
    refine Lp (V_asg rfl rfl) rfl rfl ?_
    refine Lnil ?_
    refine thenN ?_
    refine AW.ret ?_
    refine thenR ?_
    exact bR2 Tryz.results180 rfl rfl ⟨_, _, rfl, h⟩
  refine AW.skip ?_
  refine thenN ?_
  refine AW.seq ?_
  refine AW.reg ?_
  refine Lp (V_move rfl rfl) rfl rfl ?_
  refine Lp (V_asg rfl rfl) rfl rfl ?_
  refine Lp (V_asg rfl rfl) rfl rfl ?_
  refine Lnil ?_
  refine thenN ?_
  refine AW.ret ?_
  exact bR2 Tryz.results180 rfl rfl ⟨_, _, rfl, h⟩

end Go.Proofs.YtomdigihapdhnaaGreatDoor.G

/- Paths, the plain part: names, parts, the path above, on lists of bytes. No program in sight. -/
namespace Go.Proofs.YtomdigihapdhnaaGreatDoor.Pa
open Go Go.Proofs.YtomdigihapdhnaaGreatDoor.SL
set_option linter.unusedSimpArgs false

def okc (c : UInt8) : Bool := (97 ≤ c.toNat && c.toNat ≤ 122) || (48 ≤ c.toNat && c.toNat ≤ 57) || c.toNat == 46 || c.toNat == 95 || c.toNat == 45
def nameOk (l : Str) : Bool := decide (1 ≤ l.length) && decide (l.length ≤ 32) && (l != [46]) && (l != [46, 46]) && l.all okc
def cut : Str → List Str
  | [] => [[]]
  | c :: r => if c = 47 then [] :: cut r else match cut r with | [] => [[c]] | h :: t => (c :: h) :: t
def parts (l : Str) : Option (List Str) :=
  if l = [47] then some []
  else if l.length ≤ 128 ∧ l.head? = some 47 ∧ (cut (l.drop 1)).length ≤ 8 ∧ (cut (l.drop 1)).all nameOk = true then some (cut (l.drop 1)) else none
def mk (ps : List Str) : Str := if ps = [] then [47] else ps.flatMap (fun x => 47 :: x)

theorem cut_ne (l : Str) : cut l ≠ [] := by
  cases l with
  | nil => simp [cut]
  | cons c r => unfold cut; split <;> (try split) <;> simp
theorem name_no {x : Str} (h : nameOk x = true) : 47 ∉ x := by
  intro hm
  unfold nameOk at h
  simp only [Bool.and_eq_true, List.all_eq_true] at h
  have := h.2 47 hm
  exact absurd this (by decide)
theorem name_len {x : Str} (h : nameOk x = true) : 1 ≤ x.length ∧ x.length ≤ 32 := by
  unfold nameOk at h
  simp only [Bool.and_eq_true, decide_eq_true_eq] at h
  exact ⟨h.1.1.1.1, h.1.1.1.2⟩
theorem cut_flat (l : Str) : (cut l).flatMap (fun x => 47 :: x) = 47 :: l := by
  induction l with
  | nil => rfl
  | cons c r ih =>
    unfold cut
    split
    · rename_i h; subst h
      rw [List.flatMap_cons, ih]; rfl
    · split
      · rename_i h; exact absurd h (cut_ne r)
      · rename_i h t e
        rw [e, List.flatMap_cons] at ih
        rw [List.flatMap_cons]
        simp only [List.cons_append, List.cons.injEq, true_and] at ih ⊢
        exact ih
theorem cut_word (x : Str) (hx : 47 ∉ x) : cut x = [x] := by
  induction x with
  | nil => rfl
  | cons c x ih =>
    simp at hx
    unfold cut
    rw [if_neg (fun e => hx.1 e.symm), ih hx.2]
theorem cut_app (x r : Str) (hx : 47 ∉ x) : cut (x ++ 47 :: r) = x :: cut r := by
  induction x with
  | nil => rw [List.nil_append]; conv => lhs; unfold cut
           rw [if_pos rfl]
  | cons c x ih =>
    simp at hx
    rw [List.cons_append]
    conv => lhs; unfold cut
    rw [if_neg (fun e => hx.1 e.symm), ih hx.2]
theorem cut_mk : ∀ (ps : List Str), ps ≠ [] → (∀ x ∈ ps, 47 ∉ x) → cut ((ps.flatMap (fun x => 47 :: x)).drop 1) = ps := by
  intro ps
  induction ps with
  | nil => intro h; exact absurd rfl h
  | cons x ps ih =>
    intro _ hx
    rw [List.flatMap_cons]
    cases ps with
    | nil => simpa using cut_word x (hx x (by simp))
    | cons y ps =>
      have := ih (by simp) fun z hz => hx z (by simp [hz])
      rw [List.flatMap_cons] at this ⊢
      simp only [List.cons_append, List.drop_succ_cons, List.drop_zero] at this ⊢
      rw [cut_app x _ (hx x (by simp)), this]
theorem mk_head (ps : List Str) : ∃ r, mk ps = 47 :: r := by
  unfold mk
  cases ps with
  | nil => exact ⟨[], rfl⟩
  | cons x ps => exact ⟨_, rfl⟩
structure Good (ps : List Str) : Prop where
  n : ps.length ≤ 8
  ok : ∀ x ∈ ps, nameOk x = true
  len : (mk ps).length ≤ 128
theorem mk_ne {ps : List Str} (hn : ps ≠ []) (hx : ∀ x ∈ ps, nameOk x = true) : mk ps ≠ [47] := by
  unfold mk; rw [if_neg hn]
  cases ps with
  | nil => exact absurd rfl hn
  | cons x ps =>
    rw [List.flatMap_cons]
    have := (name_len (hx x (by simp))).1
    intro h
    have := congrArg List.length h
    simp at this
    have : x = [] := this.1
    subst this
    simp at *
theorem parts_iff {l : Str} {ps : List Str} : parts l = some ps ↔ l = mk ps ∧ Good ps := by
  constructor
  · intro h
    unfold parts at h
    split at h
    · rename_i e; cases h; exact ⟨e, by simp, by simp, by decide⟩
    · split at h
      · rename_i e1 e2
        cases h
        obtain ⟨h1, h2, h3, h4⟩ := e2
        cases l with
        | nil => cases h2
        | cons c r =>
          cases h2
          simp only [List.drop_succ_cons, List.drop_zero] at *
          have e : mk (cut r) = 47 :: r := by unfold mk; rw [if_neg (cut_ne r), cut_flat]
          exact ⟨e.symm, h3, by simpa using h4, by rw [e]; exact h1⟩
      · cases h
  · rintro ⟨rfl, h⟩
    unfold parts
    by_cases hn : ps = []
    · subst hn; rfl
    · rw [if_neg (mk_ne hn h.ok)]
      have e : cut ((mk ps).drop 1) = ps := by unfold mk; rw [if_neg hn]; exact cut_mk ps hn fun x hx => name_no (h.ok x hx)
      rw [e, if_pos]
      obtain ⟨r, hr⟩ := mk_head ps
      exact ⟨h.len, by rw [hr]; rfl, h.n, by simpa using h.ok⟩
/-- the place of the last slash among the first n -/
def li (l : Str) : Nat → Int
  | 0 => -1
  | k + 1 => if l[k]? = some 47 then (k : Int) else li l k
theorem li_word (a x : Str) (hx : 47 ∉ x) : ∀ k, k ≤ x.length → li (a ++ 47 :: x) (a.length + 1 + k) = a.length := by
  intro k
  induction k with
  | zero => intro _; show li _ (a.length + 1) = _; unfold li; rw [if_pos (by simp)]
  | succ k ih =>
    intro hk
    show li _ ((a.length + 1 + k) + 1) = _
    unfold li
    rw [if_neg, ih (by omega)]
    rw [List.getElem?_append_right (by omega), show a.length + 1 + k - a.length = k + 1 by omega, List.getElem?_cons_succ, List.getElem?_eq_getElem (by omega)]
    intro h
    exact hx ((Option.some.inj h) ▸ List.getElem_mem _)
theorem mk_snoc (ps : List Str) (x : Str) : mk (ps ++ [x]) = (if ps = [] then [] else mk ps) ++ 47 :: x := by
  unfold mk
  rw [if_neg (by simp), List.flatMap_append]
  cases ps with
  | nil => simp
  | cons y ps => simp
def up (ps : List Str) : List Str := ps.dropLast
theorem Good.up {ps : List Str} (h : Good ps) : Good ps.dropLast := by
  rcases List.eq_nil_or_concat ps with rfl | ⟨qs, x, rfl⟩
  · exact h
  · rw [List.concat_eq_append] at h ⊢
    rw [List.dropLast_concat]
    refine ⟨by have := h.n; simp at this; omega, fun y hy => h.ok y (by simp [hy]), ?_⟩
    have := h.len
    rw [mk_snoc] at this
    split at this
    · rename_i e; subst e; decide
    · simp at this; omega

theorem idx_no : ∀ (s : Str), 47 ∉ s → Lib.index s [47] = -1 := by
  intro s
  induction s with
  | nil => intro _; rfl
  | cons b l ih =>
    intro h
    simp at h
    unfold Lib.index
    rw [if_neg (by simp; exact h.1), ih h.2]; rfl
theorem idx_at : ∀ (a r : Str), 47 ∉ a → Lib.index (a ++ 47 :: r) [47] = a.length := by
  intro a
  induction a with
  | nil => intro r _; show Lib.index (47 :: r) [47] = 0; unfold Lib.index; rw [if_pos (by simp)]
  | cons b a ih =>
    intro r h
    simp at h
    rw [List.cons_append]
    unfold Lib.index
    rw [if_neg (by simp; exact h.1), ih r h.2, if_neg (by simp)]
    simp
theorem splitK_cut : ∀ (fuel : Nat) (s : Str), s.length < fuel → Lib.splitK [47] 0 (Lib.countFrom [47] fuel s) s = cut s := by
  intro fuel
  induction fuel with
  | zero => intro s h; omega
  | succ n ih =>
    intro s h
    unfold Lib.countFrom
    by_cases hm : 47 ∈ s
    · obtain ⟨a, r, rfl, ha⟩ := List.eq_append_cons_of_mem hm
      rw [idx_at a r ha, if_neg (by simp), Nat.add_comm 1]
      unfold Lib.splitK
      rw [idx_at a r ha, if_neg (by simp)]
      simp only [Int.toNat_natCast, Nat.add_zero, List.take_left, List.length_cons, List.length_nil]
      have e : (a ++ 47 :: r).drop (a.length + 1) = r := by
        rw [show a ++ 47 :: r = (a ++ [47]) ++ r by simp, show a.length + 1 = (a ++ [47]).length by simp, List.drop_left]
      rw [show a.length + (0 + 1) = a.length + 1 by omega, e, ih r (by simp at h; omega), cut_app a r ha]
    · rw [idx_no s hm, if_pos (by rfl), cut_word s hm]; rfl
theorem split_cut (s : ByteArray) : (Lib.splitB (S [47]) 0 (Lib.countB s (S [47])) s).map L = cut (L s) := by
  rw [show (Lib.splitB (S [47]) 0 (Lib.countB s (S [47])) s).map L = Lib.splitK [47] 0 (Lib.countB s (S [47])) (L s) from Lib.splitB_data _ _ _ _]
  have : Lib.countB s (S [47]) = Lib.count (L s) [47] := rfl
  rw [this]
  exact splitK_cut _ _ (by omega)
end Go.Proofs.YtomdigihapdhnaaGreatDoor.Pa

/-
  DERIVED: THE SHELF's CONTRACTS AT THIS DUMP, IN PLAIN WORDS (tools/lay-plain.mjs out of 'TryzShelfCut.lean', which tools/lay-shelf.mjs wrote): THE SAME DECLARATIONS UNDER THE SAME NAMES: 'import', 'namespace', 'open', 'def', 'theorem' AND NOTHING ELSE: no command of the shelf's: FOR A HAND-IN. Each laying: the table of numbers ('.._ren') and one theorem, a field a fact of the dump's own or the kernel's comparison; each contract: ONE APPLICATION.
-/
namespace Go.Proofs
open Go.Shelf
def Tryz.laysM171_ren : Go.Shelf.Ren := ⟨fun | 171 => 228 | 243 => 265 | 246 => 316 | 283 => 362 | 284 => 363 | 285 => 364 | 286 => 365 | 129 => 288 | 317 => 388 | 318 => 389 | 319 => 390 | 320 => 391 | 337 => 398 | 338 => 399 | n => n, fun | 3 => 3 | 9 => 9 | 2 => 2 | 4 => 4 | 171 => 528 | 0 => 0 | 53 => 464 | 37 => 24 | 5 => 5 | 173 => 530 | 212 => 545 | 51 => 462 | 20 => 20 | 213 => 546 | 46 => 399 | 232 => 556 | 233 => 557 | n => n, fun | 17 => 2 | 18 => 5 | 19 => 6 | n => n⟩
theorem Tryz.laysM171 : Go.Proofs.LaysM.n171 Tryz.prog Tryz.laysM171_ren := {
  mixed := by kernel_rfl
  f129 := Tryz.func288.trans (congrArg some (by kernel_rfl))
  f171 := Tryz.func228.trans (congrArg some (by kernel_rfl))
  f243 := Tryz.func265.trans (congrArg some (by kernel_rfl))
  f246 := Tryz.func316.trans (congrArg some (by kernel_rfl))
  f283 := Tryz.func362.trans (congrArg some (by kernel_rfl))
  f284 := Tryz.func363.trans (congrArg some (by kernel_rfl))
  f285 := Tryz.func364.trans (congrArg some (by kernel_rfl))
  f286 := Tryz.func365.trans (congrArg some (by kernel_rfl))
  f317 := Tryz.func388.trans (congrArg some (by kernel_rfl))
  f318 := Tryz.func389.trans (congrArg some (by kernel_rfl))
  f319 := Tryz.func390.trans (congrArg some (by kernel_rfl))
  f320 := Tryz.func391.trans (congrArg some (by kernel_rfl))
  f337 := Tryz.func398.trans (congrArg some (by kernel_rfl))
  f338 := Tryz.func399.trans (congrArg some (by kernel_rfl))
  t0 := Tryz.underlying0
  a0 := Tryz.isAgg0
  z0 := Tryz.sizeOf0
  v0 := Tryz.zeroValue0
  t2 := Tryz.underlying2
  a2 := Tryz.isAgg2
  z2 := Tryz.sizeOf2
  v2 := Tryz.zeroValue2
  t3 := Tryz.underlying3
  a3 := Tryz.isAgg3
  z3 := Tryz.sizeOf3
  v3 := Tryz.zeroValue3
  t4 := Tryz.underlying4
  a4 := Tryz.isAgg4
  z4 := Tryz.sizeOf4
  v4 := Tryz.zeroValue4
  t5 := Tryz.underlying5
  a5 := Tryz.isAgg5
  z5 := Tryz.sizeOf5
  v5 := Tryz.zeroValue5
  t9 := Tryz.underlying9
  a9 := Tryz.isAgg9
  z9 := Tryz.sizeOf9
  v9 := Tryz.zeroValue9
  t20 := Tryz.underlying20
  a20 := Tryz.isAgg20
  z20 := Tryz.sizeOf20
  v20 := Tryz.zeroValue20
  t37 := Tryz.underlying24
  a37 := Tryz.isAgg24
  z37 := Tryz.sizeOf24
  v37 := Tryz.zeroValue24
  t46 := Tryz.underlying399
  a46 := Tryz.isAgg399
  z46 := Tryz.sizeOf399
  v46 := Tryz.zeroValue399
  t51 := Tryz.underlying462
  a51 := Tryz.isAgg462
  z51 := Tryz.sizeOf462
  v51 := Tryz.zeroValue462
  t53 := Tryz.underlying464
  a53 := Tryz.isAgg464
  z53 := Tryz.sizeOf464
  v53 := Tryz.zeroValue464
  t171 := Tryz.underlying528
  a171 := Tryz.isAgg528
  z171 := Tryz.sizeOf528
  v171 := Tryz.zeroValue528
  t173 := Tryz.underlying530
  a173 := Tryz.isAgg530
  z173 := Tryz.sizeOf530
  v173 := Tryz.zeroValue530
  t212 := Tryz.underlying545
  a212 := Tryz.isAgg545
  z212 := Tryz.sizeOf545
  v212 := Tryz.zeroValue545
  t213 := Tryz.underlying546
  a213 := Tryz.isAgg546
  z213 := Tryz.sizeOf546
  t232 := Tryz.underlying556
  a232 := Tryz.isAgg556
  z232 := Tryz.sizeOf556
  v232 := Tryz.zeroValue556
  t233 := Tryz.underlying557
  a233 := Tryz.isAgg557
  z233 := Tryz.sizeOf557
  v233 := Tryz.zeroValue557
  g17 := by kernel_rfl
  g18 := by kernel_rfl
  g19 := by kernel_rfl
  i0 := by kernel_rfl
  i2 := by kernel_rfl
  i3 := by kernel_rfl
  i4 := by kernel_rfl
  i5 := by kernel_rfl
  i9 := by kernel_rfl
  i20 := by kernel_rfl
  i37 := by kernel_rfl
  i46 := by kernel_rfl
  i51 := by kernel_rfl
  i53 := by kernel_rfl
  i171 := by kernel_rfl
  i173 := by kernel_rfl
  i212 := by kernel_rfl
  i232 := by kernel_rfl
  i233 := by kernel_rfl
  m17 := by kernel_rfl
  m18 := by kernel_rfl
  m19 := by kernel_rfl }
open Go.RowKit Go.Sort Go.Lib in
/-- strconv.Itoa: "Itoa is equivalent to FormatInt(int64(i), 10).": i's DECIMAL NUMERAL ('Lib.itoa': a '-' where i is negative, then the digits), FOR EVERY int. The world behind the call: the world before it, new blocks behind the heap (the library's 'var a [24]byte'), draws. (LAID: no walk: one application.) -/
theorem Tryz.strconv_Itoa (n : Int) (h0 : -9223372036854775808 ≤ n) (h1 : n ≤ 9223372036854775807) (w : World) (htab : Lib.TabIs Tryz.prog w "internal/strconv.uint64pow10" .u64 Lib.pow10Tab) :
    Calls Tryz.prog 228 #[.int .i64 n] w fun e w' => e = .returned (.string ⟨(Lib.itoa n).toArray⟩) ∧ ∃ k os, w' = grow (w.drewN k) os := Any.strconv_Itoa Tryz.laysM171 n h0 h1 w htab
def Tryz.laysM290_ren : Go.Shelf.Ren := ⟨fun | 290 => 226 | 324 => 263 | n => n, fun | 37 => 24 | 3 => 3 | 0 => 0 | 4 => 4 | 20 => 20 | 75 => 224 | 5 => 5 | 80 => 143 | 9 => 9 | n => n, fun | 14 => 0 | n => n⟩
theorem Tryz.laysM290 : Go.Proofs.LaysM.n290 Tryz.prog Tryz.laysM290_ren := {
  mixed := by kernel_rfl
  f290 := Tryz.func226.trans (congrArg some (by kernel_rfl))
  f324 := Tryz.func263.trans (congrArg some (by kernel_rfl))
  t0 := Tryz.underlying0
  a0 := Tryz.isAgg0
  z0 := Tryz.sizeOf0
  v0 := Tryz.zeroValue0
  t3 := Tryz.underlying3
  a3 := Tryz.isAgg3
  z3 := Tryz.sizeOf3
  v3 := Tryz.zeroValue3
  t4 := Tryz.underlying4
  a4 := Tryz.isAgg4
  z4 := Tryz.sizeOf4
  v4 := Tryz.zeroValue4
  t20 := Tryz.underlying20
  a20 := Tryz.isAgg20
  z20 := Tryz.sizeOf20
  v20 := Tryz.zeroValue20
  t37 := Tryz.underlying24
  a37 := Tryz.isAgg24
  z37 := Tryz.sizeOf24
  v37 := Tryz.zeroValue24
  t75 := Tryz.underlying224
  a75 := Tryz.isAgg224
  z75 := Tryz.sizeOf224
  v75 := Tryz.zeroValue224
  g14 := by kernel_rfl
  t5 := Tryz.underlying5
  a5 := Tryz.isAgg5
  z5 := Tryz.sizeOf5
  v5 := Tryz.zeroValue5
  t9 := Tryz.underlying9
  a9 := Tryz.isAgg9
  z9 := Tryz.sizeOf9
  v9 := Tryz.zeroValue9
  t80 := Tryz.underlying143
  a80 := Tryz.isAgg143
  z80 := Tryz.sizeOf143
  v80 := Tryz.zeroValue143
  i0 := by kernel_rfl
  i3 := by kernel_rfl
  i4 := by kernel_rfl
  i5 := by kernel_rfl
  i9 := by kernel_rfl
  i20 := by kernel_rfl
  i37 := by kernel_rfl
  i75 := by kernel_rfl
  i80 := by kernel_rfl
  m14 := by kernel_rfl }
open Go.RowKit in
/-- bytes.growSlice: "growSlice grows b by n, preserving the original content of b.": OF A SLICE THAT LIES AT THE HEAD OF A ROW: a new row, number 'w.heap.size': it begins with b's l cells; its capacity has room for n more; whatever lay below is as it was. (LAID: no walk: one application.) -/
theorem Tryz.bytes_growSlice_row (g l c n : Nat) (cur : Array Value) (w : World) (hg : w.heap[g]? = some (.cells cur 5 (0, 0))) (hcs : cur.size = c) (hlc : l ≤ c) (hn : 1 ≤ n) (hlim : l + n ≤ 140737488355328) (hc2 : c ≤ 140737488355328) (h1 : ∀ v ∈ cur.toList.take l, v.oneCell' = true) :
    Calls Tryz.prog 226 #[.slice (some ⟨g, 0, none⟩) l c, .int .i64 n] w fun e w' => ∃ cap2 cells, e = .returned (.slice (some ⟨w.heap.size, 0, none⟩) l cap2) ∧ w'.heap[w.heap.size]? = some (.cells cells 5 (0, 0)) ∧
      cells.size = cap2 ∧ cells.toList.take l = cur.toList.take l ∧ l + n ≤ cap2 ∧ cap2 ≤ maxLen ∧ Below w.heap.size w w' := Any.bytes_growSlice_row Tryz.laysM290 g l c n cur w hg hcs hlc hn hlim hc2 h1
open Go.RowKit in
/-- .. OF THE NIL SLICE: a new row with room for n. (LAID: no walk: one application.) -/
theorem Tryz.bytes_growSlice_nil (n : Nat) (w : World) (hn : 1 ≤ n) (hlim : n ≤ 140737488355328) :
    Calls Tryz.prog 226 #[.slice none 0 0, .int .i64 n] w fun e w' => ∃ cap2 cells, e = .returned (.slice (some ⟨w.heap.size, 0, none⟩) 0 cap2) ∧ w'.heap[w.heap.size]? = some (.cells cells 5 (0, 0)) ∧
      cells.size = cap2 ∧ n ≤ cap2 ∧ cap2 ≤ maxLen ∧ Below w.heap.size w w' := Any.bytes_growSlice_nil Tryz.laysM290 n w hn hlim
def Tryz.lays146_ren : Go.Shelf.Ren := ⟨fun | 146 => 193 | 221 => 238 | 268 => 275 | 138 => 276 | 143 => 277 | 195 => 321 | 197 => 322 | 218 => 323 | 219 => 324 | 260 => 368 | 217 => 369 | 225 => 370 | 224 => 371 | 267 => 372 | 266 => 392 | 314 => 393 | n => n, fun | 9 => 9 | 31 => 27 | 3 => 3 | 4 => 4 | 0 => 0 | 105 => 494 | 21 => 21 | 5 => 5 | 46 => 399 | 119 => 547 | 139 => 550 | 138 => 549 | 146 => 489 | 51 => 462 | n => n, fun | 1 => 1 | 3 => 3 | 4 => 4 | n => n⟩
theorem Tryz.lays146 : Go.Proofs.Lays.n146 Tryz.prog Tryz.lays146_ren := {
  mixed := by kernel_rfl
  f138 := Tryz.func276.trans (congrArg some (by kernel_rfl))
  f143 := Tryz.func277.trans (congrArg some (by kernel_rfl))
  f146 := Tryz.func193.trans (congrArg some (by kernel_rfl))
  f195 := Tryz.func321.trans (congrArg some (by kernel_rfl))
  f197 := Tryz.func322.trans (congrArg some (by kernel_rfl))
  f217 := Tryz.func369.trans (congrArg some (by kernel_rfl))
  f218 := Tryz.func323.trans (congrArg some (by kernel_rfl))
  f219 := Tryz.func324.trans (congrArg some (by kernel_rfl))
  f221 := Tryz.func238.trans (congrArg some (by kernel_rfl))
  f224 := Tryz.func371.trans (congrArg some (by kernel_rfl))
  f225 := Tryz.func370.trans (congrArg some (by kernel_rfl))
  f260 := Tryz.func368.trans (congrArg some (by kernel_rfl))
  f266 := Tryz.func392.trans (congrArg some (by kernel_rfl))
  f267 := Tryz.func372.trans (congrArg some (by kernel_rfl))
  f268 := Tryz.func275.trans (congrArg some (by kernel_rfl))
  f314 := Tryz.func393.trans (congrArg some (by kernel_rfl))
  t0 := Tryz.underlying0
  a0 := Tryz.isAgg0
  z0 := Tryz.sizeOf0
  v0 := Tryz.zeroValue0
  t3 := Tryz.underlying3
  a3 := Tryz.isAgg3
  z3 := Tryz.sizeOf3
  v3 := Tryz.zeroValue3
  t4 := Tryz.underlying4
  a4 := Tryz.isAgg4
  z4 := Tryz.sizeOf4
  v4 := Tryz.zeroValue4
  t5 := Tryz.underlying5
  a5 := Tryz.isAgg5
  z5 := Tryz.sizeOf5
  v5 := Tryz.zeroValue5
  t9 := Tryz.underlying9
  a9 := Tryz.isAgg9
  z9 := Tryz.sizeOf9
  v9 := Tryz.zeroValue9
  t21 := Tryz.underlying21
  a21 := Tryz.isAgg21
  z21 := Tryz.sizeOf21
  v21 := Tryz.zeroValue21
  t31 := Tryz.underlying27
  a31 := Tryz.isAgg27
  z31 := Tryz.sizeOf27
  v31 := Tryz.zeroValue27
  t46 := Tryz.underlying399
  a46 := Tryz.isAgg399
  z46 := Tryz.sizeOf399
  v46 := Tryz.zeroValue399
  t51 := Tryz.underlying462
  a51 := Tryz.isAgg462
  z51 := Tryz.sizeOf462
  v51 := Tryz.zeroValue462
  t105 := Tryz.underlying494
  a105 := Tryz.isAgg494
  z105 := Tryz.sizeOf494
  v105 := Tryz.zeroValue494
  t119 := Tryz.underlying547
  a119 := Tryz.isAgg547
  z119 := Tryz.sizeOf547
  t138 := Tryz.underlying549
  a138 := Tryz.isAgg549
  z138 := Tryz.sizeOf549
  v138 := Tryz.zeroValue549
  t139 := Tryz.underlying550
  a139 := Tryz.isAgg550
  z139 := Tryz.sizeOf550
  v139 := Tryz.zeroValue550
  t146 := Tryz.underlying489
  a146 := Tryz.isAgg489
  z146 := Tryz.sizeOf489
  v146 := Tryz.zeroValue489
  g1 := by kernel_rfl
  g3 := by kernel_rfl
  g4 := by kernel_rfl }
open Go.RowKit Go.Lib in
/-- strings.Split. (LAID: no walk: one application.) -/
theorem Tryz.strings_Split (s sep : ByteArray) (m : Int) (w : World) (hs : s.size < 4294967281) (hm : w.cell? ⟨1, 0, none⟩ = some (.int .i64 m)) (h1 : 1 ≤ sep.size) :
    Calls Tryz.prog 193 #[.string s, .string sep] w fun e w' =>
      e = .returned (.slice (some ⟨w.heap.size, 0, none⟩) (Lib.countB s sep + 1) (Lib.countB s sep + 1)) ∧ w' = w.alloc (.cells ((Lib.splitB sep 0 (Lib.countB s sep) s).map Value.string).toArray 9) := Any.strings_Split Tryz.lays146 (by kernel_rfl) s sep m w hs hm h1
def Tryz.laysM146_ren : Go.Shelf.Ren := ⟨fun | 146 => 193 | 221 => 238 | 268 => 275 | 138 => 276 | 143 => 277 | 195 => 321 | 197 => 322 | 218 => 323 | 219 => 324 | 260 => 368 | 217 => 369 | 225 => 370 | 224 => 371 | 267 => 372 | 266 => 392 | 314 => 393 | n => n, fun | 9 => 9 | 31 => 27 | 3 => 3 | 4 => 4 | 0 => 0 | 105 => 494 | 21 => 21 | 5 => 5 | 46 => 399 | 119 => 547 | 139 => 550 | 138 => 549 | 146 => 489 | 51 => 462 | n => n, fun | 1 => 1 | 3 => 3 | 4 => 4 | n => n⟩
theorem Tryz.laysM146 : Go.Proofs.LaysM.n146 Tryz.prog Tryz.laysM146_ren := {
  mixed := by kernel_rfl
  f138 := Tryz.func276.trans (congrArg some (by kernel_rfl))
  f143 := Tryz.func277.trans (congrArg some (by kernel_rfl))
  f146 := Tryz.func193.trans (congrArg some (by kernel_rfl))
  f195 := Tryz.func321.trans (congrArg some (by kernel_rfl))
  f197 := Tryz.func322.trans (congrArg some (by kernel_rfl))
  f217 := Tryz.func369.trans (congrArg some (by kernel_rfl))
  f218 := Tryz.func323.trans (congrArg some (by kernel_rfl))
  f219 := Tryz.func324.trans (congrArg some (by kernel_rfl))
  f221 := Tryz.func238.trans (congrArg some (by kernel_rfl))
  f224 := Tryz.func371.trans (congrArg some (by kernel_rfl))
  f225 := Tryz.func370.trans (congrArg some (by kernel_rfl))
  f260 := Tryz.func368.trans (congrArg some (by kernel_rfl))
  f266 := Tryz.func392.trans (congrArg some (by kernel_rfl))
  f267 := Tryz.func372.trans (congrArg some (by kernel_rfl))
  f268 := Tryz.func275.trans (congrArg some (by kernel_rfl))
  f314 := Tryz.func393.trans (congrArg some (by kernel_rfl))
  t0 := Tryz.underlying0
  a0 := Tryz.isAgg0
  z0 := Tryz.sizeOf0
  v0 := Tryz.zeroValue0
  t3 := Tryz.underlying3
  a3 := Tryz.isAgg3
  z3 := Tryz.sizeOf3
  v3 := Tryz.zeroValue3
  t4 := Tryz.underlying4
  a4 := Tryz.isAgg4
  z4 := Tryz.sizeOf4
  v4 := Tryz.zeroValue4
  t5 := Tryz.underlying5
  a5 := Tryz.isAgg5
  z5 := Tryz.sizeOf5
  v5 := Tryz.zeroValue5
  t9 := Tryz.underlying9
  a9 := Tryz.isAgg9
  z9 := Tryz.sizeOf9
  v9 := Tryz.zeroValue9
  t21 := Tryz.underlying21
  a21 := Tryz.isAgg21
  z21 := Tryz.sizeOf21
  v21 := Tryz.zeroValue21
  t31 := Tryz.underlying27
  a31 := Tryz.isAgg27
  z31 := Tryz.sizeOf27
  v31 := Tryz.zeroValue27
  t46 := Tryz.underlying399
  a46 := Tryz.isAgg399
  z46 := Tryz.sizeOf399
  v46 := Tryz.zeroValue399
  t51 := Tryz.underlying462
  a51 := Tryz.isAgg462
  z51 := Tryz.sizeOf462
  v51 := Tryz.zeroValue462
  t105 := Tryz.underlying494
  a105 := Tryz.isAgg494
  z105 := Tryz.sizeOf494
  v105 := Tryz.zeroValue494
  t119 := Tryz.underlying547
  a119 := Tryz.isAgg547
  z119 := Tryz.sizeOf547
  t138 := Tryz.underlying549
  a138 := Tryz.isAgg549
  z138 := Tryz.sizeOf549
  v138 := Tryz.zeroValue549
  t139 := Tryz.underlying550
  a139 := Tryz.isAgg550
  z139 := Tryz.sizeOf550
  v139 := Tryz.zeroValue550
  t146 := Tryz.underlying489
  a146 := Tryz.isAgg489
  z146 := Tryz.sizeOf489
  v146 := Tryz.zeroValue489
  g1 := by kernel_rfl
  g3 := by kernel_rfl
  g4 := by kernel_rfl
  i0 := by kernel_rfl
  i3 := by kernel_rfl
  i4 := by kernel_rfl
  i5 := by kernel_rfl
  i9 := by kernel_rfl
  i21 := by kernel_rfl
  i31 := by kernel_rfl
  i46 := by kernel_rfl
  i51 := by kernel_rfl
  i105 := by kernel_rfl
  i138 := by kernel_rfl
  i139 := by kernel_rfl
  i146 := by kernel_rfl
  m1 := by kernel_rfl
  s1_3 := fun w h => Go.Proofs.cell_of_shapedOpen_int (zero := #[.int .i64 0]) (t := 3) h (of_decide_eq_true (by kernel_rfl)) (by kernel_rfl) rfl (by kernel_rfl) (by kernel_rfl) Tryz.underlying3
  m3 := by kernel_rfl
  m4 := by kernel_rfl }
def Tryz.lays105_ren : Go.Shelf.Ren := ⟨fun | 105 => 229 | 212 => 266 | 99 => 138 | 165 => 267 | 166 => 268 | 170 => 269 | 169 => 270 | 263 => 317 | 264 => 318 | 206 => 197 | 240 => 319 | 241 => 320 | 276 => 366 | 277 => 367 | n => n, fun | 9 => 9 | 3 => 3 | 4 => 4 | 20 => 20 | 0 => 0 | 46 => 399 | 109 => 445 | 5 => 5 | 72 => 449 | 76 => 225 | 51 => 462 | 146 => 489 | 53 => 464 | 148 => 491 | 70 => 447 | 37 => 24 | 75 => 224 | 127 => 493 | 164 => 532 | 80 => 143 | n => n, fun | n => n⟩
theorem Tryz.lays105 : Go.Proofs.Lays.n105 Tryz.prog Tryz.lays105_ren := {
  mixed := by kernel_rfl
  f99 := Tryz.func138.trans (congrArg some (by kernel_rfl))
  f105 := Tryz.func229.trans (congrArg some (by kernel_rfl))
  f165 := Tryz.func267.trans (congrArg some (by kernel_rfl))
  f166 := Tryz.func268.trans (congrArg some (by kernel_rfl))
  f169 := Tryz.func270.trans (congrArg some (by kernel_rfl))
  f170 := Tryz.func269.trans (congrArg some (by kernel_rfl))
  f206 := Tryz.func197.trans (congrArg some (by kernel_rfl))
  f212 := Tryz.func266.trans (congrArg some (by kernel_rfl))
  f240 := Tryz.func319.trans (congrArg some (by kernel_rfl))
  f241 := Tryz.func320.trans (congrArg some (by kernel_rfl))
  f263 := Tryz.func317.trans (congrArg some (by kernel_rfl))
  f264 := Tryz.func318.trans (congrArg some (by kernel_rfl))
  f276 := Tryz.func366.trans (congrArg some (by kernel_rfl))
  f277 := Tryz.func367.trans (congrArg some (by kernel_rfl))
  t0 := Tryz.underlying0
  a0 := Tryz.isAgg0
  z0 := Tryz.sizeOf0
  v0 := Tryz.zeroValue0
  t3 := Tryz.underlying3
  a3 := Tryz.isAgg3
  z3 := Tryz.sizeOf3
  v3 := Tryz.zeroValue3
  t4 := Tryz.underlying4
  a4 := Tryz.isAgg4
  z4 := Tryz.sizeOf4
  v4 := Tryz.zeroValue4
  t5 := Tryz.underlying5
  a5 := Tryz.isAgg5
  z5 := Tryz.sizeOf5
  v5 := Tryz.zeroValue5
  t9 := Tryz.underlying9
  a9 := Tryz.isAgg9
  z9 := Tryz.sizeOf9
  v9 := Tryz.zeroValue9
  t20 := Tryz.underlying20
  a20 := Tryz.isAgg20
  z20 := Tryz.sizeOf20
  v20 := Tryz.zeroValue20
  t37 := Tryz.underlying24
  a37 := Tryz.isAgg24
  z37 := Tryz.sizeOf24
  v37 := Tryz.zeroValue24
  t46 := Tryz.underlying399
  a46 := Tryz.isAgg399
  z46 := Tryz.sizeOf399
  v46 := Tryz.zeroValue399
  t51 := Tryz.underlying462
  a51 := Tryz.isAgg462
  z51 := Tryz.sizeOf462
  v51 := Tryz.zeroValue462
  t53 := Tryz.underlying464
  a53 := Tryz.isAgg464
  z53 := Tryz.sizeOf464
  v53 := Tryz.zeroValue464
  t70 := Tryz.underlying447
  a70 := Tryz.isAgg447
  z70 := Tryz.sizeOf447
  v70 := Tryz.zeroValue447
  t72 := Tryz.underlying449
  a72 := Tryz.isAgg449
  z72 := Tryz.sizeOf449
  v72 := Tryz.zeroValue449
  t75 := Tryz.underlying224
  a75 := Tryz.isAgg224
  z75 := Tryz.sizeOf224
  v75 := Tryz.zeroValue224
  t76 := Tryz.underlying225
  a76 := Tryz.isAgg225
  z76 := Tryz.sizeOf225
  v76 := Tryz.zeroValue225
  t109 := Tryz.underlying445
  a109 := Tryz.isAgg445
  z109 := Tryz.sizeOf445
  v109 := Tryz.zeroValue445
  t127 := Tryz.underlying493
  a127 := Tryz.isAgg493
  z127 := Tryz.sizeOf493
  v127 := Tryz.zeroValue493
  t146 := Tryz.underlying489
  a146 := Tryz.isAgg489
  z146 := Tryz.sizeOf489
  v146 := Tryz.zeroValue489
  t148 := Tryz.underlying491
  a148 := Tryz.isAgg491
  z148 := Tryz.sizeOf491
  v148 := Tryz.zeroValue491
  t164 := Tryz.underlying532
  a164 := Tryz.isAgg532
  z164 := Tryz.sizeOf532
  v164 := Tryz.zeroValue532 }
theorem Tryz.Builder_Extra_105 : Builder.Extra Tryz.prog Tryz.lays105_ren := {
  sizeBuilder := by kernel_rfl
  liesBuilder := by kernel_rfl
  t5 := Tryz.underlying5
  a5 := Tryz.isAgg5
  z5 := Tryz.sizeOf5
  v5 := Tryz.zeroValue5
  infoByte := by kernel_rfl
  cellsByte := by kernel_rfl
  sizeByte := by kernel_rfl
  neB5 := by decide }
open Go.RowKit Go.Lib in
/-- **strings.Repeat: count ≥ 0, the result within one allocation: count copies of s.** (LAID: no walk: one application.) -/
theorem Tryz.strings_Repeat (s : ByteArray) (c : Nat) (w : World) (hc : c ≤ 9223372036854775807) (hlen : s.size * c ≤ 140737488355328) :
    Calls Tryz.prog 229 #[.string s, .int .i64 c] w fun e w' => e = .returned (.string ⟨(Lib.repeatL s.data.toList c).toArray⟩) ∧ Below w.heap.size w w' := Any.strings_Repeat Tryz.lays105 Tryz.Builder_Extra_105 s c w hc hlen
end Go.Proofs

/- Paths, the walk: what package path's functions answer, for every string. -/
namespace Go.Proofs.YtomdigihapdhnaaGreatDoor.Pa
open Go Go.Proofs.YtomdigihapdhnaaGreatDoor.SL Go.Proofs.YtomdigihapdhnaaGreatDoor.G
set_option linter.unusedSimpArgs false
set_option linter.unusedVariables false
variable {B : World} {ro σ σ' : AH} {tag tag' : Nat → Nat}

theorem inc (j : Nat) (h : j < 4611686018427387904) : IntKind.i64.wrap ((j : Int) + 1) = ((j + 1 : Nat) : Int) := by rw [SL.w64_eq (by omega) (by omega)]; rfl

theorem hasPrefix_ok {a p : ByteArray} {Q : Bool → AH → Prop} (hQ : Q ((L p).isPrefixOf (L a)) σ) : c_strings_HasPrefix B ro a p σ Q := by
  refine strings_HasPrefix_ok fun _ => ?_
  unfold f_strings_HasPrefix
  refine stringslite_HasPrefix_ok fun _ => ?_
  unfold f_stringslite_HasPrefix j1_stringslite_HasPrefix
  by_cases h : p.size ≤ a.size
  · rw [if_pos (by omega)]
    refine ⟨⟨⟨by omega, by omega⟩, trivial⟩, ?_⟩
    have e : decide (a.extract 0 (Int.toNat (p.size : Int)) = p) = (L p).isPrefixOf (L a) := by
      rw [Int.toNat_natCast, Bool.eq_iff_iff, decide_eq_true_iff, List.isPrefixOf_iff_prefix, List.prefix_iff_eq_take]
      constructor
      · intro h'; conv => lhs; rw [← h']
        rw [← S_L a, S_extract]; simp [L_len]
      · intro h'
        apply L_inj
        rw [← S_L a, S_extract]; simp only [L_S, List.drop_zero]
        rw [L_len] at h'; exact h'.symm
    rw [e]; exact hQ
  · rw [if_neg (by omega)]
    have e : (L p).isPrefixOf (L a) = false := by
      rw [Bool.eq_false_iff]
      intro h'
      have := (List.isPrefixOf_iff_prefix.1 h').length_le
      rw [L_len, L_len] at this; exact h this
    rw [e] at hQ; exact hQ

theorem last_ok {s : ByteArray} {Q : Int → AH → Prop} (hs : s.size < 4611686018427387904) (hQ : Q (li (L s) s.size) σ) : c_strings_LastIndexByte B ro s 47 σ Q := by
  refine strings_LastIndexByte_ok fun _ => ?_
  unfold f_strings_LastIndexByte
  refine bytealg_LastIndexByteString_ok fun _ => ?_
  unfold f_bytealg_LastIndexByteString
  rw [SL.w64_eq (by omega) (by omega)]
  suffices ∀ k, k ≤ s.size → Q (li (L s) k) σ → lfpD (l2_bytealg_LastIndexByteString B ro s 47 Q) ((k : Int) - 1) σ from this s.size (Nat.le_refl _) hQ
  intro k
  induction k with
  | zero =>
    intro _ h
    refine lfpD.intro ?_
    unfold l2_bytealg_LastIndexByteString
    rw [if_neg (by omega)]
    exact h
  | succ k ih =>
    intro hk h
    refine lfpD.intro ?_
    unfold l2_bytealg_LastIndexByteString
    rw [if_pos (by omega)]
    have e : ((k + 1 : Nat) : Int) - 1 = k := by omega
    rw [e]
    have hkl : k < (L s).length := by rw [L_len]; omega
    have hg : s[k]? = some ((L s)[k]) := by
      conv => lhs; rw [← S_L s]
      rw [S_get, List.getElem?_eq_getElem hkl]
    refine ⟨(L s)[k], by omega, by rw [Int.toNat_natCast]; exact hg, ?_⟩
    unfold li at h
    rw [List.getElem?_eq_getElem hkl] at h
    by_cases c : (L s)[k] = 47
    · rw [if_pos (by rw [c])] at h
      rw [if_pos (by rw [c]; rfl)]
      exact h
    · rw [if_neg (by simpa using c)] at h
      rw [if_neg, SL.w64_eq (by omega) (by omega)]
      · exact ih (by omega) h
      · intro h'
        refine c (UInt8.toNat_inj.1 ?_)
        have : ((L s)[k].toNat : Int) = 47 := h'
        show (L s)[k].toNat = 47
        omega

theorem awp_range_str {P : Program} {t : TypeId} {s : ByteArray} {K : Value → AH → Prop} (ht : P.underlying t = some .string) (h : ∀ b, ro b = none → σ b = none → K (.pointer (some ⟨b, 0, none⟩)) (upd σ b (.stringIter s 0))) : awp P ro (Instr.range t (.string s)) K σ := by
  unfold Instr.range
  simp only [bind_def]
  rw [awp_underlying ht]
  exact h
theorem awp_next_str {P : Program} {t : TypeId} {s : ByteArray} {b pos : Nat} {K : Value → AH → Prop} (hro : ro b = none) (hb : σ b = some (.stringIter s pos)) (h1 : s.size ≤ pos → K (.tuple #[.bool false]) σ)
    (h2 : pos < s.size → K (.tuple #[.bool true, .int .i64 pos, .int .i32 (Utf8.decode s pos).1]) (upd σ b (.stringIter s (pos + (Utf8.decode s pos).2)))) : awp P ro (Instr.next (.pointer (some ⟨b, 0, none⟩)) true t) K σ := by
  unfold Instr.next
  refine ⟨.stringIter s pos, by unfold rd; rw [hro]; exact hb, rfl, ?_⟩
  show awp P ro (if pos < s.size then _ else _) K σ
  by_cases h : pos < s.size
  · rw [if_pos h]
    exact ⟨_, hb, rfl, h2 h⟩
  · rw [if_neg h]
    exact h1 (by omega)
theorem decode_big (s : ByteArray) (pos : Nat) (h : ¬ (s.get! pos).toNat < 128) : 128 ≤ (Utf8.decode s pos).1 := by
  unfold Utf8.decode
  simp only [Nat.add_zero]
  rw [if_neg h]
  repeat' split
  all_goals simp_all [Utf8.runeError]
  all_goals omega

set_option maxRecDepth 100000 in
theorem name_ok {s : ByteArray} {Q : Bool → AH → Prop} (hQ : Q (nameOk (L s)) σ) : c_path_Name B ro s σ Q := by
  refine ACalls.quiet (R := fun v => v = .bool (nameOk (L s))) ?_ (fun v hv => ⟨_, hv, hQ⟩)
  have : c_path_Name B ro s (fun _ => none) fun r _ => r = nameOk (L s) := by
    refine path_Name_ok fun hs => ?_
    unfold f_path_Name
    by_cases g : ((s = ⟨#[]⟩ ∨ 32 < (s.size : Int)) ∨ s = ⟨#[46]⟩) ∨ s = ⟨#[46, 46]⟩
    · rw [if_pos g]
      show false = nameOk (L s)
      symm
      rw [Bool.eq_false_iff]
      intro h
      unfold nameOk at h
      simp only [Bool.and_eq_true, decide_eq_true_eq, bne_iff_ne] at h
      obtain ⟨⟨⟨⟨h1, h2⟩, h3⟩, h4⟩, _⟩ := h
      rcases g with ((g | g) | g) | g
      · rw [g] at h1; simp [L] at h1
      · rw [L_len] at h2; omega
      · rw [g] at h3; exact h3 rfl
      · rw [g] at h4; exact h4 rfl
    · rw [if_neg g]
      have hall : nameOk (L s) = (L s).all okc := by
        unfold nameOk
        have e1 : 1 ≤ (L s).length := by
          rw [L_len]
          rcases Nat.eq_zero_or_pos s.size with h0 | h0
          · exact absurd (.inl (.inl (.inl (L_inj (List.eq_nil_of_length_eq_zero h0))))) g
          · exact h0
        have e2 : (L s).length ≤ 32 := by
          rw [L_len]
          rcases Nat.lt_or_ge 32 s.size with h0 | h0
          · exact absurd (.inl (.inl (.inr (by omega)))) g
          · exact h0
        have e3 : L s ≠ [46] := fun h => g (.inl (.inr (L_inj h)))
        have e4 : L s ≠ [46, 46] := fun h => g (.inr (L_inj h))
        simp [e1, e2, e3, e4]
      rw [hall]
      have h9 : Tryz.prog.underlying 9 = some .string := by kernel_rfl
      have hr := @awp_range_str ro (fun _ => none) Tryz.prog 9 s (fun v σ => ∃ p21_2, v = Value.pointer (some p21_2) ∧ lfpD (l3_path_Name B ro p21_2 fun r x => r = List.all (L s) okc) () σ) h9
      refine hr ?_
      intro b hro hb
      refine ⟨⟨b, 0, none⟩, rfl, ?_⟩
      suffices ∀ m pos, pos + m = s.size → (∀ i, i < pos → ∀ c, (L s)[i]? = some c → okc c = true) → ∀ σ : AH, σ b = some (.stringIter s pos) → lfpD (l3_path_Name B ro ⟨b, 0, none⟩ fun r _ => r = (L s).all okc) () σ from
        this s.size 0 (Nat.zero_add _) (fun i h => absurd h (Nat.not_lt_zero _)) _ (upd_same _ _ _)
      intro m
      induction m with
      | zero =>
        intro pos hp hk σ hσ
        refine lfpD.intro ?_
        unfold l3_path_Name
        refine awp_next_str hro hσ (fun _ => .inl ⟨rfl, ?_⟩) (fun h => by omega)
        show true = (L s).all okc
        symm
        rw [List.all_eq_true]
        intro c hc
        obtain ⟨i, hi, e⟩ := List.getElem_of_mem hc
        exact hk i (by rw [L_len] at hi; omega) c (by rw [List.getElem?_eq_getElem hi, e])
      | succ m ih =>
        intro pos hp hk σ hσ
        have hpl : pos < (L s).length := by rw [L_len]; omega
        have hps : pos < s.size := by omega
        have hget : s[pos]'hps = (L s)[pos] := rfl
        have hgb : s.get! pos = (L s)[pos] := by
          have e : s.get! pos = s.data[pos]! := rfl
          rw [e, getElem!_pos s.data pos (by exact hps)]
          rfl
        refine lfpD.intro ?_
        unfold l3_path_Name
        refine awp_next_str hro hσ (fun h => by omega) (fun _ => .inr ⟨pos, _, rfl, ?_⟩)
        by_cases ha : ((L s)[pos]).toNat < 128
        · rw [decode_ascii s pos hps (by rw [hget]; exact ha), hget]
          have step : ∀ x : Bool, x = okc ((L s)[pos]) → j6_path_Name B ro ⟨b, 0, none⟩ (fun r _ => r = (L s).all okc) (lfpD (l3_path_Name B ro ⟨b, 0, none⟩ fun r _ => r = (L s).all okc)) x (upd σ b (.stringIter s (pos + 1))) := by
            intro x hx
            unfold j6_path_Name
            split
            · rename_i hx'
              refine ih (pos + 1) (by omega) (fun i hi c hc => ?_) _ (upd_same _ _ _)
              rcases Nat.lt_or_ge i pos with h | h
              · exact hk i h c hc
              · have : i = pos := by omega
                subst this
                rw [List.getElem?_eq_getElem hpl] at hc
                cases hc
                exact hx.symm.trans hx'
            · rename_i hx'
              show false = (L s).all okc
              symm
              rw [Bool.eq_false_iff, ne_eq, List.all_eq_true]
              intro h
              exact hx' (hx.trans (h _ (List.getElem_mem hpl)))
          simp only
          generalize (L s)[pos] = c at step
          have iff : ∀ x : Bool, (x = true ↔ okc c = true) → x = okc c := fun x h => Bool.eq_iff_iff.2 h
          by_cases b1 : (97 : Int) ≤ (c.toNat : Int) ∧ (c.toNat : Int) ≤ 122
          · rw [if_pos b1]
            exact step _ (iff _ (by simp [okc]; omega))
          · rw [if_neg b1]
            by_cases b2 : (48 : Int) ≤ (c.toNat : Int) ∧ (c.toNat : Int) ≤ 57
            · rw [if_pos b2]
              exact step _ (iff _ (by simp [okc]; omega))
            · rw [if_neg b2]
              by_cases b3 : (c.toNat : Int) = 46
              · rw [if_pos b3]
                exact step _ (iff _ (by simp [okc]; omega))
              · rw [if_neg b3]
                by_cases b4 : (c.toNat : Int) = 95
                · rw [if_pos b4]
                  exact step _ (iff _ (by simp [okc]; omega))
                · rw [if_neg b4]
                  exact step _ (iff _ (by simp [okc]; omega))
        · have hbig := decode_big s pos (by rw [hgb]; exact ha)
          generalize (Utf8.decode s pos).1 = x at hbig
          generalize (Utf8.decode s pos).2 = y
          have hno : false = (L s).all okc := by
            symm
            rw [Bool.eq_false_iff, ne_eq, List.all_eq_true]
            intro h
            have := h _ (List.getElem_mem hpl)
            simp [okc] at this
            omega
          rw [if_neg (by omega), if_neg (by omega), if_neg (by omega), if_neg (by omega)]
          unfold j6_path_Name
          rw [if_neg (by simp; omega)]
          exact hno
  exact ACalls.mono this fun v τ ⟨r, hv, hr⟩ => by rw [hv, hr]
end Go.Proofs.YtomdigihapdhnaaGreatDoor.Pa

/- Paths, the walk, on: Parts, Check, Parent, Base, Under. -/
namespace Go.Proofs.YtomdigihapdhnaaGreatDoor.Pa
open Go Go.Proofs.YtomdigihapdhnaaGreatDoor.SL Go.Proofs.YtomdigihapdhnaaGreatDoor.G Go.RowKit
set_option linter.unusedSimpArgs false
set_option linter.unusedVariables false
/-- what the laws read of package variables -/
structure Glob (ro : AH) : Prop where
  maxlen : ∃ m o, ro 1 = some o ∧ cellOf ⟨1, 0, none⟩ (some o) = some (.int .i64 m)
  tab : ∀ w : World, (∀ b o, ro b = some o → w.heap[b]? = some o) → Lib.TabIs Tryz.prog w "internal/strconv.uint64pow10" .u64 Lib.pow10Tab
variable {B : World} {ro σ σ' : AH} {tag tag' : Nat → Nat}

theorem sees_ro {w : World} (h : Sees ro σ w) : ∀ b o, ro b = some o → w.heap[b]? = some o := fun b o hb => h b o (by unfold rd; rw [hb])
abbrev vS (l : Str) : Value := .string (S l)

theorem split_ok {s : ByteArray} {Q : Sl → AH → Prop} (r : Nat) (g : Glob ro) (hs : s.size < 4294967281) (hQ : ∀ sl tag' σ', (∀ R, Step R ro tag σ tag' σ') → Row tag' σ' r 9 sl ((cut (L s)).map vS) → Q sl σ') :
    c_strings_Split B ro s (⟨#[47]⟩ : ByteArray) σ Q := by
  refine ACalls.of_calls fun w hw hsep => ?_
  obtain ⟨m, o, h0, h1⟩ := g.maxlen
  have hm : w.cell? ⟨1, 0, none⟩ = some (.int .i64 m) := by rw [cell?_eq, sees_ro hw 1 o h0]; exact h1
  refine (Tryz.strings_Split s (S [47]) m w hs hm (by decide)).mono ?_
  rintro e w' ⟨he, rfl⟩
  have hmap : (Lib.splitB (S [47]) 0 (Lib.countB s (S [47])) s).map Value.string = (cut (L s)).map vS := by
    rw [← split_cut, List.map_map]
    refine List.map_congr_left fun x _ => ?_
    simp [vS]
  have hlen : (cut (L s)).length = Lib.countB s (S [47]) + 1 := by
    have := Lib.splitB_all (S [47]) (by decide) 0 _ s rfl
    rw [← split_cut, List.length_map, this]
  obtain ⟨N, tag', hN, hst, hrow⟩ := new_row (tag := tag) (w' := w.alloc (.cells ((Lib.splitB (S [47]) 0 (Lib.countB s (S [47])) s).map Value.string).toArray 9)) r hw hsep (Nat.le_refl w.heap.size) (heap_alloc_new w _)
  refine ⟨_, N, he, (Below.refl _ w).alloc (Nat.le_refl _) _, hN, ⟨some ⟨w.heap.size, 0, none⟩, Lib.countB s (S [47]) + 1, Lib.countB s (S [47]) + 1⟩, rfl, ?_⟩
  refine hQ _ tag' _ hst (hrow _ _ _ ?_ ?_ (Nat.le_refl _) ?_)
  · rw [List.length_map, hlen]
  · rw [hmap]; simp [hlen]
  · rw [hmap]; simp only [List.toList_toArray]
    rw [List.take_of_length_le (by simp [hlen])]

theorem Row.sget {r : Nat} {e : TypeId} {s : Sl} {l : List Str} (h : Row tag σ r e s (l.map vS)) (hs : SL.Sep ro σ) {i : Nat} (hi : i < l.length) :
    ∃ p, s.a = some p ∧ s.len = l.length ∧ ∀ j (hj : j < l.length), acell ro σ (p.add (j * 1)) = some (vS l[j]) := by
  obtain ⟨p, hp, hg⟩ := h.ptr hs (by simp; omega)
  refine ⟨p, hp, by rw [h.len]; simp, fun j hj => hg j _ ?_⟩
  rw [List.getElem?_map, List.getElem?_eq_getElem hj]; rfl

theorem partsN_ok {s : ByteArray} {Q : Sl → Int → AH → Prop} (r : Nat) (g : Glob ro) (hnone : parts (L s) = none → ∀ σ', Q ⟨none, 0, 0⟩ 20 σ')
    (hsome : ∀ ps, parts (L s) = some ps → ∀ sl tag' σ', Step [] ro tag σ tag' σ' → Row tag' σ' r 9 sl (ps.map vS) → Q sl 0 σ') : c_path_Parts B ro s σ Q := by
  refine path_Parts_ok fun hs => ?_
  unfold f_path_Parts
  by_cases h1 : s = ⟨#[47]⟩
  · rw [if_pos h1]
    refine hsome [] ?_ _ tag σ (Step.refl hs) (Row.nil r 9)
    subst h1; rfl
  · have hne : L s ≠ [47] := fun h => h1 (L_inj h)
    rw [if_neg h1]
    by_cases h2 : 128 < (s.size : Int)
    · rw [if_pos h2]
      unfold j1_path_Parts
      rw [if_pos rfl]
      refine hnone ?_ _
      unfold parts; rw [if_neg hne, if_neg]
      intro h; have := h.1; rw [L_len] at this; omega
    · rw [if_neg h2]
      refine hasPrefix_ok ?_
      unfold j1_path_Parts
      by_cases h3 : (L s).head? = some 47
      · obtain ⟨t, ht⟩ : ∃ t, L s = 47 :: t := by
          cases h : L s with
          | nil => rw [h] at h3; cases h3
          | cons c t => rw [h] at h3; cases h3; exact ⟨t, rfl⟩
        have hp : (L (⟨#[47]⟩ : ByteArray)).isPrefixOf (L s) = true := by rw [ht]; rfl
        rw [hp, if_neg (by decide)]
        have hsz : s.size = t.length + 1 := by rw [← L_len, ht]; rfl
        refine ⟨⟨trivial, ⟨by omega, by show (1 : Int) ≤ (s.size : Int); omega⟩⟩, ?_⟩
        have hex : s.extract (Int.toNat 1) s.size = S t := by
          conv => lhs; rw [← S_L s]
          rw [S_extract, S_size, List.take_length, ht]; rfl
        rw [hex]
        refine split_ok (tag := tag) r g (by simp; omega) fun sl tag1 σ1 st1 r1 => ?_
        rw [L_S] at r1
        have hln : sl.len = (cut t).length := by rw [r1.len, List.length_map]
        have hdrop : (L s).drop 1 = t := by rw [ht]; rfl
        by_cases h4 : (cut t).length ≤ 8
        · rw [if_neg (by omega)]
          suffices ∀ m j, j + m = (cut t).length → (∀ i (hi : i < (cut t).length), i < j → nameOk (cut t)[i] = true) → lfpD (l5_path_Parts B ro sl Q) (j : Int) σ1 from
            this _ 0 (Nat.zero_add _) (fun i hi h => absurd h (Nat.not_lt_zero _))
          intro m
          induction m with
          | zero =>
            intro j hj hk
            refine lfpD.intro ?_
            unfold l5_path_Parts
            rw [if_neg (by omega)]
            unfold j4_path_Parts
            refine hsome (cut t) ?_ sl tag1 σ1 (st1 _) r1
            unfold parts
            rw [if_neg hne, hdrop, if_pos]
            refine ⟨by rw [L_len]; omega, h3, h4, ?_⟩
            rw [List.all_eq_true]
            intro x hx
            obtain ⟨i, hi, e⟩ := List.getElem_of_mem hx
            rw [← e]; exact hk i hi (by omega)
          | succ m ih =>
            intro j hj hk
            have hjl : j < (cut t).length := by omega
            obtain ⟨p, hp, _, hg⟩ := Row.sget r1 (st1 []).sep hjl
            refine lfpD.intro ?_
            unfold l5_path_Parts
            rw [if_pos (by omega)]
            refine ⟨p, hp, by omega, by omega, _, hg j hjl, ?_⟩
            refine name_ok ?_
            rw [L_S]
            by_cases h5 : nameOk (cut t)[j] = true
            · rw [if_neg (by simpa using h5), inc j (by omega)]
              refine ih (j + 1) (by omega) fun i hi hij => ?_
              rcases Nat.lt_or_ge i j with h | h
              · exact hk i hi h
              · have : i = j := by omega
                subst this; exact h5
            · rw [if_pos (by simpa using h5)]
              refine hnone ?_ _
              unfold parts
              rw [if_neg hne, hdrop, if_neg]
              intro h
              have := List.all_eq_true.1 h.2.2.2 _ (List.getElem_mem hjl)
              exact h5 this
        · rw [if_pos (by omega)]
          refine hnone ?_ _
          unfold parts
          rw [if_neg hne, hdrop, if_neg]
          intro h; exact h4 h.2.2.1
      · have hp : (L (⟨#[47]⟩ : ByteArray)).isPrefixOf (L s) = false := by
          rw [Bool.eq_false_iff]
          intro h
          apply h3
          cases hl : L s with
          | nil => rw [hl] at h; cases h
          | cons c t =>
            rw [hl] at h
            have : ([47] : Str).isPrefixOf (c :: t) = true := h
            simp at this
            rw [← this]; rfl
        rw [hp, if_pos (by decide)]
        refine hnone ?_ _
        unfold parts
        rw [if_neg hne, if_neg]
        intro h; exact h3 h.2.1
theorem parts_ok {s : ByteArray} {Q : Sl → Int → AH → Prop} (r : Nat) (g : Glob ro) (hnone : parts (L s) = none → ∀ sl σ', Q sl 20 σ')
    (hsome : ∀ ps, parts (L s) = some ps → ∀ sl tag' σ', Step [] ro tag σ tag' σ' → Row tag' σ' r 9 sl (ps.map vS) → Q sl 0 σ') : c_path_Parts B ro s σ Q := partsN_ok r g (fun h σ' => hnone h _ σ') hsome
/-- path.Check: 0 or 20 -/
def chk (l : Str) : Int := if (parts l).isSome then 0 else 20
theorem check_ok {s : ByteArray} {Q : Int → AH → Prop} (g : Glob ro) (hQ : Q (chk (L s)) σ) : c_path_Check B ro s σ Q := by
  refine ACalls.quiet (R := fun v => v = .int .i64 (chk (L s))) ?_ (fun v hv => ⟨_, hv, hQ⟩)
  have : c_path_Check B ro s (fun _ => none) fun r _ => r = chk (L s) := by
    refine path_Check_ok fun hs => ?_
    unfold f_path_Check
    refine parts_ok (tag := fun _ => 0) 0 g (fun h _ _ => ?_) (fun ps h _ _ _ _ _ => ?_)
    · show (20 : Int) = chk (L s); unfold chk; rw [h]; rfl
    · show (0 : Int) = chk (L s); unfold chk; rw [h]; rfl
  exact ACalls.mono this fun v τ ⟨r, hv, hr⟩ => by rw [hv, hr]
theorem chk_zero {l : Str} : chk l = 0 ↔ ∃ ps, parts l = some ps := by
  unfold chk
  cases h : parts l with
  | none => simp
  | some ps => simp
theorem slash_iff {ps : List Str} (h : Good ps) : mk ps = [47] ↔ ps = [] :=
  ⟨fun e => Classical.byContradiction fun hn => mk_ne hn h.ok e, fun e => by rw [e]; rfl⟩
theorem li_mk {ps : List Str} {x : Str} (hx : 47 ∉ x) : li (mk (ps ++ [x])) (mk (ps ++ [x])).length = ((if ps = [] then [] else mk ps).length : Int) := by
  rw [mk_snoc]
  have := li_word (if ps = [] then [] else mk ps) x hx x.length (Nat.le_refl _)
  rw [show ((if ps = [] then [] else mk ps) ++ 47 :: x).length = (if ps = [] then [] else mk ps).length + 1 + x.length by simp; omega]
  exact this
theorem mk_pos (ps : List Str) : 1 ≤ (mk ps).length := by obtain ⟨r, h⟩ := mk_head ps; rw [h]; simp

/-- path.Parent: the path above, or the error 20 -/
def parent (l : Str) : Option Str := match parts l with | some ps => if ps = [] then none else some (mk ps.dropLast) | none => none
theorem parent_ok {s : ByteArray} {Q : ByteArray → Int → AH → Prop} (g : Glob ro) (hnone : parent (L s) = none → Q (⟨#[]⟩ : ByteArray) 20 σ) (hsome : ∀ u, parent (L s) = some u → Q (S u) 0 σ) : c_path_Parent B ro s σ Q := by
  refine path_Parent_ok fun hs => ?_
  unfold f_path_Parent
  by_cases h1 : s = ⟨#[47]⟩
  · rw [if_pos h1]
    unfold j1_path_Parent
    rw [if_pos rfl]
    refine hnone ?_
    subst h1; rfl
  · rw [if_neg h1]
    refine check_ok g ?_
    unfold j1_path_Parent
    by_cases h2 : chk (L s) = 0
    · rw [if_neg (by simpa using h2)]
      obtain ⟨ps, hps⟩ := chk_zero.1 h2
      obtain ⟨hl, hg⟩ := parts_iff.1 hps
      have hne : ps ≠ [] := fun e => h1 (L_inj (by rw [hl, e]; rfl))
      obtain ⟨qs, x, rfl⟩ : ∃ qs x, ps = qs ++ [x] := by
        rcases List.eq_nil_or_concat ps with e | ⟨qs, x, e⟩
        · exact absurd e hne
        · exact ⟨qs, x, by rw [e, List.concat_eq_append]⟩
      have hx : 47 ∉ x := name_no (hg.ok x (by simp))
      have hsz : s.size = (mk (qs ++ [x])).length := by rw [← L_len, hl]
      have h128 := hg.len
      refine last_ok (by omega) ?_
      rw [hl, hsz, li_mk hx]
      have hpar : parent (L s) = some (mk qs) := by unfold parent; rw [hps]; simp
      have hlen : (mk (qs ++ [x])).length = (if qs = [] then [] else mk qs).length + 1 + x.length := by rw [mk_snoc]; simp; omega
      have hmax : (if 1 < (((if qs = [] then [] else mk qs).length : Nat) : Int) then (((if qs = [] then [] else mk qs).length : Nat) : Int) else 1) = ((mk qs).length : Int) := by
        by_cases e : qs = []
        · subst e; rfl
        · rw [if_neg e]
          have := mk_pos qs
          split <;> omega
      rw [hmax]
      have hle : (mk qs).length ≤ (mk (qs ++ [x])).length := by
        rw [hlen]
        by_cases e : qs = []
        · subst e; simp [mk]
        · rw [if_neg e]; omega
      refine ⟨⟨⟨by omega, by omega⟩, trivial⟩, ?_⟩
      rw [Int.toNat_natCast]
      have hex : s.extract 0 (mk qs).length = S (mk qs) := by
        conv => lhs; rw [← S_L s]
        rw [S_extract, hl, List.drop_zero]
        congr 1
        rw [mk_snoc]
        by_cases e : qs = []
        · subst e; rfl
        · rw [if_neg e, List.take_left]
      rw [hex]
      exact hsome _ hpar
    · rw [if_pos (by simpa using h2)]
      refine hnone ?_
      unfold parent
      cases h : parts (L s) with
      | none => rfl
      | some ps => exact absurd (chk_zero.2 ⟨ps, h⟩) h2
/-- path.Base: the last name -/
def base (l : Str) : Option Str := match parts l with | some ps => ps.getLast? | none => none
end Go.Proofs.YtomdigihapdhnaaGreatDoor.Pa

/- The variables that the program's text lays, for the rows whose lists bear bytes.ErrTooLarge too. -/
namespace Go.Proofs.YtomdigihapdhnaaGreatDoor.Zt
open Go Go.Proofs.YtomdigihapdhnaaGreatDoor.SL Go.ChangeShapes Go.WideShapes Go.ChangeAt Go.RowKit
set_option linter.unusedVariables false

abbrev LAIDU : List (String × DataW Unit) := Rows.storeRepliesUptoRow.laid
theorem own : ownKnob Tryz.prog.godebug = none := by kernel_rfl
theorem laidOut : laidOutB Tryz.prog = true := by kernel_rfl
theorem var_sees {W w : World} (h : ∀ b o, all W b = some o → w.heap[b]? = some o) {n : String} {cs : Array Value} (hv : W.var? Tryz.prog n = some cs) : w.var? Tryz.prog n = some cs := by
  unfold World.var? at hv ⊢
  obtain ⟨g, hg, hx⟩ := Option.bind_eq_some_iff.1 hv
  rw [hg]
  show (match w.heap[g]? with | some (.cells cs _ _) => some cs | _ => none) = _
  cases hh : W.heap[g]? with
  | none => rw [hh] at hx; cases hx
  | some o => rw [h g o hh]; rw [hh] at hx; exact hx
theorem gPow : Tryz.prog.globalNamed "internal/strconv.uint64pow10" = some 2 := by kernel_rfl
theorem eTab : Tryz.prog.underlying 464 = some (.int .u64) := by kernel_rfl
theorem tPow : (Tryz.prog.globals[2]?).map (·.type) = some 545 := by kernel_rfl
theorem globU {W : World} (hsh : W.ShapedOpen Tryz.prog) (hL : laidMetH Tryz.prog LAIDU W) : Pa.Glob (all W) := by
  rw [MakeChecks.laidMetH_plain _ _ _ (by kernel_rfl)] at hL
  obtain ⟨ps, ⟨g0, t0, cs0, f0, p0, q0, hg0, ht0, hv0, hd0, ⟨g1, t1, cs1, f1, p1, q1, hg1, ht1, hv1, hd1, ⟨g2, t2, cs2, f2, p2, q2, hg2, ht2, hv2, hd2, _, _⟩, _⟩, _⟩, _, _⟩ := hL
  have htab : Lib.TabIs Tryz.prog W "internal/strconv.uint64pow10" .u64 Lib.pow10Tab := by
    obtain rfl := Option.some.inj (gPow.symm.trans hg2)
    obtain rfl := Option.some.inj (tPow.symm.trans ht2)
    unfold Lib.TabIs
    have hd2' : DataW.trod _ Tryz.prog W 0 _ false f2 545 cs2.toList = some (Lib.tabData .u64 Lib.pow10Tab, p2) := hd2
    rw [hv2, ← Lib.cells_of_tab Tryz.underlying545 eTab (by kernel_rfl) (by kernel_rfl) hd2']
  refine ⟨?_, fun w hw => var_sees hw htab⟩
  obtain ⟨m, hm⟩ := Tryz.laysM146.s1_3 W hsh
  have hm : W.cell? ⟨1, 0, none⟩ = some (.int .i64 m) := hm
  rw [cell?_eq] at hm
  cases hh : W.heap[1]? with
  | none => simp only at hm; rw [hh] at hm; cases hm
  | some o => simp only at hm; rw [hh] at hm; exact ⟨m, o, hh, hm⟩
theorem trod_lt' {H : Type} {enc : TypeId × Value → H} {W : World} {t : TypeId} {v : Value} {d : DataW H} {p : List MemPlace} (h : DataW.Trod enc Tryz.prog W 0 (fun _ => true) true t v d p) : ∀ x ∈ p, x.block < W.heap.size := by
  obtain ⟨m, hm⟩ := h; exact DataW.trod_lt m _ _ _ hm
end Go.Proofs.YtomdigihapdhnaaGreatDoor.Zt

/- A map that is ranged over while nothing is put into it. Generic over any program. -/
namespace Go.Proofs.YtomdigihapdhnaaGreatDoor.SL
open Go
set_option linter.unusedVariables false
set_option linter.unusedSimpArgs false
variable {P : Program} {B : World} {ro σ σ' : AH} {tag tag' : Nat → Nat}

theorem awp_choose2 {β : Type} {q : Question} {f : Nat → Sem β} {Q : β → AH → Prop} (h0 : q.forced = true → awp P ro (f 0) Q σ) (h1 : q.forced = false → ∀ n, awp P ro (f (q.cut n)) Q σ) : awp P ro (Sem.bind (choose q) f) Q σ := by
  show (if q.forced then awp P ro (f 0) Q σ else ∀ n, awp P ro (f (q.cut n)) Q σ)
  split
  · rename_i h; exact h0 h
  · rename_i h; exact h1 (by simpa using h)
theorem awp_next_map {ty : TypeId} {x M clock : Nat} {seen : Array Nat} {es : Array MapEntry} {K : Value → AH → Prop} (hx : σ x = some (.mapIter (some M) clock seen clock)) (hm : σ M = some (.map es clock)) (hs : Sep ro σ) (hb : Born es clock)
    (hover : (∀ e ∈ es.toList, seen.contains e.born = true) → K (.tuple #[.bool false]) σ)
    (hstep : ∀ e ∈ es.toList, seen.contains e.born = false → K (.tuple #[.bool true, e.key, e.val]) (upd σ x (.mapIter (some M) clock (seen.push e.born) clock))) :
    awp P ro (Instr.next (.pointer (some ⟨x, 0, none⟩)) false ty) K σ := by
  unfold Instr.next
  refine ⟨.mapIter (some M) clock seen clock, by unfold rd; rw [hs x _ hx]; exact hx, rfl, ?_⟩
  refine ⟨.map es clock, by unfold rd; rw [hs M _ hm]; exact hm, rfl, ?_⟩
  have hall : (!seen.isEmpty && !es.isEmpty && es.all fun e => decide (e.born ≥ clock)) = false := by
    cases he : es.isEmpty with
    | true => simp
    | false =>
      have hne : 0 < es.size := by
        rcases Nat.eq_zero_or_pos es.size with h | h
        · have : es = #[] := Array.eq_empty_of_size_eq_zero h
          rw [this] at he; cases he
        · exact h
      have h0 := hb.lt es[0] (by simp)
      have : (es.all fun e => decide (e.born ≥ clock)) = false := by
        rw [← Bool.not_eq_true, Array.all_eq_true]
        intro h
        have := h 0 hne
        simp only [decide_eq_true_eq] at this
        omega
      rw [this]; simp
  show awp P ro (if _ then _ else _) K σ
  rw [if_neg (by rw [hall]; simp)]
  have hold : ((es.filter fun e => !seen.contains e.born).filter fun e => decide (e.born < clock)) = es.filter fun e => !seen.contains e.born := by
    rw [Array.filter_eq_self]
    intro e he
    have := hb.lt e (by have := (Array.mem_filter.1 he).1; simpa using this)
    simpa using this
  have hnew : ((es.filter fun e => !seen.contains e.born).filter fun e => decide (e.born ≥ clock)) = #[] := by
    rw [Array.filter_eq_empty_iff]
    intro e he
    have := hb.lt e (by have := (Array.mem_filter.1 he).1; simpa using this)
    simp; omega
  simp only [hold, hnew, Array.append_empty]
  generalize hleft : (es.filter fun e => !seen.contains e.born) = left
  have hmem : ∀ e, e ∈ left ↔ e ∈ es.toList ∧ seen.contains e.born = false := fun e => by
    rw [← hleft, Array.mem_filter]; simp
  by_cases hemp : left = #[]
  · subst hemp
    have e1 : ((if (#[] : Array MapEntry).isEmpty = true then (#[none] : Array (Option MapEntry)) else #[]) ++ (#[] : Array MapEntry).map some) = #[none] := by simp
    rw [e1]
    refine awp_choose2 (fun _ => ?_) (fun h => absurd h (by decide))
    show K (Value.tuple #[.bool false]) σ
    refine hover fun e he => ?_
    cases h : seen.contains e.born with
    | true => rfl
    | false => exact absurd ((hmem e).2 ⟨he, h⟩) (by simp)
  · have hsz : 0 < left.size := by
      rcases Nat.eq_zero_or_pos left.size with h | h
      · exact absurd (Array.eq_empty_of_size_eq_zero h) hemp
      · exact h
    have hie : left.isEmpty = false := by simp [Array.isEmpty]; omega
    rw [if_neg (by rw [hie]; simp)]
    have hcand : (#[] : Array (Option MapEntry)) ++ left.map some = left.map some := by simp
    rw [hcand]
    have step : ∀ i, i < left.size → awp P ro (match (left.map some)[i]? with
        | some (some e) => Sem.bind (setObj x (.mapIter (some M) clock (seen.push e.born) clock)) fun _ => Sem.pure (Value.tuple #[.bool true, e.key, e.val])
        | some none => Sem.pure (Value.tuple #[.bool false])
        | none => stuck "Next: no such candidate") K σ := fun i hi => by
      rw [Array.getElem?_map, Array.getElem?_eq_getElem hi]
      simp only [Option.map_some]
      have hin := (hmem left[i]).1 (Array.getElem_mem hi)
      exact ⟨.mapIter (some M) clock seen clock, hx, rfl, hstep left[i] hin.1 hin.2⟩
    refine awp_choose2 (fun _ => step 0 hsz) (fun _ n => step _ ?_)
    simp only [Question.cut, Array.size_map]
    exact Nat.mod_lt _ hsz
end Go.Proofs.YtomdigihapdhnaaGreatDoor.SL
