/- GSto, GSes, GWat, MapN, MapK, ReH, ReI, ReJ -/
import Derived.Test.YtomdigihapdhnaaGreatDoorXM
/- Functions as predicate transformers, and the proofs that the code does what they tell: printed by wip/tools/gen.py. -/
namespace Go.Proofs.YtomdigihapdhnaaGreatDoor.G
open Go Go.Proofs.YtomdigihapdhnaaGreatDoor.SL
set_option linter.unusedVariables false
set_option linter.unusedSimpArgs false

def f_store_New (B : World) (ro : AH) (a0 : Sl) (σ : AH) (Q : Option Addr → Int → AH → Prop) : Prop :=
 c_store_rightMembers B ro a0 σ fun x5_1 σ =>
 if ¬ (x5_1 = true) then
  Q none 190 σ
 else
 c_slices_Clone_int_int B ro a0 σ fun x8_2 σ =>
 c_ztree_New B ro σ fun x10_3 σ =>
 c_session_New B ro σ fun x11_4 σ =>
 c_watch_New B ro σ fun x12_5 σ =>
 nw ro σ (.cells #[.int .i64 0, Sl.v x8_2, .pointer x10_3, .pointer x11_4, .pointer x12_5] 153) fun x14_6 σ =>
 Q (some ⟨x14_6, 0, none⟩) 0 σ

set_option maxRecDepth 100000 in
set_option maxHeartbeats 4000000 in
theorem store_New_ok {B : World} {ro : AH} {a0 : Sl} {σ : AH} {Q : Option Addr → Int → AH → Prop} (h : Sep ro σ → f_store_New B ro a0 σ Q) : c_store_New B ro a0 σ Q := by
  refine ACalls.of_sep fun hsep => ?_
  replace h := h hsep
  refine ACalls.of_body (args := [Sl.v a0]) Tryz.func21 rfl (by rw [Tryz.ntmps21]; simp) ?_
  rw [Tryz.ntmps21]
  unfold f_store_New at h
  refine AW.seq ?_
  refine AW.reg ?_
  refine Lp (V_asg rfl rfl) rfl rfl ?_
  refine Lp (V_asg rfl rfl) rfl rfl ?_
  refine Lnil ?_
  refine thenN ?_
  refine AW.seq ?_
  refine AW.seq ?_
  refine AW.reg ?_
  refine Lp (V_move rfl rfl) rfl rfl ?_
  refine Ls rfl rfl (X_call rfl Tryz.func64 rfl rfl rfl (ACalls.mono h ?_))
  rintro v σ ⟨x5_1, rfl, h⟩
  refine Lp (V_not rfl rfl) rfl rfl ?_
  refine Lnil ?_
  refine thenN ?_
  refine AW.iff rfl (bnot_iff Iff.rfl) h (fun h => ?_) (fun h => ?_)
  · refine AW.seq ?_
    refine AW.reg ?_
    refine Lp (V_asg rfl rfl) rfl rfl ?_
    refine Lp (V_asg rfl rfl) rfl rfl ?_
    refine Lnil ?_
    refine thenN ?_
    refine AW.ret ?_
    refine thenR ?_
    exact bR2 Tryz.results21 rfl rfl ⟨_, _, rfl, h⟩
  refine AW.skip ?_
  refine thenN ?_
  refine AW.seq ?_
  refine AW.reg ?_
  refine Lp (V_move rfl rfl) rfl rfl ?_
  refine Ls rfl rfl (X_call rfl Tryz.func65 rfl rfl rfl (ACalls.mono h ?_))
  rintro v σ ⟨x8_2, rfl, h⟩
  refine Lp (V_bld (vs := [(0, .int .i64 0), (1, Sl.v x8_2)]) (cs := #[.int .i64 0, Sl.v x8_2]) rfl Tryz.underlying149 ty149 pl149 rfl rfl) rfl rfl ?_
  refine Ls rfl rfl (X_call rfl Tryz.func66 rfl rfl rfl (ACalls.mono h ?_))
  rintro v σ ⟨x10_3, rfl, h⟩
  refine Ls rfl rfl (X_call rfl Tryz.func67 rfl rfl rfl (ACalls.mono h ?_))
  rintro v σ ⟨x11_4, rfl, h⟩
  refine Ls rfl rfl (X_call rfl Tryz.func68 rfl rfl rfl (ACalls.mono h ?_))
  rintro v σ ⟨x12_5, rfl, h⟩
  refine Lp (V_bld (vs := [(0, .agg #[.int .i64 0, Sl.v x8_2]), (1, .pointer x10_3), (2, .pointer x11_4), (3, .pointer x12_5)]) (cs := #[.int .i64 0, Sl.v x8_2, .pointer x10_3, .pointer x11_4, .pointer x12_5]) rfl Tryz.underlying153 ty153 pl153 rfl rfl) rfl rfl ?_
  refine Ls rfl rfl (X_new (A_box rfl rfl) fun x14_6 g1 g2 => ?_)
  replace h := h x14_6 g1 g2
  refine Lp (V_asg rfl rfl) rfl rfl ?_
  refine Lp (V_asg rfl rfl) rfl rfl ?_
  refine Lnil ?_
  refine thenN ?_
  refine AW.ret ?_
  exact bR2 Tryz.results21 rfl rfl ⟨_, _, rfl, h⟩

def j21_store_Store_Apply (B : World) (ro : AH) (a0 : Option Addr) (x3_1 : Nat) (x4_2 : Nat) (Q : Int → Int → Sl → Int → Sl → Int → Int → Int → Int → Sl → Sl → Int → AH → Prop) (x35_22 : Bool) (σ : AH) : Prop :=
 if x35_22 = true then
  ∃ (x42_23a : Int) (x42_23b : ByteArray) (x42_23c : Int) (x42_23d : Int) (x42_23e : Int) (x42_23f : Int) (x42_23g : Int) (x42_23h : Int) (x42_23i : Sl) (x42_23j : ByteArray) (x42_23k : Bool) (x42_23l : Int) (x42_23m : Sl), cellsAt ro σ ⟨x3_1, 0, none⟩ 0 [.int .i64 x42_23a, .string x42_23b, .int .i64 x42_23c, .int .i64 x42_23d, .int .i64 x42_23e, .int .i64 x42_23f, .int .i64 x42_23g, .int .i64 x42_23h, Sl.v x42_23i, .string x42_23j, .bool x42_23k, .int .i64 x42_23l, Sl.v x42_23m] ∧
  c_store_Store_within B ro a0 x42_23a x42_23b x42_23c x42_23d x42_23e x42_23f x42_23g x42_23h x42_23i x42_23j x42_23k x42_23l x42_23m σ fun x43_24a x43_24b x43_24c x43_24d x43_24e x43_24f x43_24g x43_24h x43_24i x43_24j x43_24k x43_24l σ =>
  stN ⟨x4_2, 0, none⟩ (fun σ =>
   ∃ (x4_25a : Int) (x4_25b : Int) (x4_25c : Sl) (x4_25d : Int) (x4_25e : Sl) (x4_25f : Int) (x4_25g : Int) (x4_25h : Int) (x4_25i : Int) (x4_25j : Sl) (x4_25k : Sl) (x4_25l : Int), cellsAt ro σ ⟨x4_2, 0, none⟩ 0 [.int .i64 x4_25a, .int .i64 x4_25b, Sl.v x4_25c, .int .i64 x4_25d, Sl.v x4_25e, .int .i64 x4_25f, .int .i64 x4_25g, .int .i64 x4_25h, .int .i64 x4_25i, Sl.v x4_25j, Sl.v x4_25k, .int .i64 x4_25l] ∧
   Q x4_25a x4_25b x4_25c x4_25d x4_25e x4_25f x4_25g x4_25h x4_25i x4_25j x4_25k x4_25l σ) [.int .i64 x43_24a, .int .i64 x43_24b, Sl.v x43_24c, .int .i64 x43_24d, Sl.v x43_24e, .int .i64 x43_24f, .int .i64 x43_24g, .int .i64 x43_24h, .int .i64 x43_24i, Sl.v x43_24j, Sl.v x43_24k, .int .i64 x43_24l] 0 σ
 else
 c_store_fault B ro 170 σ fun x44_26a x44_26b x44_26c x44_26d x44_26e x44_26f x44_26g x44_26h x44_26i x44_26j x44_26k x44_26l σ =>
 stN ⟨x4_2, 0, none⟩ (fun σ =>
  ∃ (x4_27a : Int) (x4_27b : Int) (x4_27c : Sl) (x4_27d : Int) (x4_27e : Sl) (x4_27f : Int) (x4_27g : Int) (x4_27h : Int) (x4_27i : Int) (x4_27j : Sl) (x4_27k : Sl) (x4_27l : Int), cellsAt ro σ ⟨x4_2, 0, none⟩ 0 [.int .i64 x4_27a, .int .i64 x4_27b, Sl.v x4_27c, .int .i64 x4_27d, Sl.v x4_27e, .int .i64 x4_27f, .int .i64 x4_27g, .int .i64 x4_27h, .int .i64 x4_27i, Sl.v x4_27j, Sl.v x4_27k, .int .i64 x4_27l] ∧
  Q x4_27a x4_27b x4_27c x4_27d x4_27e x4_27f x4_27g x4_27h x4_27i x4_27j x4_27k x4_27l σ) [.int .i64 x44_26a, .int .i64 x44_26b, Sl.v x44_26c, .int .i64 x44_26d, Sl.v x44_26e, .int .i64 x44_26f, .int .i64 x44_26g, .int .i64 x44_26h, .int .i64 x44_26i, Sl.v x44_26j, Sl.v x44_26k, .int .i64 x44_26l] 0 σ

def f_store_Store_Apply (B : World) (ro : AH) (a0 : Option Addr) (a1_0 : Int) (a1_1 : ByteArray) (a1_2 : Int) (a1_3 : Int) (a1_4 : Int) (a1_5 : Int) (a1_6 : Int) (a1_7 : Int) (a1_8 : Sl) (a1_9 : ByteArray) (a1_10 : Bool) (a1_11 : Int) (a1_12 : Sl) (σ : AH) (Q : Int → Int → Sl → Int → Sl → Int → Int → Int → Int → Sl → Sl → Int → AH → Prop) : Prop :=
 nw ro σ (.cells #[.int .i64 a1_0, .string a1_1, .int .i64 a1_2, .int .i64 a1_3, .int .i64 a1_4, .int .i64 a1_5, .int .i64 a1_6, .int .i64 a1_7, Sl.v a1_8, .string a1_9, .bool a1_10, .int .i64 a1_11, Sl.v a1_12] 57) fun x3_1 σ =>
 nw ro σ (.cells #[.int .i64 0, .int .i64 0, Sl.v (⟨none, 0, 0⟩ : Sl), .int .i64 0, Sl.v (⟨none, 0, 0⟩ : Sl), .int .i64 0, .int .i64 0, .int .i64 0, .int .i64 0, Sl.v (⟨none, 0, 0⟩ : Sl), Sl.v (⟨none, 0, 0⟩ : Sl), .int .i64 0] 30) fun x4_2 σ =>
 ∃ (x6_3 : Int), acell ro σ ⟨x3_1, 0, none⟩ = some (.int .i64 x6_3) ∧
 if x6_3 = 1 then
  ∃ (x10_4a : Int) (x10_4b : ByteArray) (x10_4c : Int) (x10_4d : Int) (x10_4e : Int) (x10_4f : Int) (x10_4g : Int) (x10_4h : Int) (x10_4i : Sl) (x10_4j : ByteArray) (x10_4k : Bool) (x10_4l : Int) (x10_4m : Sl), cellsAt ro σ ⟨x3_1, 0, none⟩ 0 [.int .i64 x10_4a, .string x10_4b, .int .i64 x10_4c, .int .i64 x10_4d, .int .i64 x10_4e, .int .i64 x10_4f, .int .i64 x10_4g, .int .i64 x10_4h, Sl.v x10_4i, .string x10_4j, .bool x10_4k, .int .i64 x10_4l, Sl.v x10_4m] ∧
  c_store_Store_open B ro a0 x10_4a x10_4b x10_4c x10_4d x10_4e x10_4f x10_4g x10_4h x10_4i x10_4j x10_4k x10_4l x10_4m σ fun x11_5a x11_5b x11_5c x11_5d x11_5e x11_5f x11_5g x11_5h x11_5i x11_5j x11_5k x11_5l σ =>
  stN ⟨x4_2, 0, none⟩ (fun σ =>
   ∃ (x4_6a : Int) (x4_6b : Int) (x4_6c : Sl) (x4_6d : Int) (x4_6e : Sl) (x4_6f : Int) (x4_6g : Int) (x4_6h : Int) (x4_6i : Int) (x4_6j : Sl) (x4_6k : Sl) (x4_6l : Int), cellsAt ro σ ⟨x4_2, 0, none⟩ 0 [.int .i64 x4_6a, .int .i64 x4_6b, Sl.v x4_6c, .int .i64 x4_6d, Sl.v x4_6e, .int .i64 x4_6f, .int .i64 x4_6g, .int .i64 x4_6h, .int .i64 x4_6i, Sl.v x4_6j, Sl.v x4_6k, .int .i64 x4_6l] ∧
   Q x4_6a x4_6b x4_6c x4_6d x4_6e x4_6f x4_6g x4_6h x4_6i x4_6j x4_6k x4_6l σ) [.int .i64 x11_5a, .int .i64 x11_5b, Sl.v x11_5c, .int .i64 x11_5d, Sl.v x11_5e, .int .i64 x11_5f, .int .i64 x11_5g, .int .i64 x11_5h, .int .i64 x11_5i, Sl.v x11_5j, Sl.v x11_5k, .int .i64 x11_5l] 0 σ
 else
 if x6_3 = 4 then
  lent σ fun ψ σ =>
   ∃ p15_7 : Addr, a0 = some p15_7 ∧
   ∃ (x17_8 : Option Addr), acell (join ro ψ) (fun _ => none) (p15_7.add 3) = some (.pointer x17_8) ∧
   ∃ (x21_9 : Int), acell (join ro ψ) (fun _ => none) ((⟨x3_1, 0, none⟩ : Addr).add 6) = some (.int .i64 x21_9) ∧
   ∃ (x18_10a : Int) (x18_10b : ByteArray) (x18_10c : Int) (x18_10d : Int) (x18_10e : Int) (x18_10f : Int) (x18_10g : Int) (x18_10h : Int) (x18_10i : Sl) (x18_10j : ByteArray) (x18_10k : Bool) (x18_10l : Int) (x18_10m : Sl), cellsAt (join ro ψ) σ ⟨x3_1, 0, none⟩ 0 [.int .i64 x18_10a, .string x18_10b, .int .i64 x18_10c, .int .i64 x18_10d, .int .i64 x18_10e, .int .i64 x18_10f, .int .i64 x18_10g, .int .i64 x18_10h, Sl.v x18_10i, .string x18_10j, .bool x18_10k, .int .i64 x18_10l, Sl.v x18_10m] ∧
   c_store_Call_key B (join ro ψ) x18_10a x18_10b x18_10c x18_10d x18_10e x18_10f x18_10g x18_10h x18_10i x18_10j x18_10k x18_10l x18_10m σ fun x19_11a x19_11b σ =>
   c_session_Table_Expire B (join ro ψ) x17_8 x19_11a x19_11b x21_9 σ fun x22_12 σ =>
   (Disj ψ σ → (fun σ => 
    if ¬ (x22_12 = true) then
     c_store_fault B ro 150 σ fun x24_13a x24_13b x24_13c x24_13d x24_13e x24_13f x24_13g x24_13h x24_13i x24_13j x24_13k x24_13l σ =>
     stN ⟨x4_2, 0, none⟩ (fun σ =>
      ∃ (x4_14a : Int) (x4_14b : Int) (x4_14c : Sl) (x4_14d : Int) (x4_14e : Sl) (x4_14f : Int) (x4_14g : Int) (x4_14h : Int) (x4_14i : Int) (x4_14j : Sl) (x4_14k : Sl) (x4_14l : Int), cellsAt ro σ ⟨x4_2, 0, none⟩ 0 [.int .i64 x4_14a, .int .i64 x4_14b, Sl.v x4_14c, .int .i64 x4_14d, Sl.v x4_14e, .int .i64 x4_14f, .int .i64 x4_14g, .int .i64 x4_14h, .int .i64 x4_14i, Sl.v x4_14j, Sl.v x4_14k, .int .i64 x4_14l] ∧
      Q x4_14a x4_14b x4_14c x4_14d x4_14e x4_14f x4_14g x4_14h x4_14i x4_14j x4_14k x4_14l σ) [.int .i64 x24_13a, .int .i64 x24_13b, Sl.v x24_13c, .int .i64 x24_13d, Sl.v x24_13e, .int .i64 x24_13f, .int .i64 x24_13g, .int .i64 x24_13h, .int .i64 x24_13i, Sl.v x24_13j, Sl.v x24_13k, .int .i64 x24_13l] 0 σ
    else
    ∃ (x26_15a : Int) (x26_15b : ByteArray) (x26_15c : Int) (x26_15d : Int) (x26_15e : Int) (x26_15f : Int) (x26_15g : Int) (x26_15h : Int) (x26_15i : Sl) (x26_15j : ByteArray) (x26_15k : Bool) (x26_15l : Int) (x26_15m : Sl), cellsAt ro σ ⟨x3_1, 0, none⟩ 0 [.int .i64 x26_15a, .string x26_15b, .int .i64 x26_15c, .int .i64 x26_15d, .int .i64 x26_15e, .int .i64 x26_15f, .int .i64 x26_15g, .int .i64 x26_15h, Sl.v x26_15i, .string x26_15j, .bool x26_15k, .int .i64 x26_15l, Sl.v x26_15m] ∧
    c_store_Call_key B ro x26_15a x26_15b x26_15c x26_15d x26_15e x26_15f x26_15g x26_15h x26_15i x26_15j x26_15k x26_15l x26_15m σ fun x27_16a x27_16b σ =>
    c_store_Store_clean B ro a0 x27_16a x27_16b σ fun σ =>
    stN ⟨x4_2, 0, none⟩ (fun σ =>
     ∃ (x4_17a : Int) (x4_17b : Int) (x4_17c : Sl) (x4_17d : Int) (x4_17e : Sl) (x4_17f : Int) (x4_17g : Int) (x4_17h : Int) (x4_17i : Int) (x4_17j : Sl) (x4_17k : Sl) (x4_17l : Int), cellsAt ro σ ⟨x4_2, 0, none⟩ 0 [.int .i64 x4_17a, .int .i64 x4_17b, Sl.v x4_17c, .int .i64 x4_17d, Sl.v x4_17e, .int .i64 x4_17f, .int .i64 x4_17g, .int .i64 x4_17h, .int .i64 x4_17i, Sl.v x4_17j, Sl.v x4_17k, .int .i64 x4_17l] ∧
     Q x4_17a x4_17b x4_17c x4_17d x4_17e x4_17f x4_17g x4_17h x4_17i x4_17j x4_17k x4_17l σ) [.int .i64 0, .int .i64 0, Sl.v (⟨none, 0, 0⟩ : Sl), .int .i64 0, Sl.v (⟨none, 0, 0⟩ : Sl), .int .i64 0, .int .i64 0, .int .i64 0, .int .i64 0, Sl.v (⟨none, 0, 0⟩ : Sl), Sl.v (⟨none, 0, 0⟩ : Sl), .int .i64 0] 0 σ) (join ψ σ))
 else
 if x6_3 = 8 then
  ∃ (x33_18a : Int) (x33_18b : ByteArray) (x33_18c : Int) (x33_18d : Int) (x33_18e : Int) (x33_18f : Int) (x33_18g : Int) (x33_18h : Int) (x33_18i : Sl) (x33_18j : ByteArray) (x33_18k : Bool) (x33_18l : Int) (x33_18m : Sl), cellsAt ro σ ⟨x3_1, 0, none⟩ 0 [.int .i64 x33_18a, .string x33_18b, .int .i64 x33_18c, .int .i64 x33_18d, .int .i64 x33_18e, .int .i64 x33_18f, .int .i64 x33_18g, .int .i64 x33_18h, Sl.v x33_18i, .string x33_18j, .bool x33_18k, .int .i64 x33_18l, Sl.v x33_18m] ∧
  c_store_Store_reconf B ro a0 x33_18a x33_18b x33_18c x33_18d x33_18e x33_18f x33_18g x33_18h x33_18i x33_18j x33_18k x33_18l x33_18m σ fun x34_19a x34_19b x34_19c x34_19d x34_19e x34_19f x34_19g x34_19h x34_19i x34_19j x34_19k x34_19l σ =>
  stN ⟨x4_2, 0, none⟩ (fun σ =>
   ∃ (x4_20a : Int) (x4_20b : Int) (x4_20c : Sl) (x4_20d : Int) (x4_20e : Sl) (x4_20f : Int) (x4_20g : Int) (x4_20h : Int) (x4_20i : Int) (x4_20j : Sl) (x4_20k : Sl) (x4_20l : Int), cellsAt ro σ ⟨x4_2, 0, none⟩ 0 [.int .i64 x4_20a, .int .i64 x4_20b, Sl.v x4_20c, .int .i64 x4_20d, Sl.v x4_20e, .int .i64 x4_20f, .int .i64 x4_20g, .int .i64 x4_20h, .int .i64 x4_20i, Sl.v x4_20j, Sl.v x4_20k, .int .i64 x4_20l] ∧
   Q x4_20a x4_20b x4_20c x4_20d x4_20e x4_20f x4_20g x4_20h x4_20i x4_20j x4_20k x4_20l σ) [.int .i64 x34_19a, .int .i64 x34_19b, Sl.v x34_19c, .int .i64 x34_19d, Sl.v x34_19e, .int .i64 x34_19f, .int .i64 x34_19g, .int .i64 x34_19h, .int .i64 x34_19i, Sl.v x34_19j, Sl.v x34_19k, .int .i64 x34_19l] 0 σ
 else
 if x6_3 = 2 then
  j21_store_Store_Apply B ro a0 x3_1 x4_2 Q (decide (x6_3 = 2)) σ
 else
 if x6_3 = 3 then
  j21_store_Store_Apply B ro a0 x3_1 x4_2 Q (decide (x6_3 = 3)) σ
 else
 if x6_3 = 5 then
  j21_store_Store_Apply B ro a0 x3_1 x4_2 Q (decide (x6_3 = 5)) σ
 else
 if x6_3 = 6 then
  j21_store_Store_Apply B ro a0 x3_1 x4_2 Q (decide (x6_3 = 6)) σ
 else
 j21_store_Store_Apply B ro a0 x3_1 x4_2 Q (decide (x6_3 = 7)) σ

set_option maxRecDepth 100000 in
set_option maxHeartbeats 4000000 in
theorem store_Store_Apply_ok {B : World} {ro : AH} {a0 : Option Addr} {a1_0 : Int} {a1_1 : ByteArray} {a1_2 : Int} {a1_3 : Int} {a1_4 : Int} {a1_5 : Int} {a1_6 : Int} {a1_7 : Int} {a1_8 : Sl} {a1_9 : ByteArray} {a1_10 : Bool} {a1_11 : Int} {a1_12 : Sl} {σ : AH} {Q : Int → Int → Sl → Int → Sl → Int → Int → Int → Int → Sl → Sl → Int → AH → Prop} (h : Sep ro σ → f_store_Store_Apply B ro a0 a1_0 a1_1 a1_2 a1_3 a1_4 a1_5 a1_6 a1_7 a1_8 a1_9 a1_10 a1_11 a1_12 σ Q) : c_store_Store_Apply B ro a0 a1_0 a1_1 a1_2 a1_3 a1_4 a1_5 a1_6 a1_7 a1_8 a1_9 a1_10 a1_11 a1_12 σ Q := by
  refine ACalls.of_sep fun hsep => ?_
  replace h := h hsep
  refine ACalls.of_body (args := [.pointer a0, .agg #[.int .i64 a1_0, .string a1_1, .int .i64 a1_2, .int .i64 a1_3, .int .i64 a1_4, .int .i64 a1_5, .int .i64 a1_6, .int .i64 a1_7, Sl.v a1_8, .string a1_9, .bool a1_10, .int .i64 a1_11, Sl.v a1_12]]) Tryz.func22 rfl (by rw [Tryz.ntmps22]; simp) ?_
  rw [Tryz.ntmps22]
  unfold f_store_Store_Apply at h
  refine AW.seq ?_
  refine AW.reg ?_
  refine Ls rfl rfl (X_new (A_box rfl rfl) fun x3_1 g1 g2 => ?_)
  replace h := h x3_1 g1 g2
  refine Ls rfl rfl (X_new (A_alloc rfl ty30) fun x4_2 g1 g2 => ?_)
  replace h := h x4_2 g1 g2
  refine Lnil ?_
  refine thenN ?_
  refine AW.seq ?_
  refine AW.seq ?_
  refine AW.reg ?_
  refine Lp (V_fld rfl Tryz.underlying57 rfl ty3 (by decide) rfl) rfl rfl ?_
  obtain ⟨x6_3, hc, h⟩ := h
  refine Ls rfl rfl (X_ld rfl Tryz.underlying3 rfl rfl hc ?_)
  refine Lnil ?_
  refine thenN ?_
  refine AW.block ?_
  refine AW.seq ?_
  refine AW.reg ?_
  refine Lp (V_eql rfl rfl rfl) rfl rfl ?_
  refine Lp (V_asg rfl rfl) rfl rfl ?_
  refine Lnil ?_
  refine thenN ?_
  refine AW.iff rfl decide_eq_true_iff h (fun h => ?_) (fun h => ?_)
  · refine AW.seq ?_
    refine AW.reg ?_
    refine Lp (V_move rfl rfl) rfl rfl ?_
    obtain ⟨x10_4a, x10_4b, x10_4c, x10_4d, x10_4e, x10_4f, x10_4g, x10_4h, x10_4i, x10_4j, x10_4k, x10_4l, x10_4m, hc, h⟩ := h
    refine Ls rfl rfl (X_lda rfl Tryz.underlying57 rfl ty57 rfl hc ?_)
    refine Ls rfl rfl (X_call rfl Tryz.func69 rfl rfl rfl (ACalls.mono h ?_))
    rintro v σ ⟨x11_5a, x11_5b, x11_5c, x11_5d, x11_5e, x11_5f, x11_5g, x11_5h, x11_5i, x11_5j, x11_5k, x11_5l, rfl, h⟩
    refine Ls rfl rfl (X_st rfl ty30 rfl rfl rfl rfl (stN_mono h fun σ h => ?_))
    refine Lnil ?_
    refine thenN ?_
    refine AW.ret ?_
    refine blockR ?_
    refine thenR ?_
    obtain ⟨x4_6a, x4_6b, x4_6c, x4_6d, x4_6e, x4_6f, x4_6g, x4_6h, x4_6i, x4_6j, x4_6k, x4_6l, hc0, h⟩ := h
    exact bRM1 Tryz.results22 (rCons (rAgg rfl Tryz.underlying30 rfl ty30 hc0) rNil) ⟨_, _, _, _, _, _, _, _, _, _, _, _, rfl, h⟩
  refine AW.seq ?_
  refine AW.reg ?_
  refine Lp (V_eql rfl rfl rfl) rfl rfl ?_
  refine Lp (V_asg rfl rfl) rfl rfl ?_
  refine Lnil ?_
  refine thenN ?_
  refine AW.iff rfl decide_eq_true_iff h (fun h => ?_) (fun h => ?_)
  · refine AW.seq ?_
    refine AW.seq ?_
    refine AW.drawnL (fun i => ([0, 0, 0, 0, 3, 2, 0, 0, 2, 0] : List Nat).getD i 2) [(4, 5), (4, 8)] [0, 1, 2, 3, 6, 7, 4, 5, 8, 9] Tryz.mixed h (by decide +kernel) ?_
    clear h
    intro ψ σ h
    refine Dp rfl rfl rfl rfl (V_move rfl rfl) ?_
    obtain ⟨p15_7, hc, h⟩ := h
    refine Dp rfl rfl rfl rfl (V_nil rfl (by rw [← hc]; rfl)) ?_
    refine Dp rfl rfl rfl rfl (V_fld rfl Tryz.underlying153 rfl ty150 (by decide) rfl) ?_
    obtain ⟨x17_8, hc, h⟩ := h
    refine Dp rfl rfl rfl rfl (V_ld rfl Tryz.underlying150 rfl rfl hc) ?_
    refine Dp rfl rfl rfl rfl (V_fld rfl Tryz.underlying57 rfl ty3 (by decide) rfl) ?_
    obtain ⟨x21_9, hc, h⟩ := h
    refine Dp rfl rfl rfl rfl (V_ld rfl Tryz.underlying3 rfl rfl hc) ?_
    obtain ⟨x18_10a, x18_10b, x18_10c, x18_10d, x18_10e, x18_10f, x18_10g, x18_10h, x18_10i, x18_10j, x18_10k, x18_10l, x18_10m, hc, h⟩ := h
    refine Dr rfl rfl rfl rfl (R_lda rfl Tryz.underlying57 rfl ty57 rfl hc) ?_
    refine Dg rfl rfl rfl rfl (X_call rfl Tryz.func71 rfl rfl rfl (ACalls.mono h ?_))
    rintro v σ ⟨x19_11a, x19_11b, rfl, h⟩
    refine Dg rfl rfl rfl rfl (X_call rfl Tryz.func70 rfl rfl rfl (ACalls.mono h ?_))
    rintro v σ ⟨x22_12, rfl, h⟩
    refine Dp rfl rfl rfl rfl (V_not rfl rfl) ?_
    refine ⟨_, FrEq.refl _, fun hdj => ?_⟩
    replace h := h hdj
    refine thenN ?_
    refine AW.iff rfl (bnot_iff Iff.rfl) h (fun h => ?_) (fun h => ?_)
    · refine AW.seq ?_
      refine AW.reg ?_
      refine Ls rfl rfl (X_call rfl Tryz.func72 rfl rfl rfl (ACalls.mono h ?_))
      rintro v σ ⟨x24_13a, x24_13b, x24_13c, x24_13d, x24_13e, x24_13f, x24_13g, x24_13h, x24_13i, x24_13j, x24_13k, x24_13l, rfl, h⟩
      refine Ls rfl rfl (X_st rfl ty30 rfl rfl rfl rfl (stN_mono h fun σ h => ?_))
      refine Lnil ?_
      refine thenN ?_
      refine AW.ret ?_
      refine thenR ?_
      refine blockR ?_
      refine thenR ?_
      obtain ⟨x4_14a, x4_14b, x4_14c, x4_14d, x4_14e, x4_14f, x4_14g, x4_14h, x4_14i, x4_14j, x4_14k, x4_14l, hc0, h⟩ := h
      exact bRM1 Tryz.results22 (rCons (rAgg rfl Tryz.underlying30 rfl ty30 hc0) rNil) ⟨_, _, _, _, _, _, _, _, _, _, _, _, rfl, h⟩
    refine AW.skip ?_
    refine thenN ?_
    refine AW.seq ?_
    refine AW.reg ?_
    refine Lp (V_move rfl rfl) rfl rfl ?_
    obtain ⟨x26_15a, x26_15b, x26_15c, x26_15d, x26_15e, x26_15f, x26_15g, x26_15h, x26_15i, x26_15j, x26_15k, x26_15l, x26_15m, hc, h⟩ := h
    refine Ls rfl rfl (X_lda rfl Tryz.underlying57 rfl ty57 rfl hc ?_)
    refine Ls rfl rfl (X_call rfl Tryz.func71 rfl rfl rfl (ACalls.mono h ?_))
    rintro v σ ⟨x27_16a, x27_16b, rfl, h⟩
    refine Ls rfl rfl (X_call rfl Tryz.func73 rfl rfl rfl (ACalls.mono h ?_))
    rintro v σ ⟨rfl, h⟩
    refine Lnil ?_
    refine thenN ?_
    refine AW.seq ?_
    refine AW.reg ?_
    refine Lp (V_bld (vs := []) (cs := #[.int .i64 0, .int .i64 0, Sl.v (⟨none, 0, 0⟩ : Sl), .int .i64 0, Sl.v (⟨none, 0, 0⟩ : Sl), .int .i64 0, .int .i64 0, .int .i64 0, .int .i64 0, Sl.v (⟨none, 0, 0⟩ : Sl), Sl.v (⟨none, 0, 0⟩ : Sl), .int .i64 0]) rfl Tryz.underlying30 ty30 pl30 rfl (by kernel_rfl)) rfl rfl ?_
    refine Ls rfl rfl (X_st rfl ty30 rfl rfl rfl rfl (stN_mono h fun σ h => ?_))
    refine Lnil ?_
    refine thenN ?_
    refine AW.ret ?_
    refine blockR ?_
    refine thenR ?_
    obtain ⟨x4_17a, x4_17b, x4_17c, x4_17d, x4_17e, x4_17f, x4_17g, x4_17h, x4_17i, x4_17j, x4_17k, x4_17l, hc0, h⟩ := h
    exact bRM1 Tryz.results22 (rCons (rAgg rfl Tryz.underlying30 rfl ty30 hc0) rNil) ⟨_, _, _, _, _, _, _, _, _, _, _, _, rfl, h⟩
  refine AW.seq ?_
  refine AW.reg ?_
  refine Lp (V_eql rfl rfl rfl) rfl rfl ?_
  refine Lp (V_asg rfl rfl) rfl rfl ?_
  refine Lnil ?_
  refine thenN ?_
  refine AW.iff rfl decide_eq_true_iff h (fun h => ?_) (fun h => ?_)
  · refine AW.seq ?_
    refine AW.reg ?_
    refine Lp (V_move rfl rfl) rfl rfl ?_
    obtain ⟨x33_18a, x33_18b, x33_18c, x33_18d, x33_18e, x33_18f, x33_18g, x33_18h, x33_18i, x33_18j, x33_18k, x33_18l, x33_18m, hc, h⟩ := h
    refine Ls rfl rfl (X_lda rfl Tryz.underlying57 rfl ty57 rfl hc ?_)
    refine Ls rfl rfl (X_call rfl Tryz.func74 rfl rfl rfl (ACalls.mono h ?_))
    rintro v σ ⟨x34_19a, x34_19b, x34_19c, x34_19d, x34_19e, x34_19f, x34_19g, x34_19h, x34_19i, x34_19j, x34_19k, x34_19l, rfl, h⟩
    refine Ls rfl rfl (X_st rfl ty30 rfl rfl rfl rfl (stN_mono h fun σ h => ?_))
    refine Lnil ?_
    refine thenN ?_
    refine AW.ret ?_
    refine blockR ?_
    refine thenR ?_
    obtain ⟨x4_20a, x4_20b, x4_20c, x4_20d, x4_20e, x4_20f, x4_20g, x4_20h, x4_20i, x4_20j, x4_20k, x4_20l, hc0, h⟩ := h
    exact bRM1 Tryz.results22 (rCons (rAgg rfl Tryz.underlying30 rfl ty30 hc0) rNil) ⟨_, _, _, _, _, _, _, _, _, _, _, _, rfl, h⟩
  refine AW.seqJ (fun fr σ => ∃ (x35_22 : Bool), FrLe [(0, .pointer a0), (3, .pointer (some ⟨x3_1, 0, none⟩)), (4, .pointer (some ⟨x4_2, 0, none⟩)), (35, .bool x35_22)] fr ∧ j21_store_Store_Apply B ro a0 x3_1 x4_2 Q x35_22 σ) ?_ ?_
  rotate_left
  · refine AW.seq ?_
    refine AW.reg ?_
    refine Lp (V_eql rfl rfl rfl) rfl rfl ?_
    refine Lp (V_asg rfl rfl) rfl rfl ?_
    refine Lnil ?_
    refine thenN ?_
    refine AW.iff rfl decide_eq_true_iff h (fun h => ?_) (fun h => ?_)
    · refine AW.skip ?_
      refine thenN ?_
      exact ⟨_, (FrLe.cons rfl (FrLe.cons rfl (FrLe.cons rfl (FrLe.cons rfl (FrLe.nil _))))), h⟩
    refine AW.seq ?_
    refine AW.reg ?_
    refine Lp (V_eql rfl rfl rfl) rfl rfl ?_
    refine Lp (V_asg rfl rfl) rfl rfl ?_
    refine Lnil ?_
    refine thenN ?_
    refine AW.iff rfl decide_eq_true_iff h (fun h => ?_) (fun h => ?_)
    · refine AW.skip ?_
      refine thenN ?_
      exact ⟨_, (FrLe.cons rfl (FrLe.cons rfl (FrLe.cons rfl (FrLe.cons rfl (FrLe.nil _))))), h⟩
    refine AW.seq ?_
    refine AW.reg ?_
    refine Lp (V_eql rfl rfl rfl) rfl rfl ?_
    refine Lp (V_asg rfl rfl) rfl rfl ?_
    refine Lnil ?_
    refine thenN ?_
    refine AW.iff rfl decide_eq_true_iff h (fun h => ?_) (fun h => ?_)
    · refine AW.skip ?_
      refine thenN ?_
      exact ⟨_, (FrLe.cons rfl (FrLe.cons rfl (FrLe.cons rfl (FrLe.cons rfl (FrLe.nil _))))), h⟩
    refine AW.seq ?_
    refine AW.reg ?_
    refine Lp (V_eql rfl rfl rfl) rfl rfl ?_
    refine Lp (V_asg rfl rfl) rfl rfl ?_
    refine Lnil ?_
    refine thenN ?_
    refine AW.iff rfl decide_eq_true_iff h (fun h => ?_) (fun h => ?_)
    · refine AW.skip ?_
      refine thenN ?_
      exact ⟨_, (FrLe.cons rfl (FrLe.cons rfl (FrLe.cons rfl (FrLe.cons rfl (FrLe.nil _))))), h⟩
    refine AW.reg ?_
    refine Lp (V_eql rfl rfl rfl) rfl rfl ?_
    refine Lp (V_asg rfl rfl) rfl rfl ?_
    refine Lnil ?_
    refine thenN ?_
    exact ⟨_, (FrLe.cons rfl (FrLe.cons rfl (FrLe.cons rfl (FrLe.cons rfl (FrLe.nil _))))), h⟩
  rintro fr σ ⟨x35_22, hl, h⟩
  refine AW.weaken ?_ hl (HLe.refl _)
  unfold j21_store_Store_Apply at h
  refine AW.iff rfl Iff.rfl h (fun h => ?_) (fun h => ?_)
  rotate_left
  · refine AW.skip ?_
    refine blockN ?_
    refine thenN ?_
    refine AW.seq ?_
    refine AW.reg ?_
    refine Ls rfl rfl (X_call rfl Tryz.func72 rfl rfl rfl (ACalls.mono h ?_))
    rintro v σ ⟨x44_26a, x44_26b, x44_26c, x44_26d, x44_26e, x44_26f, x44_26g, x44_26h, x44_26i, x44_26j, x44_26k, x44_26l, rfl, h⟩
    refine Ls rfl rfl (X_st rfl ty30 rfl rfl rfl rfl (stN_mono h fun σ h => ?_))
    refine Lnil ?_
    refine thenN ?_
    refine AW.ret ?_
    obtain ⟨x4_27a, x4_27b, x4_27c, x4_27d, x4_27e, x4_27f, x4_27g, x4_27h, x4_27i, x4_27j, x4_27k, x4_27l, hc0, h⟩ := h
    exact bRM1 Tryz.results22 (rCons (rAgg rfl Tryz.underlying30 rfl ty30 hc0) rNil) ⟨_, _, _, _, _, _, _, _, _, _, _, _, rfl, h⟩
  refine AW.seq ?_
  refine AW.reg ?_
  refine Lp (V_move rfl rfl) rfl rfl ?_
  obtain ⟨x42_23a, x42_23b, x42_23c, x42_23d, x42_23e, x42_23f, x42_23g, x42_23h, x42_23i, x42_23j, x42_23k, x42_23l, x42_23m, hc, h⟩ := h
  refine Ls rfl rfl (X_lda rfl Tryz.underlying57 rfl ty57 rfl hc ?_)
  refine Ls rfl rfl (X_call rfl Tryz.func75 rfl rfl rfl (ACalls.mono h ?_))
  rintro v σ ⟨x43_24a, x43_24b, x43_24c, x43_24d, x43_24e, x43_24f, x43_24g, x43_24h, x43_24i, x43_24j, x43_24k, x43_24l, rfl, h⟩
  refine Ls rfl rfl (X_st rfl ty30 rfl rfl rfl rfl (stN_mono h fun σ h => ?_))
  refine Lnil ?_
  refine thenN ?_
  refine AW.ret ?_
  refine blockR ?_
  refine thenR ?_
  obtain ⟨x4_25a, x4_25b, x4_25c, x4_25d, x4_25e, x4_25f, x4_25g, x4_25h, x4_25i, x4_25j, x4_25k, x4_25l, hc0, h⟩ := h
  exact bRM1 Tryz.results22 (rCons (rAgg rfl Tryz.underlying30 rfl ty30 hc0) rNil) ⟨_, _, _, _, _, _, _, _, _, _, _, _, rfl, h⟩

def f_store_quorum_Epoch (B : World) (ro : AH) (a0 : Option Addr) (σ : AH) (Q : Int → AH → Prop) : Prop :=
 ∃ p4_1 : Addr, a0 = some p4_1 ∧
 ∃ (x6_2 : Int), acell ro σ p4_1 = some (.int .i64 x6_2) ∧
 Q x6_2 σ

set_option maxRecDepth 100000 in
set_option maxHeartbeats 4000000 in
theorem store_quorum_Epoch_ok {B : World} {ro : AH} {a0 : Option Addr} {σ : AH} {Q : Int → AH → Prop} (h : Sep ro σ → f_store_quorum_Epoch B ro a0 σ Q) : c_store_quorum_Epoch B ro a0 σ Q := by
  refine ACalls.of_sep fun hsep => ?_
  replace h := h hsep
  refine ACalls.of_body (args := [.pointer a0]) Tryz.func62 rfl (by rw [Tryz.ntmps62]; simp) ?_
  rw [Tryz.ntmps62]
  unfold f_store_quorum_Epoch at h
  refine AW.seq ?_
  refine AW.reg ?_
  refine Lp (V_asg rfl rfl) rfl rfl ?_
  refine Lnil ?_
  refine thenN ?_
  refine AW.seq ?_
  refine AW.reg ?_
  refine Lp (V_move rfl rfl) rfl rfl ?_
  obtain ⟨p4_1, hc, h⟩ := h
  refine Lp (V_nil rfl (by rw [← hc]; rfl)) rfl rfl ?_
  refine Lp (V_fld rfl Tryz.underlying149 rfl ty3 (by decide) rfl) rfl rfl ?_
  obtain ⟨x6_2, hc, h⟩ := h
  refine Ls rfl rfl (X_ld rfl Tryz.underlying3 rfl rfl hc ?_)
  refine Lp (V_asg rfl rfl) rfl rfl ?_
  refine Lnil ?_
  refine thenN ?_
  refine AW.ret ?_
  exact bR1 Tryz.results62 rfl ⟨_, rfl, h⟩

def f_store_quorum_Members (B : World) (ro : AH) (a0 : Option Addr) (σ : AH) (Q : Sl → AH → Prop) : Prop :=
 ∃ p4_1 : Addr, a0 = some p4_1 ∧
 ∃ (x6_2 : Sl), acell ro σ (p4_1.add 1) = some (Sl.v x6_2) ∧
 c_slices_Clone_int_int B ro x6_2 σ fun x7_3 σ =>
 Q x7_3 σ

set_option maxRecDepth 100000 in
set_option maxHeartbeats 4000000 in
theorem store_quorum_Members_ok {B : World} {ro : AH} {a0 : Option Addr} {σ : AH} {Q : Sl → AH → Prop} (h : Sep ro σ → f_store_quorum_Members B ro a0 σ Q) : c_store_quorum_Members B ro a0 σ Q := by
  refine ACalls.of_sep fun hsep => ?_
  replace h := h hsep
  refine ACalls.of_body (args := [.pointer a0]) Tryz.func63 rfl (by rw [Tryz.ntmps63]; simp) ?_
  rw [Tryz.ntmps63]
  unfold f_store_quorum_Members at h
  refine AW.seq ?_
  refine AW.reg ?_
  refine Lp (V_asg rfl rfl) rfl rfl ?_
  refine Lnil ?_
  refine thenN ?_
  refine AW.seq ?_
  refine AW.reg ?_
  refine Lp (V_move rfl rfl) rfl rfl ?_
  obtain ⟨p4_1, hc, h⟩ := h
  refine Lp (V_nil rfl (by rw [← hc]; rfl)) rfl rfl ?_
  refine Lp (V_fld rfl Tryz.underlying149 rfl ty55 (by decide) rfl) rfl rfl ?_
  obtain ⟨x6_2, hc, h⟩ := h
  refine Ls rfl rfl (X_ld rfl Tryz.underlying55 rfl rfl hc ?_)
  refine Ls rfl rfl (X_call rfl Tryz.func65 rfl rfl rfl (ACalls.mono h ?_))
  rintro v σ ⟨x7_3, rfl, h⟩
  refine Lp (V_asg rfl rfl) rfl rfl ?_
  refine Lnil ?_
  refine thenN ?_
  refine AW.ret ?_
  exact bR1 Tryz.results63 rfl ⟨_, rfl, h⟩

def j1_store_rightMembers (B : World) (ro : AH) (a0 : Sl) (Q : Bool → AH → Prop) (σ : AH) : Prop :=
 Q ((decide (1 ≤ (a0.len : Int))) && (decide ((a0.len : Int) ≤ 7))) σ

def j6_store_rightMembers (B : World) (ro : AH) (a0 : Sl) (x7_3 : Int) (Q : Bool → AH → Prop) (Y2 : (Int) → AH → Prop) (x30_7 : Bool) (σ : AH) : Prop :=
 if x30_7 = true then
  Q false σ
 else
 Y2 (IntKind.i64.wrap (x7_3 + 1)) σ

def j8_store_rightMembers (B : World) (ro : AH) (a0 : Sl) (x7_3 : Int) (x11_5 : Int) (Q : Bool → AH → Prop) (Y2 : (Int) → AH → Prop) (x29_9 : Bool) (σ : AH) : Prop :=
 j6_store_rightMembers B ro a0 x7_3 Q Y2 x29_9 σ

def l2_store_rightMembers (B : World) (ro : AH) (a0 : Sl) (Q : Bool → AH → Prop) : (Int) → AH → ((Int) → AH → Prop) → Prop := fun x7_3 σ Y2 =>
 if x7_3 < (a0.len : Int) then
  ∃ p10_4 : Addr, a0.a = some p10_4 ∧ (0 : Int) ≤ x7_3 ∧ x7_3 < (a0.len : Int) ∧
  ∃ (x11_5 : Int), acell ro σ (p10_4.add (Int.toNat x7_3 * 1)) = some (.int .i64 x11_5) ∧
  if (x11_5 < 0) ∨ (31 < x11_5) then
   j6_store_rightMembers B ro a0 x7_3 Q Y2 true σ
  else
  if 0 < x7_3 then
   ∃ p26_10 : Addr, a0.a = some p26_10 ∧ (0 : Int) ≤ (IntKind.i64.wrap (x7_3 - 1)) ∧ (IntKind.i64.wrap (x7_3 - 1)) < (a0.len : Int) ∧
   ∃ (x27_11 : Int), acell ro σ (p26_10.add (Int.toNat (IntKind.i64.wrap (x7_3 - 1)) * 1)) = some (.int .i64 x27_11) ∧
   j8_store_rightMembers B ro a0 x7_3 x11_5 Q Y2 (decide (x11_5 ≤ x27_11)) σ
  else
  j8_store_rightMembers B ro a0 x7_3 x11_5 Q Y2 false σ
 else
 j1_store_rightMembers B ro a0 Q σ

def f_store_rightMembers (B : World) (ro : AH) (a0 : Sl) (σ : AH) (Q : Bool → AH → Prop) : Prop :=
 lfpD (l2_store_rightMembers B ro a0 Q ) (0) σ

set_option maxRecDepth 100000 in
set_option maxHeartbeats 4000000 in
theorem store_rightMembers_ok {B : World} {ro : AH} {a0 : Sl} {σ : AH} {Q : Bool → AH → Prop} (h : Sep ro σ → f_store_rightMembers B ro a0 σ Q) : c_store_rightMembers B ro a0 σ Q := by
  refine ACalls.of_sep fun hsep => ?_
  replace h := h hsep
  refine ACalls.of_body (args := [Sl.v a0]) Tryz.func64 rfl (by rw [Tryz.ntmps64]; simp) ?_
  rw [Tryz.ntmps64]
  unfold f_store_rightMembers at h
  refine AW.seq ?_
  refine AW.reg ?_
  refine Lp (V_asg rfl rfl) rfl rfl ?_
  refine Lnil ?_
  refine thenN ?_
  refine AW.seqJ (fun fr σ => FrLe [(0, Sl.v a0)] fr ∧ j1_store_rightMembers B ro a0 Q σ) ?_ ?_
  · rintro fr σ ⟨hl, h⟩
    refine AW.weaken ?_ hl (HLe.refl _)
    unfold j1_store_rightMembers at h
    refine AW.seq ?_
    refine AW.reg ?_
    refine Lp (V_move rfl rfl) rfl rfl ?_
    refine Lp (V_lenL rfl rfl Tryz.underlying55 rfl rfl) rfl rfl ?_
    refine Lp (V_geq rfl rfl rfl) rfl rfl ?_
    refine Lp (V_move rfl rfl) rfl rfl ?_
    refine Lsplit 4 (decide (1 ≤ (a0.len : Int))) [(39, .bool ((decide (1 ≤ (a0.len : Int))) && (decide ((a0.len : Int) ≤ 7))))] ?_ ?_ ?_
    · intro e3 hk3
      refine Lypb (V_move rfl rfl) rfl rfl rfl rfl e3 ?_
      refine Lypb (V_lenL rfl rfl Tryz.underlying55 rfl rfl) rfl rfl rfl rfl e3 ?_
      refine Lypb (V_leq rfl rfl rfl) rfl rfl rfl rfl e3 ?_
      refine Lp (V_pickT rfl (evb e3) rfl) rfl rfl ?_
      exact hk3 _ (FrLe.cons (by rw [e3]; rfl) (FrLe.nil _))
    · intro e3 hk3
      refine Ln rfl rfl rfl rfl (.inl (by rw [e3]; rfl)) ?_
      refine Ln rfl rfl rfl rfl (.inl (by rw [e3]; rfl)) ?_
      refine Ln rfl rfl rfl rfl (.inl (by rw [e3]; rfl)) ?_
      refine Lp (V_pickF rfl (evb e3) rfl) rfl rfl ?_
      exact hk3 _ (FrLe.cons (by rw [e3]; rfl) (FrLe.nil _))
    intro fr hl
    refine Lfr hl ?_
    refine Lp (V_asg rfl rfl) rfl rfl ?_
    refine Lnil ?_
    refine thenN ?_
    refine AW.ret ?_
    exact bR1 Tryz.results64 rfl ⟨_, rfl, h⟩
  refine AW.seq ?_
  refine AW.reg ?_
  refine Lp (V_move rfl rfl) rfl rfl ?_
  refine Lp (V_lenL rfl rfl Tryz.underlying55 rfl rfl) rfl rfl ?_
  refine Lp (V_move rfl rfl) rfl rfl ?_
  refine Lnil ?_
  refine thenN ?_
  refine AW.block ?_
  refine ARound.loop (fr' := [(0, Sl.v a0), (5, Sl.v a0), (6, .int .i64 (a0.len : Int)), (7, .int .i64 0)]) ?_ (FrLe.cons rfl (FrLe.cons rfl (FrLe.cons rfl (FrLe.cons rfl (FrLe.nil _)))))
  refine h (fun x7_3 σ => ARound _ _ _ _ _ _ [(0, Sl.v a0), (5, Sl.v a0), (6, .int .i64 (a0.len : Int)), (7, .int .i64 x7_3)] σ) ?_
  rintro x7_3 σ Y2 hY2 h
  show AW _ _ _ _ _ _ _ _
  unfold l2_store_rightMembers at h
  refine AW.seq ?_
  refine AW.reg ?_
  refine Lp (V_lss rfl rfl rfl) rfl rfl ?_
  refine Lnil ?_
  refine thenN ?_
  refine AW.seq ?_
  refine AW.iff rfl decide_eq_true_iff h (fun h => ?_) (fun h => ?_)
  rotate_left
  · refine AW.exit ?_
    refine thenE ?_
    refine thenE ?_
    refine blockE ?_
    refine thenN ?_
    exact ⟨(FrLe.cons rfl (FrLe.nil _)), h⟩
  refine AW.skip ?_
  refine thenN ?_
  refine AW.seq ?_
  refine AW.block ?_
  refine AW.seq ?_
  refine AW.reg ?_
  refine Lp (V_move rfl rfl) rfl rfl ?_
  obtain ⟨p10_4, ha, h0, h1, h⟩ := h
  refine Lp (V_ixA rfl Tryz.underlying55 ty3 (ixL rfl ha) rfl h0 h1) rfl rfl ?_
  obtain ⟨x11_5, hc, h⟩ := h
  refine Ls rfl rfl (X_ld rfl Tryz.underlying3 rfl rfl hc ?_)
  refine Lp (V_asg rfl rfl) rfl rfl ?_
  refine Lp (V_asg rfl rfl) rfl rfl ?_
  refine Lnil ?_
  refine thenN ?_
  refine AW.seq ?_
  refine AW.reg ?_
  refine Lp (V_move rfl rfl) rfl rfl ?_
  refine Lp (V_lss rfl rfl rfl) rfl rfl ?_
  refine Lp (V_move rfl rfl) rfl rfl ?_
  refine Lsplit 3 (decide (x11_5 < 0)) [(0, Sl.v a0), (3, .int .i64 x7_3), (4, .int .i64 x11_5), (5, Sl.v a0), (6, .int .i64 (a0.len : Int)), (7, .int .i64 x7_3), (17, .bool ((decide (x11_5 < 0)) || (decide (31 < x11_5))))] ?_ ?_ ?_
  · intro e2 hk2
    refine Ln rfl rfl rfl rfl (.inl (by rw [e2]; rfl)) ?_
    refine Ln rfl rfl rfl rfl (.inl (by rw [e2]; rfl)) ?_
    refine Lp (V_pickT rfl (evb e2) rfl) rfl rfl ?_
    exact hk2 _ (FrLe.cons rfl (FrLe.cons rfl (FrLe.cons rfl (FrLe.cons rfl (FrLe.cons rfl (FrLe.cons rfl (FrLe.cons (by rw [e2]; rfl) (FrLe.nil _))))))))
  · intro e2 hk2
    refine Lypb (V_move rfl rfl) rfl rfl rfl rfl e2 ?_
    refine Lypb (V_gtr rfl rfl rfl) rfl rfl rfl rfl e2 ?_
    refine Lp (V_pickF rfl (evb e2) rfl) rfl rfl ?_
    exact hk2 _ (FrLe.cons rfl (FrLe.cons rfl (FrLe.cons rfl (FrLe.cons rfl (FrLe.cons rfl (FrLe.cons rfl (FrLe.cons (by rw [e2]; rfl) (FrLe.nil _))))))))
  intro fr hl
  refine Lfr hl ?_
  refine Lp (V_move rfl rfl) rfl rfl ?_
  refine LsplitJ 12 ((decide (x11_5 < 0)) || (decide (31 < x11_5))) (bor_iff decide_eq_true_iff decide_eq_true_iff) h (fun fr σ => ∃ (x30_7 : Bool), FrLe [(0, Sl.v a0), (5, Sl.v a0), (6, .int .i64 (a0.len : Int)), (7, .int .i64 x7_3), (30, .bool x30_7)] fr ∧ j6_store_rightMembers B ro a0 x7_3 Q Y2 x30_7 σ) ?_ ?_ ?_
  · intro h e6 hk6
    refine Ln rfl rfl rfl rfl (.inl (by rw [e6]; rfl)) ?_
    refine Ln rfl rfl rfl rfl (.inl (by rw [e6]; rfl)) ?_
    refine Ln rfl rfl rfl rfl (.inl (by rw [e6]; rfl)) ?_
    refine Ln rfl rfl rfl rfl (.inr rfl) ?_
    refine Ln rfl rfl rfl rfl (.inr rfl) ?_
    refine Ln rfl rfl rfl rfl (.inr rfl) ?_
    refine Ln rfl rfl rfl rfl (.inr rfl) ?_
    refine Ln rfl rfl rfl rfl (.inr rfl) ?_
    refine Ln rfl rfl rfl rfl (.inr rfl) ?_
    refine Ln rfl rfl rfl rfl (.inr rfl) ?_
    refine Ln rfl rfl rfl rfl (.inl (by rw [e6]; rfl)) ?_
    refine Lp (V_pickT rfl (evb e6) rfl) rfl rfl ?_
    exact hk6 _ _ ⟨_, (FrLe.cons rfl (FrLe.cons rfl (FrLe.cons rfl (FrLe.cons rfl (FrLe.cons rfl (FrLe.nil _)))))), h⟩
  · intro h e6 hk6
    refine Lypb (V_move rfl rfl) rfl rfl rfl rfl e6 ?_
    refine Lypb (V_gtr rfl rfl rfl) rfl rfl rfl rfl e6 ?_
    refine Lypb (V_move rfl rfl) rfl rfl rfl rfl e6 ?_
    refine LsplitJ 8 (decide (0 < x7_3)) decide_eq_true_iff h (fun fr σ => ∃ (x29_9 : Bool), FrLe [(0, Sl.v a0), (5, Sl.v a0), (6, .int .i64 (a0.len : Int)), (7, .int .i64 x7_3), (18, .bool ((decide (x11_5 < 0)) || (decide (31 < x11_5)))), (29, .bool x29_9)] fr ∧ j8_store_rightMembers B ro a0 x7_3 x11_5 Q Y2 x29_9 σ) ?_ ?_ ?_
    · intro h e9 hk9
      refine Lypb (V_move rfl rfl) rfl rfl rfl rfl e9 ?_
      refine Lypb (V_move rfl rfl) rfl rfl rfl rfl e9 ?_
      refine Lypb (V_move rfl rfl) rfl rfl rfl rfl e9 ?_
      refine Lypb (V_sub rfl rfl rfl) rfl rfl rfl rfl e9 ?_
      obtain ⟨p26_10, ha, h0, h1, h⟩ := h
      refine Lypb (V_ixA rfl Tryz.underlying55 ty3 (ixL rfl ha) rfl h0 h1) rfl rfl rfl rfl e9 ?_
      obtain ⟨x27_11, hc, h⟩ := h
      refine Lyb rfl rfl rfl rfl e9 (X_ld rfl Tryz.underlying3 rfl rfl hc ?_)
      refine Lypb (V_leq rfl rfl rfl) rfl rfl rfl rfl e9 ?_
      refine Lypb (V_pickT rfl (evb e9) rfl) rfl rfl rfl rfl e6 ?_
      exact hk9 _ _ ⟨_, (FrLe.cons rfl (FrLe.cons rfl (FrLe.cons rfl (FrLe.cons rfl (FrLe.cons rfl (FrLe.cons rfl (FrLe.nil _))))))), h⟩
    · intro h e9 hk9
      refine Ln rfl rfl rfl rfl (.inl (by rw [e9]; rfl)) ?_
      refine Ln rfl rfl rfl rfl (.inl (by rw [e9]; rfl)) ?_
      refine Ln rfl rfl rfl rfl (.inl (by rw [e9]; rfl)) ?_
      refine Ln rfl rfl rfl rfl (.inl (by rw [e9]; rfl)) ?_
      refine Ln rfl rfl rfl rfl (.inl (by rw [e9]; rfl)) ?_
      refine Ln rfl rfl rfl rfl (.inl (by rw [e9]; rfl)) ?_
      refine Ln rfl rfl rfl rfl (.inl (by rw [e9]; rfl)) ?_
      refine Lypb (V_pickF rfl (evb e9) rfl) rfl rfl rfl rfl e6 ?_
      exact hk9 _ _ ⟨_, (FrLe.cons rfl (FrLe.cons rfl (FrLe.cons rfl (FrLe.cons rfl (FrLe.cons rfl (FrLe.cons rfl (FrLe.nil _))))))), h⟩
    rintro fr σ ⟨x29_9, hl, h⟩
    unfold j8_store_rightMembers at h
    refine Lfr hl ?_
    refine Lp (V_pickF rfl (evb e6) rfl) rfl rfl ?_
    exact hk6 _ _ ⟨_, (FrLe.cons rfl (FrLe.cons rfl (FrLe.cons rfl (FrLe.cons rfl (FrLe.cons rfl (FrLe.nil _)))))), h⟩
  rintro fr σ ⟨x30_7, hl, h⟩
  unfold j6_store_rightMembers at h
  refine Lfr hl ?_
  refine Lnil ?_
  refine thenN ?_
  refine AW.iff rfl Iff.rfl h (fun h => ?_) (fun h => ?_)
  · refine AW.seq ?_
    refine AW.reg ?_
    refine Lp (V_asg rfl rfl) rfl rfl ?_
    refine Lnil ?_
    refine thenN ?_
    refine AW.ret ?_
    refine blockR ?_
    refine thenR ?_
    refine thenR ?_
    refine blockR ?_
    refine thenR ?_
    exact bR1 Tryz.results64 rfl ⟨_, rfl, h⟩
  refine AW.skip ?_
  refine blockN ?_
  refine thenN ?_
  refine AW.reg ?_
  refine Lp (V_add rfl rfl rfl) rfl rfl ?_
  refine Lp (V_move rfl rfl) rfl rfl ?_
  refine Lnil ?_
  refine thenN ?_
  refine ARound.head (fr' := [(0, Sl.v a0), (5, Sl.v a0), (6, .int .i64 (a0.len : Int)), (7, .int .i64 (IntKind.i64.wrap (x7_3 + 1)))]) ?_ (FrLe.cons rfl (FrLe.cons rfl (FrLe.cons rfl (FrLe.cons rfl (FrLe.nil _)))))
  exact hY2 _ _ h

def j22_store_Store_open (B : World) (ro : AH) (x4_2 : Nat) (x43_17 : Int) (Q : Int → Int → Sl → Int → Sl → Int → Int → Int → Int → Sl → Sl → Int → AH → Prop) (σ : AH) : Prop :=
 stN ⟨x4_2, 0, none⟩ (fun σ =>
  ∃ (x4_23a : Int) (x4_23b : Int) (x4_23c : Sl) (x4_23d : Int) (x4_23e : Sl) (x4_23f : Int) (x4_23g : Int) (x4_23h : Int) (x4_23i : Int) (x4_23j : Sl) (x4_23k : Sl) (x4_23l : Int), cellsAt ro σ ⟨x4_2, 0, none⟩ 0 [.int .i64 x4_23a, .int .i64 x4_23b, Sl.v x4_23c, .int .i64 x4_23d, Sl.v x4_23e, .int .i64 x4_23f, .int .i64 x4_23g, .int .i64 x4_23h, .int .i64 x4_23i, Sl.v x4_23j, Sl.v x4_23k, .int .i64 x4_23l] ∧
  Q x4_23a x4_23b x4_23c x4_23d x4_23e x4_23f x4_23g x4_23h x4_23i x4_23j x4_23k x4_23l σ) [.int .i64 0, .int .i64 x43_17, Sl.v (⟨none, 0, 0⟩ : Sl), .int .i64 0, Sl.v (⟨none, 0, 0⟩ : Sl), .int .i64 0, .int .i64 0, .int .i64 0, .int .i64 0, Sl.v (⟨none, 0, 0⟩ : Sl), Sl.v (⟨none, 0, 0⟩ : Sl), .int .i64 0] 0 σ

def f_store_Store_open (B : World) (ro : AH) (a0 : Option Addr) (a1_0 : Int) (a1_1 : ByteArray) (a1_2 : Int) (a1_3 : Int) (a1_4 : Int) (a1_5 : Int) (a1_6 : Int) (a1_7 : Int) (a1_8 : Sl) (a1_9 : ByteArray) (a1_10 : Bool) (a1_11 : Int) (a1_12 : Sl) (σ : AH) (Q : Int → Int → Sl → Int → Sl → Int → Int → Int → Int → Sl → Sl → Int → AH → Prop) : Prop :=
 nw ro σ (.cells #[.int .i64 a1_0, .string a1_1, .int .i64 a1_2, .int .i64 a1_3, .int .i64 a1_4, .int .i64 a1_5, .int .i64 a1_6, .int .i64 a1_7, Sl.v a1_8, .string a1_9, .bool a1_10, .int .i64 a1_11, Sl.v a1_12] 57) fun x3_1 σ =>
 nw ro σ (.cells #[.int .i64 0, .int .i64 0, Sl.v (⟨none, 0, 0⟩ : Sl), .int .i64 0, Sl.v (⟨none, 0, 0⟩ : Sl), .int .i64 0, .int .i64 0, .int .i64 0, .int .i64 0, Sl.v (⟨none, 0, 0⟩ : Sl), Sl.v (⟨none, 0, 0⟩ : Sl), .int .i64 0] 30) fun x4_2 σ =>
 ∃ (x13_3 : ByteArray), acell ro σ ((⟨x3_1, 0, none⟩ : Addr).add 1) = some (.string x13_3) ∧
 (⟨#[47]⟩ : ByteArray).size + x13_3.size ≤ 9223372036854775807 ∧
 ∃ p17_4 : Addr, a0 = some p17_4 ∧
 ∃ (x19_5 : Option Addr), acell ro σ (p17_4.add 2) = some (.pointer x19_5) ∧
 c_ztree_Tree_Get B ro x19_5 ((⟨#[47]⟩ : ByteArray) ++ x13_3) σ fun x21_6 x21_7a x21_7b x21_7c x21_7d x21_8 σ =>
 nw ro σ (.cells #[.int .i64 0, .int .i64 0, .int .i64 0, .int .i64 0] 26) fun x7_9 σ =>
 stN ⟨x7_9, 0, none⟩ (fun σ =>
  ∃ (x26_10 : ByteArray), acell ro σ ((⟨x3_1, 0, none⟩ : Addr).add 1) = some (.string x26_10) ∧
  c_path_Name B ro x26_10 σ fun x27_11 σ =>
  ∃ p34_12 : Addr, a0 = some p34_12 ∧
  ∃ (x36_13 : Option Addr), acell ro σ (p34_12.add 3) = some (.pointer x36_13) ∧
  ∃ (x38_14 : ByteArray), acell ro σ ((⟨x3_1, 0, none⟩ : Addr).add 1) = some (.string x38_14) ∧
  ∃ (x40_15 : Int), acell ro σ ((⟨x3_1, 0, none⟩ : Addr).add 4) = some (.int .i64 x40_15) ∧
  ∃ (x42_16 : Int), acell ro σ ((⟨x3_1, 0, none⟩ : Addr).add 5) = some (.int .i64 x42_16) ∧
  c_session_Table_Open B ro x36_13 x38_14 x40_15 x42_16 σ fun x43_17 x43_18 x43_19 σ =>
  if ¬ (x43_19 = 0) then
   c_store_fault B ro x43_19 σ fun x50_20a x50_20b x50_20c x50_20d x50_20e x50_20f x50_20g x50_20h x50_20i x50_20j x50_20k x50_20l σ =>
   stN ⟨x4_2, 0, none⟩ (fun σ =>
    ∃ (x4_21a : Int) (x4_21b : Int) (x4_21c : Sl) (x4_21d : Int) (x4_21e : Sl) (x4_21f : Int) (x4_21g : Int) (x4_21h : Int) (x4_21i : Int) (x4_21j : Sl) (x4_21k : Sl) (x4_21l : Int), cellsAt ro σ ⟨x4_2, 0, none⟩ 0 [.int .i64 x4_21a, .int .i64 x4_21b, Sl.v x4_21c, .int .i64 x4_21d, Sl.v x4_21e, .int .i64 x4_21f, .int .i64 x4_21g, .int .i64 x4_21h, .int .i64 x4_21i, Sl.v x4_21j, Sl.v x4_21k, .int .i64 x4_21l] ∧
    Q x4_21a x4_21b x4_21c x4_21d x4_21e x4_21f x4_21g x4_21h x4_21i x4_21j x4_21k x4_21l σ) [.int .i64 x50_20a, .int .i64 x50_20b, Sl.v x50_20c, .int .i64 x50_20d, Sl.v x50_20e, .int .i64 x50_20f, .int .i64 x50_20g, .int .i64 x50_20h, .int .i64 x50_20i, Sl.v x50_20j, Sl.v x50_20k, .int .i64 x50_20l] 0 σ
  else
  if (x27_11 = true) ∧ (x21_8 = 70) then
   ∃ p53_24 : Addr, a0 = some p53_24 ∧
   ∃ (x55_25 : Option Addr), acell ro σ (p53_24.add 2) = some (.pointer x55_25) ∧
   c_ztree_Tree_Create B ro x55_25 ((⟨#[47]⟩ : ByteArray) ++ x13_3) (⟨none, 0, 0⟩ : Sl) 0 false σ fun x57_26 x57_27 σ =>
   j22_store_Store_open B ro x4_2 x43_17 Q σ
  else
  j22_store_Store_open B ro x4_2 x43_17 Q σ) [.int .i64 x21_7a, .int .i64 x21_7b, .int .i64 x21_7c, .int .i64 x21_7d] 0 σ

set_option maxRecDepth 100000 in
set_option maxHeartbeats 4000000 in
theorem store_Store_open_ok {B : World} {ro : AH} {a0 : Option Addr} {a1_0 : Int} {a1_1 : ByteArray} {a1_2 : Int} {a1_3 : Int} {a1_4 : Int} {a1_5 : Int} {a1_6 : Int} {a1_7 : Int} {a1_8 : Sl} {a1_9 : ByteArray} {a1_10 : Bool} {a1_11 : Int} {a1_12 : Sl} {σ : AH} {Q : Int → Int → Sl → Int → Sl → Int → Int → Int → Int → Sl → Sl → Int → AH → Prop} (h : Sep ro σ → f_store_Store_open B ro a0 a1_0 a1_1 a1_2 a1_3 a1_4 a1_5 a1_6 a1_7 a1_8 a1_9 a1_10 a1_11 a1_12 σ Q) : c_store_Store_open B ro a0 a1_0 a1_1 a1_2 a1_3 a1_4 a1_5 a1_6 a1_7 a1_8 a1_9 a1_10 a1_11 a1_12 σ Q := by
  refine ACalls.of_sep fun hsep => ?_
  replace h := h hsep
  refine ACalls.of_body (args := [.pointer a0, .agg #[.int .i64 a1_0, .string a1_1, .int .i64 a1_2, .int .i64 a1_3, .int .i64 a1_4, .int .i64 a1_5, .int .i64 a1_6, .int .i64 a1_7, Sl.v a1_8, .string a1_9, .bool a1_10, .int .i64 a1_11, Sl.v a1_12]]) Tryz.func69 rfl (by rw [Tryz.ntmps69]; simp) ?_
  rw [Tryz.ntmps69]
  unfold f_store_Store_open at h
  refine AW.seq ?_
  refine AW.reg ?_
  refine Ls rfl rfl (X_new (A_box rfl rfl) fun x3_1 g1 g2 => ?_)
  replace h := h x3_1 g1 g2
  refine Ls rfl rfl (X_new (A_alloc rfl ty30) fun x4_2 g1 g2 => ?_)
  replace h := h x4_2 g1 g2
  refine Lnil ?_
  refine thenN ?_
  refine AW.seq ?_
  refine AW.reg ?_
  refine Lp (V_fld rfl Tryz.underlying57 rfl ty9 (by decide) rfl) rfl rfl ?_
  obtain ⟨x13_3, hc, h⟩ := h
  refine Ls rfl rfl (X_ld rfl Tryz.underlying9 rfl rfl hc ?_)
  obtain ⟨hc, h⟩ := h
  refine Lp (V_cat rfl rfl rfl hc) rfl rfl ?_
  refine Lp (V_asg rfl rfl) rfl rfl ?_
  refine Lnil ?_
  refine thenN ?_
  refine AW.seq ?_
  refine AW.reg ?_
  refine Lp (V_move rfl rfl) rfl rfl ?_
  obtain ⟨p17_4, hc, h⟩ := h
  refine Lp (V_nil rfl (by rw [← hc]; rfl)) rfl rfl ?_
  refine Lp (V_fld rfl Tryz.underlying153 rfl ty61 (by decide) rfl) rfl rfl ?_
  obtain ⟨x19_5, hc, h⟩ := h
  refine Ls rfl rfl (X_ld rfl Tryz.underlying61 rfl rfl hc ?_)
  refine Lp (V_move rfl rfl) rfl rfl ?_
  refine Ls rfl rfl (X_call rfl Tryz.func25 rfl rfl rfl (ACalls.mono h ?_))
  rintro v σ ⟨x21_6, x21_7a, x21_7b, x21_7c, x21_7d, x21_8, rfl, h⟩
  refine Lp (V_move rfl rfl) rfl rfl ?_
  refine Lp (V_ext rfl rfl rfl) rfl rfl ?_
  refine Lp (V_ext rfl rfl rfl) rfl rfl ?_
  refine Lp (V_ext rfl rfl rfl) rfl rfl ?_
  refine Ls rfl rfl (X_new (A_alloc rfl ty26) fun x7_9 g1 g2 => ?_)
  replace h := h x7_9 g1 g2
  refine Lp (V_asg rfl rfl) rfl rfl ?_
  refine Ls rfl rfl (X_st rfl ty26 rfl rfl rfl rfl (stN_mono h fun σ h => ?_))
  refine Lp (V_asg rfl rfl) rfl rfl ?_
  refine Lnil ?_
  refine thenN ?_
  refine AW.seq ?_
  refine AW.reg ?_
  refine Lp (V_fld rfl Tryz.underlying57 rfl ty9 (by decide) rfl) rfl rfl ?_
  obtain ⟨x26_10, hc, h⟩ := h
  refine Ls rfl rfl (X_ld rfl Tryz.underlying9 rfl rfl hc ?_)
  refine Ls rfl rfl (X_call rfl Tryz.func99 rfl rfl rfl (ACalls.mono h ?_))
  rintro v σ ⟨x27_11, rfl, h⟩
  refine Lp (V_move rfl rfl) rfl rfl ?_
  refine Lsplit 3 x27_11 [(0, .pointer a0), (3, .pointer (some ⟨x3_1, 0, none⟩)), (4, .pointer (some ⟨x4_2, 0, none⟩)), (5, .string ((⟨#[47]⟩ : ByteArray) ++ x13_3)), (31, .bool (x27_11 && (decide (x21_8 = 70))))] ?_ ?_ ?_
  · intro e3 hk3
    refine Lypb (V_move rfl rfl) rfl rfl rfl rfl e3 ?_
    refine Lypb (V_eql rfl rfl rfl) rfl rfl rfl rfl e3 ?_
    refine Lp (V_pickT rfl (evb e3) rfl) rfl rfl ?_
    exact hk3 _ (FrLe.cons rfl (FrLe.cons rfl (FrLe.cons rfl (FrLe.cons rfl (FrLe.cons (by rw [e3]; rfl) (FrLe.nil _))))))
  · intro e3 hk3
    refine Ln rfl rfl rfl rfl (.inl (by rw [e3]; rfl)) ?_
    refine Ln rfl rfl rfl rfl (.inl (by rw [e3]; rfl)) ?_
    refine Lp (V_pickF rfl (evb e3) rfl) rfl rfl ?_
    exact hk3 _ (FrLe.cons rfl (FrLe.cons rfl (FrLe.cons rfl (FrLe.cons rfl (FrLe.cons (by rw [e3]; rfl) (FrLe.nil _))))))
  intro fr hl
  refine Lfr hl ?_
  refine Lp (V_asg rfl rfl) rfl rfl ?_
  refine Lnil ?_
  refine thenN ?_
  refine AW.seq ?_
  refine AW.drawn0 (fun i => ([0, 0, 0, 3, 0, 3, 0, 3, 0, 3, 2, 0, 0, 0, 0, 0, 0, 0] : List Nat).getD i 2) [] [0, 1, 2, 4, 6, 8, 3, 5, 7, 9, 10, 11, 12, 13, 14, 15, 16, 17] Tryz.mixed (by decide +kernel) ?_
  refine Dp rfl rfl rfl rfl (V_move rfl rfl) ?_
  obtain ⟨p34_12, hc, h⟩ := h
  refine Dp rfl rfl rfl rfl (V_nil rfl (by rw [← hc]; rfl)) ?_
  refine Dp rfl rfl rfl rfl (V_fld rfl Tryz.underlying153 rfl ty150 (by decide) rfl) ?_
  refine Dp rfl rfl rfl rfl (V_fld rfl Tryz.underlying57 rfl ty9 (by decide) rfl) ?_
  refine Dp rfl rfl rfl rfl (V_fld rfl Tryz.underlying57 rfl ty3 (by decide) rfl) ?_
  refine Dp rfl rfl rfl rfl (V_fld rfl Tryz.underlying57 rfl ty3 (by decide) rfl) ?_
  obtain ⟨x36_13, hc, h⟩ := h
  refine Dr rfl rfl rfl rfl (R_ld rfl Tryz.underlying150 rfl rfl hc) ?_
  obtain ⟨x38_14, hc, h⟩ := h
  refine Dr rfl rfl rfl rfl (R_ld rfl Tryz.underlying9 rfl rfl hc) ?_
  obtain ⟨x40_15, hc, h⟩ := h
  refine Dr rfl rfl rfl rfl (R_ld rfl Tryz.underlying3 rfl rfl hc) ?_
  obtain ⟨x42_16, hc, h⟩ := h
  refine Dr rfl rfl rfl rfl (R_ld rfl Tryz.underlying3 rfl rfl hc) ?_
  refine Dg rfl rfl rfl rfl (X_call rfl Tryz.func121 rfl rfl rfl (ACalls.mono h ?_))
  rintro v σ ⟨x43_17, x43_18, x43_19, rfl, h⟩
  refine Dp rfl rfl rfl rfl (V_move rfl rfl) ?_
  refine Dp rfl rfl rfl rfl (V_ext rfl rfl rfl) ?_
  refine Dp rfl rfl rfl rfl (V_ext rfl rfl rfl) ?_
  refine Dp rfl rfl rfl rfl (V_ext rfl rfl rfl) ?_
  refine Dp rfl rfl rfl rfl (V_asg rfl rfl) ?_
  refine Dp rfl rfl rfl rfl (V_asg rfl rfl) ?_
  refine Dp rfl rfl rfl rfl (V_asg rfl rfl) ?_
  refine Dend ?_
  refine thenN ?_
  refine AW.seq ?_
  refine AW.seq ?_
  refine AW.reg ?_
  refine Lp (V_move rfl rfl) rfl rfl ?_
  refine Lp (V_neq rfl rfl rfl) rfl rfl ?_
  refine Lnil ?_
  refine thenN ?_
  refine AW.iff rfl (bnot_iff decide_eq_true_iff) h (fun h => ?_) (fun h => ?_)
  · refine AW.seq ?_
    refine AW.reg ?_
    refine Lp (V_move rfl rfl) rfl rfl ?_
    refine Ls rfl rfl (X_call rfl Tryz.func72 rfl rfl rfl (ACalls.mono h ?_))
    rintro v σ ⟨x50_20a, x50_20b, x50_20c, x50_20d, x50_20e, x50_20f, x50_20g, x50_20h, x50_20i, x50_20j, x50_20k, x50_20l, rfl, h⟩
    refine Ls rfl rfl (X_st rfl ty30 rfl rfl rfl rfl (stN_mono h fun σ h => ?_))
    refine Lnil ?_
    refine thenN ?_
    refine AW.ret ?_
    refine thenR ?_
    obtain ⟨x4_21a, x4_21b, x4_21c, x4_21d, x4_21e, x4_21f, x4_21g, x4_21h, x4_21i, x4_21j, x4_21k, x4_21l, hc0, h⟩ := h
    exact bRM1 Tryz.results69 (rCons (rAgg rfl Tryz.underlying30 rfl ty30 hc0) rNil) ⟨_, _, _, _, _, _, _, _, _, _, _, _, rfl, h⟩
  refine AW.skip ?_
  refine thenN ?_
  refine AW.seqJ (fun fr σ => FrLe [(4, .pointer (some ⟨x4_2, 0, none⟩)), (10, .int .i64 x43_17)] fr ∧ j22_store_Store_open B ro x4_2 x43_17 Q σ) ?_ ?_
  rotate_left
  · refine AW.seq ?_
    refine AW.reg ?_
    refine Lp (V_move rfl rfl) rfl rfl ?_
    refine Lnil ?_
    refine thenN ?_
    refine AW.iff rfl (band_iff Iff.rfl decide_eq_true_iff) h (fun h => ?_) (fun h => ?_)
    rotate_left
    · refine AW.skip ?_
      refine thenN ?_
      exact ⟨(FrLe.cons rfl (FrLe.cons rfl (FrLe.nil _))), h⟩
    refine AW.reg ?_
    refine Lp (V_move rfl rfl) rfl rfl ?_
    obtain ⟨p53_24, hc, h⟩ := h
    refine Lp (V_nil rfl (by rw [← hc]; rfl)) rfl rfl ?_
    refine Lp (V_fld rfl Tryz.underlying153 rfl ty61 (by decide) rfl) rfl rfl ?_
    obtain ⟨x55_25, hc, h⟩ := h
    refine Ls rfl rfl (X_ld rfl Tryz.underlying61 rfl rfl hc ?_)
    refine Lp (V_move rfl rfl) rfl rfl ?_
    refine Ls rfl rfl (X_call rfl Tryz.func122 rfl rfl rfl (ACalls.mono h ?_))
    rintro v σ ⟨x57_26, x57_27, rfl, h⟩
    refine Lnil ?_
    refine thenN ?_
    exact ⟨(FrLe.cons rfl (FrLe.cons rfl (FrLe.nil _))), h⟩
  rintro fr σ ⟨hl, h⟩
  refine AW.weaken ?_ hl (HLe.refl _)
  unfold j22_store_Store_open at h
  refine AW.seq ?_
  refine AW.reg ?_
  refine Lp (V_move rfl rfl) rfl rfl ?_
  refine Lp (V_bld (vs := [(1, .int .i64 x43_17)]) (cs := #[.int .i64 0, .int .i64 x43_17, Sl.v (⟨none, 0, 0⟩ : Sl), .int .i64 0, Sl.v (⟨none, 0, 0⟩ : Sl), .int .i64 0, .int .i64 0, .int .i64 0, .int .i64 0, Sl.v (⟨none, 0, 0⟩ : Sl), Sl.v (⟨none, 0, 0⟩ : Sl), .int .i64 0]) rfl Tryz.underlying30 ty30 pl30 rfl (by kernel_rfl)) rfl rfl ?_
  refine Ls rfl rfl (X_st rfl ty30 rfl rfl rfl rfl (stN_mono h fun σ h => ?_))
  refine Lnil ?_
  refine thenN ?_
  refine AW.ret ?_
  obtain ⟨x4_23a, x4_23b, x4_23c, x4_23d, x4_23e, x4_23f, x4_23g, x4_23h, x4_23i, x4_23j, x4_23k, x4_23l, hc0, h⟩ := h
  exact bRM1 Tryz.results69 (rCons (rAgg rfl Tryz.underlying30 rfl ty30 hc0) rNil) ⟨_, _, _, _, _, _, _, _, _, _, _, _, rfl, h⟩

end Go.Proofs.YtomdigihapdhnaaGreatDoor.G

/- Functions as predicate transformers, and the proofs that the code does what they tell: printed by wip/tools/gen.py. -/
namespace Go.Proofs.YtomdigihapdhnaaGreatDoor.G
open Go Go.Proofs.YtomdigihapdhnaaGreatDoor.SL
set_option linter.unusedVariables false
set_option linter.unusedSimpArgs false

def f_session_New (B : World) (ro : AH) (σ : AH) (Q : Option Addr → AH → Prop) : Prop :=
 nw ro σ (.map #[] 0) fun x1_1 σ =>
 nw ro σ (.cells #[.map (some x1_1)] 242) fun x3_2 σ =>
 Q (some ⟨x3_2, 0, none⟩) σ

set_option maxRecDepth 100000 in
set_option maxHeartbeats 4000000 in
theorem session_New_ok {B : World} {ro : AH} {σ : AH} {Q : Option Addr → AH → Prop} (h : Sep ro σ → f_session_New B ro σ Q) : c_session_New B ro σ Q := by
  refine ACalls.of_sep fun hsep => ?_
  replace h := h hsep
  refine ACalls.of_body (args := []) Tryz.func67 rfl (by rw [Tryz.ntmps67]; simp) ?_
  rw [Tryz.ntmps67]
  unfold f_session_New at h
  refine AW.seq ?_
  refine AW.reg ?_
  refine Lp (V_asg rfl rfl) rfl rfl ?_
  refine Lnil ?_
  refine thenN ?_
  refine AW.seq ?_
  refine AW.reg ?_
  refine Ls rfl rfl (X_new (A_map0 rfl) fun x1_1 g1 g2 => ?_)
  replace h := h x1_1 g1 g2
  refine Lp (V_bld (vs := [(0, .map (some x1_1))]) (cs := #[.map (some x1_1)]) rfl Tryz.underlying242 ty242 pl242 rfl rfl) rfl rfl ?_
  refine Ls rfl rfl (X_new (A_box rfl rfl) fun x3_2 g1 g2 => ?_)
  replace h := h x3_2 g1 g2
  refine Lp (V_asg rfl rfl) rfl rfl ?_
  refine Lnil ?_
  refine thenN ?_
  refine AW.ret ?_
  exact bR1 Tryz.results67 rfl ⟨_, rfl, h⟩

def j12_session_Table_Open (B : World) (ro : AH) (a0 : Option Addr) (a1 : ByteArray) (a2 : Int) (a3 : Int) (x11_7 : Option Addr) (Q : Int → Bool → Int → AH → Prop) (x69_13 : Bool) (σ : AH) : Prop :=
 if x69_13 = true then
  Q 0 false 61 σ
 else
 ∃ p71_14 : Addr, x11_7 = some p71_14 ∧
 ∃ (x73_15 : Int), acell ro σ p71_14 = some (.int .i64 x73_15) ∧
 ∃ p75_16 : Addr, x11_7 = some p75_16 ∧
 stN p75_16 (fun σ =>
  ∃ p78_17 : Addr, x11_7 = some p78_17 ∧
  ∃ p82_18 : Addr, x11_7 = some p82_18 ∧
  ∃ p87_19 : Addr, x11_7 = some p87_19 ∧
  ∃ (x80_20 : Option Nat), acell ro σ (p78_17.add 1) = some (.map x80_20) ∧
  ∃ (x84_21 : Int), acell ro σ p82_18 = some (.int .i64 x84_21) ∧
  ∃ (x89_22 : Int), acell ro σ p87_19 = some (.int .i64 x89_22) ∧
  nw ro σ (.cells #[.string a1, .int .i64 x89_22, .int .i64 a2, .int .i64 a3, .int .i64 0, .int .i64 0, Sl.v (⟨none, 0, 0⟩ : Sl)] 83) fun x94_23 σ =>
  awp Tryz.prog ro (Instr.mapUpdate 252 (.map x80_20) (.int .i64 x84_21) (.pointer (some ⟨x94_23, 0, none⟩))) (fun _ σ =>
   ∃ p96_24 : Addr, a0 = some p96_24 ∧
   ∃ (x98_25 : Option Nat), acell ro σ p96_24 = some (.map x98_25) ∧
   awp Tryz.prog ro (Instr.mapUpdate 240 (.map x98_25) (.string a1) (.pointer x11_7)) (fun _ σ =>
    ∃ p102_26 : Addr, x11_7 = some p102_26 ∧
    ∃ (x104_27 : Int), acell ro σ p102_26 = some (.int .i64 x104_27) ∧
    Q x104_27 true 0 σ) σ) σ) [.int .i64 (IntKind.i64.wrap (x73_15 + 1))] 0 σ

def j8_session_Table_Open (B : World) (ro : AH) (a0 : Option Addr) (a1 : ByteArray) (a2 : Int) (a3 : Int) (x11_7 : Option Addr) (Q : Int → Bool → Int → AH → Prop) (σ : AH) : Prop :=
 ∃ p58_9 : Addr, x11_7 = some p58_9 ∧
 ∃ (x60_10 : Option Nat), acell ro σ (p58_9.add 1) = some (.map x60_10) ∧
 awp Tryz.prog ro (Builtin.len_ #[252] 3 #[.map x60_10]) (fun v σ => ∃ (x61_11 : Int), v = .int .i64 x61_11 ∧
  if 64 ≤ x61_11 then
   j12_session_Table_Open B ro a0 a1 a2 a3 x11_7 Q true σ
  else
  ∃ p65_28 : Addr, x11_7 = some p65_28 ∧
  ∃ (x67_29 : Int), acell ro σ p65_28 = some (.int .i64 x67_29) ∧
  j12_session_Table_Open B ro a0 a1 a2 a3 x11_7 Q (decide (x67_29 = 4611686018427387903)) σ) σ

def l33_session_Table_Open (B : World) (ro : AH) (a0 : Option Addr) (a1 : ByteArray) (a2 : Int) (a3 : Int) (p44_32 : Addr) (x11_7 : Option Addr) (Q : Int → Bool → Int → AH → Prop) : (Unit) → AH → ((Unit) → AH → Prop) → Prop := fun _ σ Y33 =>
 awp Tryz.prog ro (Instr.next (.pointer (some p44_32)) false 0) (fun v σ =>
  (v = .tuple #[.bool false] ∧
   j8_session_Table_Open B ro a0 a1 a2 a3 x11_7 Q σ) ∨
  (∃ (x45_34 : Value) (x45_35 : Value), v = .tuple #[.bool true, x45_34, x45_35] ∧
   awp Tryz.prog ro (Instr.entry (.pointer (some p44_32))) (fun v σ =>
    (∃ (x47_36 : Int) (x47_37 : Option Addr), v = .tuple #[.int .i64 x47_36, .pointer x47_37] ∧
     ∃ p51_38 : Addr, x47_37 = some p51_38 ∧
     ∃ (x53_39 : Int), acell ro σ (p51_38.add 2) = some (.int .i64 x53_39) ∧
     if x53_39 = a2 then
      Q x47_36 false 0 σ
     else
     Y33 () σ)) σ)) σ

def j6_session_Table_Open (B : World) (ro : AH) (a0 : Option Addr) (a1 : ByteArray) (a2 : Int) (a3 : Int) (Q : Int → Bool → Int → AH → Prop) (x11_7 : Option Addr) (σ : AH) : Prop :=
 ∃ p41_30 : Addr, x11_7 = some p41_30 ∧
 ∃ (x43_31 : Option Nat), acell ro σ (p41_30.add 1) = some (.map x43_31) ∧
 awp Tryz.prog ro (Instr.range 252 (.map x43_31)) (fun v σ =>
  (∃ (p44_32 : Addr), v = .pointer (some p44_32) ∧
   lfpD (l33_session_Table_Open B ro a0 a1 a2 a3 p44_32 x11_7 Q ) () σ)) σ

def f_session_Table_Open (B : World) (ro : AH) (a0 : Option Addr) (a1 : ByteArray) (a2 : Int) (a3 : Int) (σ : AH) (Q : Int → Bool → Int → AH → Prop) : Prop :=
 c_path_Name B ro a1 σ fun x16_1 σ =>
 if ¬ (x16_1 = true) then
  Q 0 false 82 σ
 else
 c_session_number B ro a2 σ fun x20_2 σ =>
 if ¬ (x20_2 = true) then
  Q 0 false 10 σ
 else
 if (a3 < 1) ∨ (1048576 < a3) then
  Q 0 false 153 σ
 else
 ∃ p30_3 : Addr, a0 = some p30_3 ∧
 ∃ (x32_4 : Option Nat), acell ro σ p30_3 = some (.map x32_4) ∧
 awp Tryz.prog ro (Instr.lookup 240 (.map x32_4) (.string a1) false) (fun v σ =>
  (∃ (x34_5 : Option Addr), v = .pointer x34_5 ∧
   if x34_5 = none then
    nw ro σ (.map #[] 0) fun x37_40 σ =>
    nw ro σ (.cells #[.int .i64 0, .map (some x37_40)] 254) fun x39_41 σ =>
    j6_session_Table_Open B ro a0 a1 a2 a3 Q (some ⟨x39_41, 0, none⟩) σ
   else
   j6_session_Table_Open B ro a0 a1 a2 a3 Q x34_5 σ)) σ

set_option maxRecDepth 100000 in
set_option maxHeartbeats 4000000 in
theorem session_Table_Open_ok {B : World} {ro : AH} {a0 : Option Addr} {a1 : ByteArray} {a2 : Int} {a3 : Int} {σ : AH} {Q : Int → Bool → Int → AH → Prop} (h : Sep ro σ → f_session_Table_Open B ro a0 a1 a2 a3 σ Q) : c_session_Table_Open B ro a0 a1 a2 a3 σ Q := by
  refine ACalls.of_sep fun hsep => ?_
  replace h := h hsep
  refine ACalls.of_body (args := [.pointer a0, .string a1, .int .i64 a2, .int .i64 a3]) Tryz.func121 rfl (by rw [Tryz.ntmps121]; simp) ?_
  rw [Tryz.ntmps121]
  unfold f_session_Table_Open at h
  refine AW.seq ?_
  refine AW.reg ?_
  refine Lp (V_asg rfl rfl) rfl rfl ?_
  refine Lp (V_asg rfl rfl) rfl rfl ?_
  refine Lp (V_asg rfl rfl) rfl rfl ?_
  refine Lnil ?_
  refine thenN ?_
  refine AW.seq ?_
  refine AW.block ?_
  refine AW.seq ?_
  refine AW.reg ?_
  refine Lp (V_move rfl rfl) rfl rfl ?_
  refine Ls rfl rfl (X_call rfl Tryz.func99 rfl rfl rfl (ACalls.mono h ?_))
  rintro v σ ⟨x16_1, rfl, h⟩
  refine Lp (V_not rfl rfl) rfl rfl ?_
  refine Lp (V_asg rfl rfl) rfl rfl ?_
  refine Lnil ?_
  refine thenN ?_
  refine AW.iff rfl (bnot_iff Iff.rfl) h (fun h => ?_) (fun h => ?_)
  · refine AW.seq ?_
    refine AW.reg ?_
    refine Lp (V_asg rfl rfl) rfl rfl ?_
    refine Lp (V_asg rfl rfl) rfl rfl ?_
    refine Lp (V_asg rfl rfl) rfl rfl ?_
    refine Lnil ?_
    refine thenN ?_
    refine AW.ret ?_
    refine blockR ?_
    refine thenR ?_
    exact bR3 Tryz.results121 rfl rfl rfl ⟨_, _, _, rfl, h⟩
  refine AW.seq ?_
  refine AW.reg ?_
  refine Lp (V_move rfl rfl) rfl rfl ?_
  refine Ls rfl rfl (X_call rfl Tryz.func178 rfl rfl rfl (ACalls.mono h ?_))
  rintro v σ ⟨x20_2, rfl, h⟩
  refine Lp (V_not rfl rfl) rfl rfl ?_
  refine Lp (V_asg rfl rfl) rfl rfl ?_
  refine Lnil ?_
  refine thenN ?_
  refine AW.iff rfl (bnot_iff Iff.rfl) h (fun h => ?_) (fun h => ?_)
  · refine AW.seq ?_
    refine AW.reg ?_
    refine Lp (V_asg rfl rfl) rfl rfl ?_
    refine Lp (V_asg rfl rfl) rfl rfl ?_
    refine Lp (V_asg rfl rfl) rfl rfl ?_
    refine Lnil ?_
    refine thenN ?_
    refine AW.ret ?_
    refine blockR ?_
    refine thenR ?_
    exact bR3 Tryz.results121 rfl rfl rfl ⟨_, _, _, rfl, h⟩
  refine AW.seq ?_
  refine AW.reg ?_
  refine Lp (V_move rfl rfl) rfl rfl ?_
  refine Lp (V_lss rfl rfl rfl) rfl rfl ?_
  refine Lp (V_move rfl rfl) rfl rfl ?_
  refine Lsplit 3 (decide (a3 < 1)) [(0, .pointer a0), (1, .string a1), (2, .int .i64 a2), (3, .int .i64 a3), (28, .bool ((decide (a3 < 1)) || (decide (1048576 < a3))))] ?_ ?_ ?_
  · intro e2 hk2
    refine Ln rfl rfl rfl rfl (.inl (by rw [e2]; rfl)) ?_
    refine Ln rfl rfl rfl rfl (.inl (by rw [e2]; rfl)) ?_
    refine Lp (V_pickT rfl (evb e2) rfl) rfl rfl ?_
    exact hk2 _ (FrLe.cons rfl (FrLe.cons rfl (FrLe.cons rfl (FrLe.cons rfl (FrLe.cons (by rw [e2]; rfl) (FrLe.nil _))))))
  · intro e2 hk2
    refine Lypb (V_move rfl rfl) rfl rfl rfl rfl e2 ?_
    refine Lypb (V_gtr rfl rfl rfl) rfl rfl rfl rfl e2 ?_
    refine Lp (V_pickF rfl (evb e2) rfl) rfl rfl ?_
    exact hk2 _ (FrLe.cons rfl (FrLe.cons rfl (FrLe.cons rfl (FrLe.cons rfl (FrLe.cons (by rw [e2]; rfl) (FrLe.nil _))))))
  intro fr hl
  refine Lfr hl ?_
  refine Lp (V_asg rfl rfl) rfl rfl ?_
  refine Lnil ?_
  refine thenN ?_
  refine AW.iff rfl (bor_iff decide_eq_true_iff decide_eq_true_iff) h (fun h => ?_) (fun h => ?_)
  · refine AW.seq ?_
    refine AW.reg ?_
    refine Lp (V_asg rfl rfl) rfl rfl ?_
    refine Lp (V_asg rfl rfl) rfl rfl ?_
    refine Lp (V_asg rfl rfl) rfl rfl ?_
    refine Lnil ?_
    refine thenN ?_
    refine AW.ret ?_
    refine blockR ?_
    refine thenR ?_
    exact bR3 Tryz.results121 rfl rfl rfl ⟨_, _, _, rfl, h⟩
  refine AW.skip ?_
  refine blockN ?_
  refine thenN ?_
  refine AW.seq ?_
  refine AW.reg ?_
  refine Lp (V_move rfl rfl) rfl rfl ?_
  obtain ⟨p30_3, hc, h⟩ := h
  refine Lp (V_nil rfl (by rw [← hc]; rfl)) rfl rfl ?_
  refine Lp (V_fld rfl Tryz.underlying242 rfl ty240 (by decide) rfl) rfl rfl ?_
  obtain ⟨x32_4, hc, h⟩ := h
  refine Ls rfl rfl (X_ld rfl Tryz.underlying240 rfl rfl hc ?_)
  refine Lp (V_move rfl rfl) rfl rfl ?_
  refine Ls rfl rfl (X_lkp rfl rfl rfl (awp_mono _ h ?_))
  rintro v σ ⟨x34_5, rfl, h⟩
  refine Lp (V_asg rfl rfl) rfl rfl ?_
  refine Lnil ?_
  refine thenN ?_
  refine AW.seqJ (fun fr σ => ∃ (x11_7 : Option Addr), FrLe [(0, .pointer a0), (1, .string a1), (2, .int .i64 a2), (3, .int .i64 a3), (11, .pointer x11_7)] fr ∧ j6_session_Table_Open B ro a0 a1 a2 a3 Q x11_7 σ) ?_ ?_
  rotate_left
  · refine AW.seq ?_
    refine AW.reg ?_
    refine Lp (V_move rfl rfl) rfl rfl ?_
    refine Lp (V_eqP rfl Tryz.underlying255 rfl rfl) rfl rfl ?_
    refine Lnil ?_
    refine thenN ?_
    refine AW.iff rfl isNone_iff h (fun h => ?_) (fun h => ?_)
    rotate_left
    · refine AW.skip ?_
      refine thenN ?_
      exact ⟨_, (FrLe.cons rfl (FrLe.cons rfl (FrLe.cons rfl (FrLe.cons rfl (FrLe.cons rfl (FrLe.nil _)))))), h⟩
    refine AW.reg ?_
    refine Ls rfl rfl (X_new (A_map0 rfl) fun x37_40 g1 g2 => ?_)
    replace h := h x37_40 g1 g2
    refine Lp (V_bld (vs := [(1, .map (some x37_40))]) (cs := #[.int .i64 0, .map (some x37_40)]) rfl Tryz.underlying254 ty254 pl254 rfl rfl) rfl rfl ?_
    refine Ls rfl rfl (X_new (A_box rfl rfl) fun x39_41 g1 g2 => ?_)
    replace h := h x39_41 g1 g2
    refine Lp (V_asg rfl rfl) rfl rfl ?_
    refine Lnil ?_
    refine thenN ?_
    exact ⟨_, (FrLe.cons rfl (FrLe.cons rfl (FrLe.cons rfl (FrLe.cons rfl (FrLe.cons rfl (FrLe.nil _)))))), h⟩
  rintro fr σ ⟨x11_7, hl, h⟩
  refine AW.weaken ?_ hl (HLe.refl _)
  unfold j6_session_Table_Open at h
  refine AW.seqJ (fun fr σ => FrLe [(0, .pointer a0), (1, .string a1), (2, .int .i64 a2), (3, .int .i64 a3), (11, .pointer x11_7)] fr ∧ j8_session_Table_Open B ro a0 a1 a2 a3 x11_7 Q σ) ?_ ?_
  rotate_left
  · refine AW.seq ?_
    refine AW.reg ?_
    refine Lp (V_move rfl rfl) rfl rfl ?_
    obtain ⟨p41_30, hc, h⟩ := h
    refine Lp (V_nil rfl (by rw [← hc]; rfl)) rfl rfl ?_
    refine Lp (V_fld rfl Tryz.underlying254 rfl ty252 (by decide) rfl) rfl rfl ?_
    obtain ⟨x43_31, hc, h⟩ := h
    refine Ls rfl rfl (X_ld rfl Tryz.underlying252 rfl rfl hc ?_)
    refine Ls rfl rfl (X_rng rfl rfl (awp_mono _ h ?_))
    rintro v σ ⟨p44_32, rfl, h⟩
    refine Lnil ?_
    refine thenN ?_
    refine AW.block ?_
    refine ARound.loop (fr' := [(0, .pointer a0), (1, .string a1), (2, .int .i64 a2), (3, .int .i64 a3), (11, .pointer x11_7), (44, .pointer (some p44_32))]) ?_ (FrLe.cons rfl (FrLe.cons rfl (FrLe.cons rfl (FrLe.cons rfl (FrLe.cons rfl (FrLe.cons rfl (FrLe.nil _)))))))
    refine h (fun _ σ => ARound _ _ _ _ _ _ [(0, .pointer a0), (1, .string a1), (2, .int .i64 a2), (3, .int .i64 a3), (11, .pointer x11_7), (44, .pointer (some p44_32))] σ) ?_
    rintro _ σ Y33 hY33 h
    show AW _ _ _ _ _ _ _ _
    unfold l33_session_Table_Open at h
    refine AW.seq ?_
    refine AW.reg ?_
    refine Ls rfl rfl (X_nxt rfl rfl rfl (awp_mono _ h ?_))
    rintro v σ (⟨rfl, h⟩ | ⟨x45_34, x45_35, rfl, h⟩)
    · refine Lp (V_ext rfl rfl rfl) rfl rfl ?_
      refine Lnil ?_
      refine thenN ?_
      refine AW.seq ?_
      refine AW.no rfl ?_
      refine AW.exit ?_
      refine thenE ?_
      refine thenE ?_
      refine blockE ?_
      refine thenN ?_
      exact ⟨(FrLe.cons rfl (FrLe.cons rfl (FrLe.cons rfl (FrLe.cons rfl (FrLe.cons rfl (FrLe.nil _)))))), h⟩
    · refine Lp (V_ext rfl rfl rfl) rfl rfl ?_
      refine Lnil ?_
      refine thenN ?_
      refine AW.seq ?_
      refine AW.yes rfl ?_
      refine AW.skip ?_
      refine thenN ?_
      refine AW.block ?_
      refine AW.seq ?_
      refine AW.reg ?_
      refine Ls rfl rfl (X_ent rfl rfl (awp_mono _ h ?_))
      rintro v σ ⟨x47_36, x47_37, rfl, h⟩
      refine Lp (V_ext rfl rfl rfl) rfl rfl ?_
      refine Lp (V_ext rfl rfl rfl) rfl rfl ?_
      refine Lp (V_asg rfl rfl) rfl rfl ?_
      refine Lp (V_asg rfl rfl) rfl rfl ?_
      refine Lnil ?_
      refine thenN ?_
      refine AW.seq ?_
      refine AW.reg ?_
      refine Lp (V_move rfl rfl) rfl rfl ?_
      obtain ⟨p51_38, hc, h⟩ := h
      refine Lp (V_nil rfl (by rw [← hc]; rfl)) rfl rfl ?_
      refine Lp (V_fld rfl Tryz.underlying83 rfl ty3 (by decide) rfl) rfl rfl ?_
      obtain ⟨x53_39, hc, h⟩ := h
      refine Ls rfl rfl (X_ld rfl Tryz.underlying3 rfl rfl hc ?_)
      refine Lp (V_move rfl rfl) rfl rfl ?_
      refine Lp (V_eql rfl rfl rfl) rfl rfl ?_
      refine Lnil ?_
      refine thenN ?_
      refine AW.iff rfl decide_eq_true_iff h (fun h => ?_) (fun h => ?_)
      rotate_left
      · refine AW.skip ?_
        refine blockN ?_
        refine thenN ?_
        refine ARound.head (fr' := [(0, .pointer a0), (1, .string a1), (2, .int .i64 a2), (3, .int .i64 a3), (11, .pointer x11_7), (44, .pointer (some p44_32))]) ?_ (FrLe.cons rfl (FrLe.cons rfl (FrLe.cons rfl (FrLe.cons rfl (FrLe.cons rfl (FrLe.cons rfl (FrLe.nil _)))))))
        exact hY33 _ _ h
      refine AW.seq ?_
      refine AW.reg ?_
      refine Lp (V_move rfl rfl) rfl rfl ?_
      refine Lp (V_asg rfl rfl) rfl rfl ?_
      refine Lp (V_asg rfl rfl) rfl rfl ?_
      refine Lp (V_asg rfl rfl) rfl rfl ?_
      refine Lnil ?_
      refine thenN ?_
      refine AW.ret ?_
      refine blockR ?_
      refine thenR ?_
      refine blockR ?_
      refine thenR ?_
      exact bR3 Tryz.results121 rfl rfl rfl ⟨_, _, _, rfl, h⟩
  rintro fr σ ⟨hl, h⟩
  refine AW.weaken ?_ hl (HLe.refl _)
  unfold j8_session_Table_Open at h
  refine AW.seq ?_
  refine AW.seq ?_
  refine AW.reg ?_
  refine Lp (V_move rfl rfl) rfl rfl ?_
  obtain ⟨p58_9, hc, h⟩ := h
  refine Lp (V_nil rfl (by rw [← hc]; rfl)) rfl rfl ?_
  refine Lp (V_fld rfl Tryz.underlying254 rfl ty252 (by decide) rfl) rfl rfl ?_
  obtain ⟨x60_10, hc, h⟩ := h
  refine Ls rfl rfl (X_ld rfl Tryz.underlying252 rfl rfl hc ?_)
  refine Ls rfl rfl (X_bi (s := Builtin.len_ #[252] 3 #[.map x60_10]) rfl rfl (fun _ => rfl) (awp_mono _ h ?_))
  rintro v σ ⟨x61_11, rfl, h⟩
  refine Lp (V_geq rfl rfl rfl) rfl rfl ?_
  refine Lp (V_move rfl rfl) rfl rfl ?_
  refine LsplitJ 6 (decide (64 ≤ x61_11)) decide_eq_true_iff h (fun fr σ => ∃ (x69_13 : Bool), FrLe [(0, .pointer a0), (1, .string a1), (2, .int .i64 a2), (3, .int .i64 a3), (11, .pointer x11_7), (69, .bool x69_13)] fr ∧ j12_session_Table_Open B ro a0 a1 a2 a3 x11_7 Q x69_13 σ) ?_ ?_ ?_
  · intro h e6 hk6
    refine Ln rfl rfl rfl rfl (.inl (by rw [e6]; rfl)) ?_
    refine Ln rfl rfl rfl rfl (.inl (by rw [e6]; rfl)) ?_
    refine Ln rfl rfl rfl rfl (.inl (by rw [e6]; rfl)) ?_
    refine Ln rfl rfl rfl rfl (.inl (by rw [e6]; rfl)) ?_
    refine Ln rfl rfl rfl rfl (.inl (by rw [e6]; rfl)) ?_
    refine Lp (V_pickT rfl (evb e6) rfl) rfl rfl ?_
    exact hk6 _ _ ⟨_, (FrLe.cons rfl (FrLe.cons rfl (FrLe.cons rfl (FrLe.cons rfl (FrLe.cons rfl (FrLe.cons rfl (FrLe.nil _))))))), h⟩
  · intro h e6 hk6
    refine Lypb (V_move rfl rfl) rfl rfl rfl rfl e6 ?_
    obtain ⟨p65_28, hc, h⟩ := h
    refine Lypb (V_nil rfl (by rw [← hc]; rfl)) rfl rfl rfl rfl e6 ?_
    refine Lypb (V_fld rfl Tryz.underlying254 rfl ty3 (by decide) rfl) rfl rfl rfl rfl e6 ?_
    obtain ⟨x67_29, hc, h⟩ := h
    refine Lyb rfl rfl rfl rfl e6 (X_ld rfl Tryz.underlying3 rfl rfl hc ?_)
    refine Lypb (V_eql rfl rfl rfl) rfl rfl rfl rfl e6 ?_
    refine Lp (V_pickF rfl (evb e6) rfl) rfl rfl ?_
    exact hk6 _ _ ⟨_, (FrLe.cons rfl (FrLe.cons rfl (FrLe.cons rfl (FrLe.cons rfl (FrLe.cons rfl (FrLe.cons rfl (FrLe.nil _))))))), h⟩
  rintro fr σ ⟨x69_13, hl, h⟩
  unfold j12_session_Table_Open at h
  refine Lfr hl ?_
  refine Lnil ?_
  refine thenN ?_
  refine AW.iff rfl Iff.rfl h (fun h => ?_) (fun h => ?_)
  · refine AW.seq ?_
    refine AW.reg ?_
    refine Lp (V_asg rfl rfl) rfl rfl ?_
    refine Lp (V_asg rfl rfl) rfl rfl ?_
    refine Lp (V_asg rfl rfl) rfl rfl ?_
    refine Lnil ?_
    refine thenN ?_
    refine AW.ret ?_
    refine thenR ?_
    exact bR3 Tryz.results121 rfl rfl rfl ⟨_, _, _, rfl, h⟩
  refine AW.skip ?_
  refine thenN ?_
  refine AW.seq ?_
  refine AW.reg ?_
  refine Lp (V_move rfl rfl) rfl rfl ?_
  obtain ⟨p71_14, hc, h⟩ := h
  refine Lp (V_nil rfl (by rw [← hc]; rfl)) rfl rfl ?_
  refine Lp (V_fld rfl Tryz.underlying254 rfl ty3 (by decide) rfl) rfl rfl ?_
  obtain ⟨x73_15, hc, h⟩ := h
  refine Ls rfl rfl (X_ld rfl Tryz.underlying3 rfl rfl hc ?_)
  refine Lp (V_add rfl rfl rfl) rfl rfl ?_
  obtain ⟨p75_16, hc, h⟩ := h
  refine Lp (V_nil rfl (by rw [← hc]; rfl)) rfl rfl ?_
  refine Lp (V_fld rfl Tryz.underlying254 rfl ty3 (by decide) rfl) rfl rfl ?_
  refine Ls rfl rfl (X_st rfl ty3 rfl rfl rfl rfl (stN_mono h fun σ h => ?_))
  refine Lnil ?_
  refine thenN ?_
  refine AW.seq ?_
  refine AW.drawn0 (fun i => ([0, 0, 0, 3, 0, 0, 0, 3, 0, 0, 0, 0, 3, 0, 0, 0, 0, 1, 2] : List Nat).getD i 2) [] [0, 1, 2, 4, 5, 6, 8, 9, 10, 11, 14, 15, 3, 7, 12, 13, 16, 17, 18] Tryz.mixed (by decide +kernel) ?_
  refine Dp rfl rfl rfl rfl (V_move rfl rfl) ?_
  obtain ⟨p78_17, hc, h⟩ := h
  refine Dp rfl rfl rfl rfl (V_nil rfl (by rw [← hc]; rfl)) ?_
  refine Dp rfl rfl rfl rfl (V_fld rfl Tryz.underlying254 rfl ty252 (by decide) rfl) ?_
  refine Dp rfl rfl rfl rfl (V_move rfl rfl) ?_
  obtain ⟨p82_18, hc, h⟩ := h
  refine Dp rfl rfl rfl rfl (V_nil rfl (by rw [← hc]; rfl)) ?_
  refine Dp rfl rfl rfl rfl (V_fld rfl Tryz.underlying254 rfl ty3 (by decide) rfl) ?_
  refine Dp rfl rfl rfl rfl (V_move rfl rfl) ?_
  refine Dp rfl rfl rfl rfl (V_move rfl rfl) ?_
  obtain ⟨p87_19, hc, h⟩ := h
  refine Dp rfl rfl rfl rfl (V_nil rfl (by rw [← hc]; rfl)) ?_
  refine Dp rfl rfl rfl rfl (V_fld rfl Tryz.underlying254 rfl ty3 (by decide) rfl) ?_
  refine Dp rfl rfl rfl rfl (V_move rfl rfl) ?_
  refine Dp rfl rfl rfl rfl (V_move rfl rfl) ?_
  obtain ⟨x80_20, hc, h⟩ := h
  refine Dr rfl rfl rfl rfl (R_ld rfl Tryz.underlying252 rfl rfl hc) ?_
  obtain ⟨x84_21, hc, h⟩ := h
  refine Dr rfl rfl rfl rfl (R_ld rfl Tryz.underlying3 rfl rfl hc) ?_
  obtain ⟨x89_22, hc, h⟩ := h
  refine Dr rfl rfl rfl rfl (R_ld rfl Tryz.underlying3 rfl rfl hc) ?_
  refine Dp rfl rfl rfl rfl (V_bld (vs := [(0, .string a1), (1, .int .i64 x89_22)]) (cs := #[.string a1, .int .i64 x89_22]) rfl Tryz.underlying81 ty81 pl81 rfl rfl) ?_
  refine Dp rfl rfl rfl rfl (V_bld (vs := [(0, .agg #[.string a1, .int .i64 x89_22]), (1, .int .i64 a2), (2, .int .i64 a3)]) (cs := #[.string a1, .int .i64 x89_22, .int .i64 a2, .int .i64 a3, .int .i64 0, .int .i64 0, Sl.v (⟨none, 0, 0⟩ : Sl)]) rfl Tryz.underlying83 ty83 pl83 rfl (by kernel_rfl)) ?_
  refine Da rfl rfl rfl rfl (A_box rfl rfl) fun x94_23 g1 g2 => ?_
  replace h := h x94_23 g1 g2
  refine Dg rfl rfl rfl rfl (X_mup (.inl rfl) rfl rfl rfl (awp_mono _ h ?_))
  rintro _ σ h
  refine Dend ?_
  refine thenN ?_
  refine AW.seq ?_
  refine AW.reg ?_
  refine Lp (V_move rfl rfl) rfl rfl ?_
  obtain ⟨p96_24, hc, h⟩ := h
  refine Lp (V_nil rfl (by rw [← hc]; rfl)) rfl rfl ?_
  refine Lp (V_fld rfl Tryz.underlying242 rfl ty240 (by decide) rfl) rfl rfl ?_
  obtain ⟨x98_25, hc, h⟩ := h
  refine Ls rfl rfl (X_ld rfl Tryz.underlying240 rfl rfl hc ?_)
  refine Lp (V_move rfl rfl) rfl rfl ?_
  refine Lp (V_move rfl rfl) rfl rfl ?_
  refine Ls rfl rfl (X_mup (.inl rfl) rfl rfl rfl (awp_mono _ h ?_))
  rintro _ σ h
  refine Lnil ?_
  refine thenN ?_
  refine AW.seq ?_
  refine AW.reg ?_
  refine Lp (V_move rfl rfl) rfl rfl ?_
  obtain ⟨p102_26, hc, h⟩ := h
  refine Lp (V_nil rfl (by rw [← hc]; rfl)) rfl rfl ?_
  refine Lp (V_fld rfl Tryz.underlying254 rfl ty3 (by decide) rfl) rfl rfl ?_
  obtain ⟨x104_27, hc, h⟩ := h
  refine Ls rfl rfl (X_ld rfl Tryz.underlying3 rfl rfl hc ?_)
  refine Lp (V_asg rfl rfl) rfl rfl ?_
  refine Lp (V_asg rfl rfl) rfl rfl ?_
  refine Lp (V_asg rfl rfl) rfl rfl ?_
  refine Lnil ?_
  refine thenN ?_
  refine AW.ret ?_
  exact bR3 Tryz.results121 rfl rfl rfl ⟨_, _, _, rfl, h⟩

def f_session_number (B : World) (ro : AH) (a0 : Int) (σ : AH) (Q : Bool → AH → Prop) : Prop :=
 Q ((decide (1 ≤ a0)) && (decide (a0 ≤ 4611686018427387903))) σ

set_option maxRecDepth 100000 in
set_option maxHeartbeats 4000000 in
theorem session_number_ok {B : World} {ro : AH} {a0 : Int} {σ : AH} {Q : Bool → AH → Prop} (h : Sep ro σ → f_session_number B ro a0 σ Q) : c_session_number B ro a0 σ Q := by
  refine ACalls.of_sep fun hsep => ?_
  replace h := h hsep
  refine ACalls.of_body (args := [.int .i64 a0]) Tryz.func178 rfl (by rw [Tryz.ntmps178]; simp) ?_
  rw [Tryz.ntmps178]
  unfold f_session_number at h
  refine AW.seq ?_
  refine AW.reg ?_
  refine Lp (V_asg rfl rfl) rfl rfl ?_
  refine Lnil ?_
  refine thenN ?_
  refine AW.seq ?_
  refine AW.reg ?_
  refine Lp (V_move rfl rfl) rfl rfl ?_
  refine Lp (V_geq rfl rfl rfl) rfl rfl ?_
  refine Lp (V_move rfl rfl) rfl rfl ?_
  refine Lsplit 3 (decide (1 ≤ a0)) [(8, .bool ((decide (1 ≤ a0)) && (decide (a0 ≤ 4611686018427387903))))] ?_ ?_ ?_
  · intro e2 hk2
    refine Lypb (V_move rfl rfl) rfl rfl rfl rfl e2 ?_
    refine Lypb (V_leq rfl rfl rfl) rfl rfl rfl rfl e2 ?_
    refine Lp (V_pickT rfl (evb e2) rfl) rfl rfl ?_
    exact hk2 _ (FrLe.cons (by rw [e2]; rfl) (FrLe.nil _))
  · intro e2 hk2
    refine Ln rfl rfl rfl rfl (.inl (by rw [e2]; rfl)) ?_
    refine Ln rfl rfl rfl rfl (.inl (by rw [e2]; rfl)) ?_
    refine Lp (V_pickF rfl (evb e2) rfl) rfl rfl ?_
    exact hk2 _ (FrLe.cons (by rw [e2]; rfl) (FrLe.nil _))
  intro fr hl
  refine Lfr hl ?_
  refine Lp (V_asg rfl rfl) rfl rfl ?_
  refine Lnil ?_
  refine thenN ?_
  refine AW.ret ?_
  exact bR1 Tryz.results178 rfl ⟨_, rfl, h⟩

end Go.Proofs.YtomdigihapdhnaaGreatDoor.G

/- Functions as predicate transformers, and the proofs that the code does what they tell: printed by wip/tools/gen.py. -/
namespace Go.Proofs.YtomdigihapdhnaaGreatDoor.G
open Go Go.Proofs.YtomdigihapdhnaaGreatDoor.SL
set_option linter.unusedVariables false
set_option linter.unusedSimpArgs false

def f_watch_New (B : World) (ro : AH) (σ : AH) (Q : Option Addr → AH → Prop) : Prop :=
 nw ro σ (.map #[] 0) fun x1_1 σ =>
 nw ro σ (.cells #[.map (some x1_1)] 245) fun x3_2 σ =>
 Q (some ⟨x3_2, 0, none⟩) σ

set_option maxRecDepth 100000 in
set_option maxHeartbeats 4000000 in
theorem watch_New_ok {B : World} {ro : AH} {σ : AH} {Q : Option Addr → AH → Prop} (h : Sep ro σ → f_watch_New B ro σ Q) : c_watch_New B ro σ Q := by
  refine ACalls.of_sep fun hsep => ?_
  replace h := h hsep
  refine ACalls.of_body (args := []) Tryz.func68 rfl (by rw [Tryz.ntmps68]; simp) ?_
  rw [Tryz.ntmps68]
  unfold f_watch_New at h
  refine AW.seq ?_
  refine AW.reg ?_
  refine Lp (V_asg rfl rfl) rfl rfl ?_
  refine Lnil ?_
  refine thenN ?_
  refine AW.seq ?_
  refine AW.reg ?_
  refine Ls rfl rfl (X_new (A_map0 rfl) fun x1_1 g1 g2 => ?_)
  replace h := h x1_1 g1 g2
  refine Lp (V_bld (vs := [(0, .map (some x1_1))]) (cs := #[.map (some x1_1)]) rfl Tryz.underlying245 ty245 pl245 rfl rfl) rfl rfl ?_
  refine Ls rfl rfl (X_new (A_box rfl rfl) fun x3_2 g1 g2 => ?_)
  replace h := h x3_2 g1 g2
  refine Lp (V_asg rfl rfl) rfl rfl ?_
  refine Lnil ?_
  refine thenN ?_
  refine AW.ret ?_
  exact bR1 Tryz.results68 rfl ⟨_, rfl, h⟩

end Go.Proofs.YtomdigihapdhnaaGreatDoor.G

/- Maps whose keys are whole numbers: what look-ups, stores and deletes do to the list of pairs that a map holds. Generic over any program. -/
namespace Go.Proofs.YtomdigihapdhnaaGreatDoor.SL
open Go
set_option linter.unusedSimpArgs false
set_option linter.unusedVariables false
variable {P : Program} {B : World} {ro σ σ' : AH} {tag tag' : Nat → Nat}

abbrev KVn := List (Int × Value)
def pairN (p : Int × Value) : Value × Value := (.int .i64 p.1, p.2)
structure MapN (tag : Nat → Nat) (σ : AH) (r b : Nat) (m : KVn) : Prop where
  tg : tag b = r
  obj : ∃ es clock, σ b = some (.map es clock) ∧ es.toList.map entV = m.map pairN ∧ Born es clock

theorem MapN.keep {R : List Nat} {r b : Nat} {m : KVn} (h : MapN tag σ r b m) (k : Step R ro tag σ tag' σ') (hr : r ∉ R) : MapN tag' σ' r b m := by
  obtain ⟨es, c, hb, hx⟩ := h.obj
  obtain ⟨t, e⟩ := k.keep b _ hb (by rw [h.tg]; exact hr)
  exact ⟨t.trans h.tg, es, c, e, hx⟩

theorem awp_checkKeyN {β : Type} {em : Bool} {kt : TypeId} {s : Int} {f : Unit → Sem β} {K : β → AH → Prop} (hk : P.underlying kt = some (.int .i64)) (h : awp P ro (f ()) K σ) : awp P ro (Sem.bind (Instr.checkKey em 10000 kt (.int .i64 s)) f) K σ := by
  rw [show (10000 : Nat) = 9999 + 1 from rfl]
  unfold Instr.checkKey
  simp only [bind_def]
  rw [bind_assoc', awp_underlying hk]
  exact h
theorem awp_findKeyN {β : Type} {kt : TypeId} {s : Int} {l : List MapEntry} {r : Option (Nat × Value)} {f : Option (Nat × Value) → Sem β} {K : β → AH → Prop} (hk : P.underlying kt = some (.int .i64)) (hr : Instr.findNow (.int .i64) (.int .i64 s) l 0 = some r) (h : awp P ro (f r) K σ) :
    awp P ro (Sem.bind (Instr.findKey kt (.int .i64 s) l) f) K σ := by
  unfold Instr.findKey
  simp only [bind_def]
  rw [bind_assoc', awp_underlying hk]
  rw [hr]
  exact h

theorem MapN.keepS {C : List Nat} {r b : Nat} {m : KVn} (h : MapN tag σ r b m) (k : StepS C ro tag σ tag' σ') (hr : r % 64 ∉ C) : MapN tag' σ' r b m := by
  obtain ⟨R, h1, h2⟩ := k
  exact h.keep h2 fun m => hr (h1 _ m)
end Go.Proofs.YtomdigihapdhnaaGreatDoor.SL

/- Kinds of keys of maps: texts, whole numbers, and structs of a text and a whole number. Generic over any program. -/
namespace Go.Proofs.YtomdigihapdhnaaGreatDoor.SL
open Go
set_option linter.unusedSimpArgs false
set_option linter.unusedVariables false
variable {P : Program}

abbrev kS (k : Str) : Value := .string (S k)
abbrev kI (k : Int) : Value := .int .i64 k
abbrev kSI (k : Str × Int) : Value := .agg #[.string (S k.1), .int .i64 k.2]
theorem findNow_gen {κ : Type} [DecidableEq κ] {enc : κ → Value} {d : TypeDesc} (hsame : ∀ k k', Instr.sameNow d (enc k) (enc k') = some (decide (k = k'))) (k : κ) : ∀ (l : List MapEntry) (m : List (κ × Value)) (i : Nat), l.map entV = m.map (pairG enc) → Instr.findNow d (enc k) l i = some (gfind k m i) := by
  intro l
  induction l with
  | nil => intro m i h; cases m with
    | nil => rfl
    | cons p m => cases h
  | cons e l ih =>
    intro m i h
    cases m with
    | nil => cases h
    | cons p m =>
      simp only [List.map_cons, List.cons.injEq] at h
      have hk : e.key = enc p.1 := congrArg Prod.fst h.1
      have hv : e.val = p.2 := congrArg Prod.snd h.1
      unfold Instr.findNow gfind
      rw [hk, hsame, hv]
      by_cases c : k = p.1
      · rw [if_pos c, decide_eq_true c]
      · rw [if_neg c, decide_eq_false c]
        exact ih m (i + 1) h.2
theorem keyS {kt : TypeId} (hk : P.underlying kt = some .string) : KeyT P kt kS where
  check := fun h => awp_checkKey hk h
  find := fun {_ _ _ k l m f K} he h => by
    refine awp_findKey hk (findNow_gen (enc := kS) (fun k k' => ?_) k l m 0 he) h
    show some (S k == S k') = _
    rw [bbeq]; congr 1; rw [decide_eq_decide]; exact S_inj
  stays := fun k => by
    unfold Instr.keyThatStays
    rw [if_pos (by simp [Instr.sameBits, bbeq])]; rfl
theorem keyI {kt : TypeId} (hk : P.underlying kt = some (.int .i64)) : KeyT P kt kI where
  check := fun h => awp_checkKeyN hk h
  find := fun {_ _ _ k l m f K} he h => by
    refine awp_findKeyN hk (findNow_gen (enc := kI) (fun k k' => ?_) k l m 0 he) h
    show (if IntKind.i64 = IntKind.i64 then some (k == k') else none) = _
    rw [if_pos rfl]; congr 1
  stays := fun k => by
    unfold Instr.keyThatStays
    rw [if_pos (by simp [Instr.sameBits])]; rfl

section
variable {ro : AH}
end
end Go.Proofs.YtomdigihapdhnaaGreatDoor.SL

/- The waking of a store, as far as replies need it: members, the table's first session. -/
namespace Go.Proofs.YtomdigihapdhnaaGreatDoor.Zt
open Go Go.Proofs.YtomdigihapdhnaaGreatDoor.SL Go.Proofs.YtomdigihapdhnaaGreatDoor.G Go.Proofs.YtomdigihapdhnaaGreatDoor.Pa Go.Proofs.YtomdigihapdhnaaGreatDoor.Wi
set_option linter.unusedSimpArgs false
set_option linter.unusedVariables false
set_option maxRecDepth 100000
variable {B : World} {ro σ σ' : AH} {tag tag' : Nat → Nat}

theorem uHouses : Tryz.prog.underlying 240 = some (.map 9 255) := by kernel_rfl
theorem uLive : Tryz.prog.underlying 252 = some (.map 3 249) := by kernel_rfl
theorem u3' : Tryz.prog.underlying 3 = some (.int .i64) := by kernel_rfl
theorem uInts : Tryz.prog.underlying 55 = some (.slice 3) := by kernel_rfl
theorem ty3' : TyIs Tryz.prog 3 (.int .i64 0) 1 8 := TyIs.of (by kernel_rfl)
theorem tyHp : TyIs Tryz.prog 255 (.pointer none) 1 8 := TyIs.of (by kernel_rfl)
theorem cloneI_ok (q : Nat) {s : Sl} {l : List Value} {Q : Sl → AH → Prop} (h : SL.Read ro σ s l) (hs : SL.Sep ro σ) (hl : l.length ≤ 1048576) (hv : ∀ v ∈ l, storable v = true) (hQ : ∀ s' tag' σ', (∀ R, Step R ro tag σ tag' σ') → Row tag' σ' q 3 s' l → Q s' σ') : c_slices_Clone_int_int B ro s σ Q := by
  refine slices_Clone_int_int_ok fun _ => ?_
  unfold f_slices_Clone_int_int
  by_cases h0 : s.a = none
  · rw [if_pos h0]
    rw [h.2.1 h0] at hQ
    exact hQ _ tag σ (fun _ => Step.refl hs) (Row.nil q 3)
  · rw [if_neg h0]
    refine nw_cells (tag := tag) q hs fun b tag1 σ1 st1 r1 => ?_
    have h' : SL.Read ro σ1 s l := h.step (st1 [])
    refine awp_appendN r1 (st1 []).sep h' uInts ty3' rfl hv (by simp; omega) (by decide) fun s' tag2 σ2 st2 r2 => ?_
    exact ⟨s', rfl, hQ s' tag2 σ2 (fun R => (st1 R).trans (st2 R (.inl rfl))) r2⟩
theorem right3_ok {s : Sl} {Q : Bool → AH → Prop} (h : SL.Read ro σ s [vI 0, vI 1, vI 2]) (hQ : Q true σ) : c_store_rightMembers B ro s σ Q := by
  refine store_rightMembers_ok fun _ => ?_
  unfold f_store_rightMembers
  have hl : (s.len : Int) = 3 := by rw [h.1]; rfl
  obtain ⟨p, hp⟩ : ∃ p, s.a = some p := by
    cases e : s.a with
    | none => have := h.2.1 e; cases this
    | some p => exact ⟨p, rfl⟩
  have g0 := h.2.2 p hp 0 _ rfl
  have g1 := h.2.2 p hp 1 _ rfl
  have g2 := h.2.2 p hp 2 _ rfl
  refine lfpD.intro ?_
  generalize hY : lfpD (l2_store_rightMembers B ro s Q) = Y
  unfold l2_store_rightMembers
  rw [hl, if_pos (by decide)]
  refine ⟨p, hp, by decide, by decide, 0, g0, ?_⟩
  rw [if_neg (by decide), if_neg (by decide)]
  unfold j8_store_rightMembers j6_store_rightMembers
  rw [if_neg (by decide), show IntKind.i64.wrap (0 + 1) = 1 from rfl, ← hY]
  refine lfpD.intro ?_
  rw [hY]
  unfold l2_store_rightMembers
  rw [hl, if_pos (by decide)]
  refine ⟨p, hp, by decide, by decide, 1, g1, ?_⟩
  rw [if_neg (by decide), if_pos (by decide)]
  refine ⟨p, hp, by decide, by decide, 0, g0, ?_⟩
  unfold j8_store_rightMembers j6_store_rightMembers
  rw [if_neg (by decide), show IntKind.i64.wrap (1 + 1) = 2 from rfl, ← hY]
  refine lfpD.intro ?_
  rw [hY]
  unfold l2_store_rightMembers
  rw [hl, if_pos (by decide)]
  refine ⟨p, hp, by decide, by decide, 2, g2, ?_⟩
  rw [if_neg (by decide), if_pos (by decide)]
  refine ⟨p, hp, by decide, by decide, 1, g1, ?_⟩
  unfold j8_store_rightMembers j6_store_rightMembers
  rw [if_neg (by decide), show IntKind.i64.wrap (2 + 1) = 3 from rfl, ← hY]
  refine lfpD.intro ?_
  rw [hY]
  unfold l2_store_rightMembers
  rw [hl, if_neg (by decide)]
  unfold j1_store_rightMembers
  rw [hl]
  exact hQ
/-- the first session of a home whose table is empty -/
theorem open0_ok {T M : Nat} {Q : Int → Bool → Int → AH → Prop} (hc : Row tag σ 55 242 ⟨some ⟨T, 0, none⟩, 1, 1⟩ [.map (some M)]) (hm : MapG kS tag σ 119 M [])
    (hQ : ∀ tag' σ', StepS [0, 55, 56, 57, 58] ro tag σ tag' σ' → Q 1 true 0 σ') : c_session_Table_Open B ro (some ⟨T, 0, none⟩) ⟨#[97]⟩ 5 100 σ Q := by
  refine session_Table_Open_ok fun hs => ?_
  unfold f_session_Table_Open
  refine name_ok ?_
  rw [show nameOk (L ⟨#[97]⟩) = true from by decide, if_neg (by simp)]
  refine session_number_ok fun _ => ?_
  unfold f_session_number
  show (if ¬ (((decide ((1 : Int) ≤ 5)) && (decide ((5 : Int) ≤ 4611686018427387903))) = true) then _ else _)
  rw [if_neg (by decide), if_neg (by decide)]
  refine ⟨_, rfl, some M, hc.cell1 hs, ?_⟩
  refine awp_lookupG (k := [97]) hm hs uHouses (keyS u9) tyHp ?_
  refine ⟨none, rfl, ?_⟩
  rw [if_pos rfl]
  refine nw_mapG kI (tag := tag) 57 hs fun m tag1 σ1 st1 m1 => ?_
  refine nw_cells (tag := tag1) 56 (st1 []).sep fun H tag2 σ2 st2 r2 => ?_
  have m2 := m1.keep (st2 []) (by simp)
  have hs2 := (st2 []).sep
  unfold j6_session_Table_Open
  refine ⟨_, rfl, some m, (r2.read hs2).2.2 _ rfl 1 _ rfl, ?_⟩
  refine awp_range_mapG uLive m2 hs2 fun es clock x hb he hbn hro hx => ?_
  have st3 : ∀ R, Step R ro tag2 σ2 (setTag tag2 x 0) (upd σ2 x (.mapIter (some m) clock #[] clock)) := fun R => Step.fresh hs2 hro hx
  refine ⟨_, rfl, ?_⟩
  refine lfpD.intro ?_
  show awp Tryz.prog ro (Instr.next (.pointer (some ⟨x, 0, none⟩)) false 0) _ _
  refine awp_next_map (upd_same _ _ _) ((st3 []).keep m _ hb (by simp)).2 (st3 []).sep hbn (fun _ => ?_) (fun e hes _ => ?_)
  rotate_left
  · have : es.toList = [] := by simpa using he
    rw [this] at hes; cases hes
  refine .inl ⟨rfl, ?_⟩
  generalize (upd σ2 x (.mapIter (some m) clock #[] clock)) = σ3 at st3 ⊢
  generalize (setTag tag2 x 0) = tag3 at st3
  have hs3 := (st3 []).sep
  have r3 := r2.keep (st3 []) (by simp)
  have m3 := m2.keep (st3 []) (by simp)
  unfold j8_session_Table_Open
  refine ⟨_, rfl, some m, (r3.read hs3).2.2 _ rfl 1 _ rfl, ?_⟩
  refine awp_lenG m3 hs3 uLive ?_
  refine ⟨0, rfl, ?_⟩
  rw [if_neg (by decide)]
  refine ⟨_, rfl, 0, (r3.read hs3).2.2 _ rfl 0 _ rfl, ?_⟩
  unfold j12_session_Table_Open
  rw [if_neg (by decide)]
  refine ⟨_, rfl, 0, (r3.read hs3).2.2 _ rfl 0 _ rfl, _, rfl, ?_⟩
  refine r3.stPre [.int .i64 (IntKind.i64.wrap (0 + 1))] 0 _ σ3 hs3 (by simp) (by simp [storable]) fun σ4 st4 r4 => ?_
  have hs4 := st4.sep
  have m4 := m3.keep st4 (by simp)
  refine ⟨_, rfl, _, rfl, _, rfl, some m, (r4.read hs4).2.2 _ rfl 1 _ rfl, _, (r4.read hs4).2.2 _ rfl 0 _ rfl, _, (r4.read hs4).2.2 _ rfl 0 _ rfl, ?_⟩
  refine nw_cells (tag := tag3) 58 hs4 fun Z tag5 σ5 st5 r5 => ?_
  refine awp_updateG (k := IntKind.i64.wrap (0 + 1)) (m4.keep (st5 []) (by simp)) (st5 []).sep uLive (keyI u3') fun σ6 st6 m6 => ?_
  have hc6 : Row tag5 σ6 55 242 ⟨some ⟨T, 0, none⟩, 1, 1⟩ [.map (some M)] := (((((hc.keep (st1 []) (by simp)).keep (st2 []) (by simp)).keep (st3 []) (by simp)).keep st4 (by simp)).keep (st5 []) (by simp)).keep st6 (by simp)
  have hm6 : MapG kS tag5 σ6 119 M [] := (((((hm.keep (st1 []) (by simp)).keep (st2 []) (by simp)).keep (st3 []) (by simp)).keep st4 (by simp)).keep (st5 []) (by simp)).keep st6 (by simp)
  have r6 := (r4.keep (st5 []) (by simp)).keep st6 (by simp)
  refine ⟨_, rfl, some M, hc6.cell1 st6.sep, ?_⟩
  refine awp_updateG (k := [97]) hm6 st6.sep uHouses (keyS u9) fun σ7 st7 m7 => ?_
  have r7 := r6.keep st7 (by simp)
  refine ⟨_, rfl, _, (r7.read st7.sep).2.2 _ rfl 0 _ rfl, ?_⟩
  refine hQ tag5 σ7 ?_
  refine (((st1 []).trans (st2 [])).trans (st3 [])).s (by simp) |>.trans ((st4.s (by simp)).trans (((st5 []).s (by simp)).trans ((st6.s (by simp)).trans (st7.s (by simp)))))
end Go.Proofs.YtomdigihapdhnaaGreatDoor.Zt

/- store.New, store.Apply of the first call, the law's waking. -/
namespace Go.Proofs.YtomdigihapdhnaaGreatDoor.Zt
open Go Go.Proofs.YtomdigihapdhnaaGreatDoor.SL Go.Proofs.YtomdigihapdhnaaGreatDoor.G Go.Proofs.YtomdigihapdhnaaGreatDoor.Pa Go.Proofs.YtomdigihapdhnaaGreatDoor.Wi
set_option linter.unusedSimpArgs false
set_option linter.unusedVariables false
set_option maxRecDepth 100000
variable {B : World} {ro σ σ' : AH} {tag tag' : Nat → Nat}

abbrev nS : Sl := ⟨none, 0, 0⟩
theorem cells_of {s : Sl} {l : List Value} {p : Addr} (h : SL.Read ro σ s l) (hp : s.a = some p) : SL.cellsAt ro σ p 0 l := cellsAt_of 0 fun j v hv => by rw [Nat.zero_add]; exact h.2.2 p hp j v hv
/-- a store that nobody has called -/
structure NewAt (tag : Nat → Nat) (σ : AH) (W T Tt M : Nat) (ms : Sl) (Th : Nat) : Prop where
  own : Row tag σ 54 153 ⟨some ⟨W, 0, none⟩, 5, 5⟩ [vI 0, Sl.v ms, ptr T, ptr Tt, ptr Th]
  mem : Row tag σ 118 3 ms [vI 0, vI 1, vI 2]
  tree : TreeIs tag σ 10 T St.new
  tbl : Row tag σ 55 242 ⟨some ⟨Tt, 0, none⟩, 1, 1⟩ [.map (some M)]
  map : MapG kS tag σ 119 M []
abbrev CN : List Nat := [0, 10, 54, 55, 62]
theorem newStore_ok {s : Sl} {Q : Option Addr → Int → AH → Prop} (h : SL.Read ro σ s [vI 0, vI 1, vI 2])
    (hQ : ∀ W T Tt M ms Th tag' σ', StepS CN ro tag σ tag' σ' → NewAt tag' σ' W T Tt M ms Th → Q (some ⟨W, 0, none⟩) 0 σ') : c_store_New B ro s σ Q := by
  refine store_New_ok fun hs => ?_
  unfold f_store_New
  refine right3_ok h ?_
  rw [if_neg (by simp)]
  refine cloneI_ok (tag := tag) 118 h hs (by decide) (by simp [storable]) fun ms tag1 σ1 st1 r1 => ?_
  refine new_ok (tag := tag1) 10 (by decide) (by decide) fun T tag2 σ2 st2 t2 => ?_
  refine session_New_ok fun hs2 => ?_
  unfold f_session_New
  refine nw_mapG kS (tag := tag2) 119 hs2 fun M tag3 σ3 st3 m3 => ?_
  refine nw_cells (tag := tag3) 55 (st3 []).sep fun Tt tag4 σ4 st4 r4 => ?_
  refine watch_New_ok fun hs4 => ?_
  unfold f_watch_New
  refine nw_mapG kSI (tag := tag4) 126 hs4 fun Mh tag5 σ5 st5 m5 => ?_
  refine nw_cells (tag := tag5) 62 (st5 []).sep fun Th tag6 σ6 st6 r6 => ?_
  refine nw_cells (tag := tag6) 54 (st6 []).sep fun W tag7 σ7 st7 r7 => ?_
  have k6 : Step [] ro tag4 σ4 tag7 σ7 := ((st5 []).trans (st6 [])).trans (st7 [])
  have k3 : Step [] ro tag3 σ3 tag7 σ7 := (st4 []).trans k6
  have k2 : Step [] ro tag2 σ2 tag7 σ7 := (st3 []).trans k3
  refine hQ W T Tt M ms Th tag7 σ7 (((st1 []).s (by simp)).trans ((st2.s (by simp)).trans (k2.s (by simp)))) ⟨r7, ?_, t2.keep k2 (by simp), r4.keep k6 (by simp), m3.keep k3 (by simp)⟩
  exact (r1.keepC st2 (by decide)).keep k2 (by simp)
theorem NewAt.keepS {C : List Nat} {W T Tt M Th : Nat} {ms : Sl} (h : NewAt tag σ W T Tt M ms Th) (k : StepS C ro tag σ tag' σ') (hC : 54 ∉ C ∧ 55 ∉ C ∧ 10 ∉ C ∧ 6 ∉ C) : NewAt tag' σ' W T Tt M ms Th :=
  ⟨h.own.keepS k hC.1, h.mem.keepS k hC.1, h.tree.keepS k hC.2.2.1 hC.2.2.2, h.tbl.keepS k hC.2.1, h.map.keepS k hC.2.1⟩
abbrev CA1 : List Nat := [0, 2, 3, 4, 5, 10, 55, 56, 57, 58]
abbrev rep1 : List Value := [.int .i64 0, .int .i64 1, Sl.v nS, .int .i64 0, Sl.v nS, .int .i64 0, .int .i64 0, .int .i64 0, .int .i64 0, Sl.v nS, Sl.v nS, .int .i64 0]
theorem sto1 : ∀ v ∈ rep1, storable v = true := by decide
set_option maxHeartbeats 1000000 in
theorem sopen_ok {W T Tt M Th : Nat} {ms : Sl} {Q : Int → Int → Sl → Int → Sl → Int → Int → Int → Int → Sl → Sl → Int → AH → Prop} (g : Glob ro) (h : NewAt tag σ W T Tt M ms Th)
    (hQ : ∀ tag' σ', StepS CA1 ro tag σ tag' σ' → Q 0 1 nS 0 nS 0 0 0 0 nS nS 0 σ') : c_store_Store_open B ro (some ⟨W, 0, none⟩) 1 ⟨#[97]⟩ 0 0 5 100 0 0 nS ByteArray.empty false 0 nS σ Q := by
  refine store_Store_open_ok fun hs => ?_
  unfold f_store_Store_open
  refine nw_cells (tag := tag) 3 hs fun X tag1 σ1 st1 r1 => ?_
  refine nw_cells (tag := tag1) 2 (st1 []).sep fun Y tag2 σ2 st2 r2 => ?_
  have k2 : StepS CA1 ro tag σ tag2 σ2 := ((st1 []).trans (st2 [])).s (by simp)
  have h2 : NewAt tag2 σ2 W T Tt M ms Th := h.keepS (C := []) (((st1 []).trans (st2 [])).s (by simp)) (by simp)
  have c2 := r1.keep (st2 []) (by simp)
  have hs2 := (st2 []).sep
  refine ⟨⟨#[97]⟩, (c2.read hs2).2.2 _ rfl 1 _ rfl, by decide, _, rfl, some ⟨T, 0, none⟩, (h2.own.read hs2).2.2 _ rfl 2 _ rfl, ?_⟩
  have hL : L ((⟨#[47]⟩ : ByteArray) ++ ⟨#[97]⟩) = [47, 97] := by decide
  obtain ⟨MT, bsT, hT⟩ := h2.tree
  refine get_ok (r := 10) g (by decide) (by decide) (by decide) hT (fun p n hp => ?_) (fun hp => ?_) (fun ps hp hl tag3 σ3 st3 => ?_) (fun n hn => ?_)
  · simp only [St.new, List.lookup] at hp
    split at hp
    · cases hp; simp
    · cases hp
  · rw [hL] at hp; exact absurd hp (by decide)
  rotate_left
  · rw [hL, show St.new.lookup [47, 97] = none by decide] at hn; cases hn
  have h3 := h2.keepS (st3.s (C := [0]) (by simp)) (by decide)
  have c3 := c2.keepC st3 (by decide)
  have y3 := r2.keepC st3 (by decide)
  refine nw_cells (tag := tag3) 5 st3.sep fun Z tag4 σ4 st4 r4 => ?_
  refine r4.stPre _ 0 _ σ4 (st4 []).sep (by simp) (by simp [storable]) fun σ5 st5 r5 => ?_
  have k5 : Step [5] ro tag3 σ3 tag4 σ5 := (st4 [5]).trans st5
  have h5 := h3.keepS (k5.s (C := [5]) (by simp)) (by decide)
  have c5 := c3.keep k5 (by simp)
  have y5 := y3.keep k5 (by simp)
  have hs5 := st5.sep
  refine ⟨⟨#[97]⟩, (c5.read hs5).2.2 _ rfl 1 _ rfl, ?_⟩
  refine name_ok ?_
  refine ⟨_, rfl, some ⟨Tt, 0, none⟩, (h5.own.read hs5).2.2 _ rfl 3 _ rfl, ⟨#[97]⟩, (c5.read hs5).2.2 _ rfl 1 _ rfl, 5, (c5.read hs5).2.2 _ rfl 4 _ rfl, 100, (c5.read hs5).2.2 _ rfl 5 _ rfl, ?_⟩
  refine open0_ok h5.tbl h5.map fun tag6 σ6 st6 => ?_
  rw [if_neg (by simp), if_pos ⟨by decide, rfl⟩]
  have o6 := h5.own.keepS st6 (by decide)
  have t6 := h5.tree.keepS st6 (by decide) (by decide)
  refine ⟨_, rfl, some ⟨T, 0, none⟩, (o6.read st6.sep).2.2 _ rfl 2 _ rfl, ?_⟩
  refine create_ok (r := 10) (d := []) g (by decide) (by decide) (by decide) t6 ⟨rfl, fun _ => rfl, fun p hp => by cases hp⟩ (by decide) fun tag7 σ7 st7 t7 => ?_
  unfold j22_store_Store_open
  have y7 := (y5.keepS st6 (by decide)).keepC st7 (by decide)
  refine y7.stPre rep1 0 _ σ7 st7.sep (by decide) sto1 fun σ8 st8 y8 => ?_
  have y9 : Row tag7 σ8 2 _ ⟨some ⟨Y, 0, none⟩, 12, 12⟩ rep1 := y8
  refine ⟨_, _, _, _, _, _, _, _, _, _, _, _, cells_of (y9.read st8.sep) rfl, ?_⟩
  exact hQ tag7 σ8 (k2.trans ((st3.s (by simp)).trans ((k5.s (by simp)).trans ((st6.mono (by decide)).trans ((st7.s (by simp)).trans (st8.s (by simp)))))))
abbrev CB : List Nat := [0, 2, 3, 4, 5, 10, 12, 55, 56, 57, 58]
theorem apply1_ok {W T Tt M Th : Nat} {ms : Sl} {Q : Int → Int → Sl → Int → Sl → Int → Int → Int → Int → Sl → Sl → Int → AH → Prop} (g : Glob ro) (h : NewAt tag σ W T Tt M ms Th)
    (hQ : ∀ tag' σ', StepS CB ro tag σ tag' σ' → Q 0 1 nS 0 nS 0 0 0 0 nS nS 0 σ') : c_store_Store_Apply B ro (some ⟨W, 0, none⟩) 1 ⟨#[97]⟩ 0 0 5 100 0 0 nS ByteArray.empty false 0 nS σ Q := by
  refine store_Store_Apply_ok fun hs => ?_
  unfold f_store_Store_Apply
  refine nw_cells (tag := tag) 4 hs fun X tag1 σ1 st1 r1 => ?_
  refine nw_cells (tag := tag1) 12 (st1 []).sep fun Y tag2 σ2 st2 r2 => ?_
  have k2 : Step [] ro tag σ tag2 σ2 := (st1 []).trans (st2 [])
  have h2 : NewAt tag2 σ2 W T Tt M ms Th := h.keepS (C := []) (k2.s (by simp)) (by simp)
  have c2 := r1.keep (st2 []) (by simp)
  have hs2 := (st2 []).sep
  refine ⟨1, (c2.read hs2).2.2 _ rfl 0 _ rfl, ?_⟩
  rw [if_pos rfl]
  refine ⟨_, _, _, _, _, _, _, _, _, _, _, _, _, cells_of (c2.read hs2) rfl, ?_⟩
  refine sopen_ok g h2 fun tag3 σ3 st3 => ?_
  have y3 := r2.keepS st3 (by decide)
  refine y3.stPre rep1 0 _ σ3 st3.sep (by simp) sto1 fun σ4 st4 y4 => ?_
  have y5 : Row tag3 σ4 12 _ ⟨some ⟨Y, 0, none⟩, 12, 12⟩ rep1 := y4
  refine ⟨_, _, _, _, _, _, _, _, _, _, _, _, cells_of (y5.read st4.sep) rfl, ?_⟩
  exact hQ tag3 σ4 ((k2.s (by simp)).trans ((st3.mono (by decide)).trans (st4.s (by simp))))
end Go.Proofs.YtomdigihapdhnaaGreatDoor.Zt

/- The law's waking: a pure call that answers true. -/
namespace Go.Proofs.YtomdigihapdhnaaGreatDoor.Zt
open Go Go.Proofs.YtomdigihapdhnaaGreatDoor.SL Go.Proofs.YtomdigihapdhnaaGreatDoor.G Go.Proofs.YtomdigihapdhnaaGreatDoor.Pa Go.Proofs.YtomdigihapdhnaaGreatDoor.Wi
set_option linter.unusedSimpArgs false
set_option linter.unusedVariables false
set_option maxRecDepth 100000
variable {B : World} {ro σ σ' : AH} {tag tag' : Nat → Nat}

abbrev CK : List Nat := [0, 2, 3, 4, 5, 8, 10, 12, 13, 14, 54, 55, 56, 57, 58, 62]
theorem awake17_ok {Q : Bool → AH → Prop} (g : Glob ro) (hQ : ∀ tag' σ', (∀ R, Step R ro tag σ tag' σ') → Q true σ') : c_law17_awake B ro σ Q := by
  refine law17_awake_ok fun hs => ?_
  unfold f_law17_awake
  refine nw_cells (tag := T7) 8 hs fun X tag1 σ1 st1 r1 => ?_
  refine newStore_ok (tag := tag1) (r1.read (st1 []).sep) fun W T Tt M ms Th tag2 σ2 st2 h2 => ?_
  rw [if_neg (by simp)]
  refine apply1_ok g h2 fun tag3 σ3 st3 => ?_
  have o3 := h2.own.keepS st3 (by decide)
  have m3 := h2.mem.keepS st3 (by decide)
  refine nw_cells (tag := tag3) 13 st3.sep fun Z tag4 σ4 st4 r4 => ?_
  refine r4.stPre rep1 0 _ σ4 (st4 []).sep (by simp) sto1 fun σ5 st5 r5 => ?_
  have y5 : Row tag4 σ5 13 _ ⟨some ⟨Z, 0, none⟩, 12, 12⟩ rep1 := r5
  have k5 : Step [13] ro tag3 σ3 tag4 σ5 := (st4 [13]).trans st5
  have o5 := o3.keep k5 (by simp)
  have m5 := m3.keep k5 (by simp)
  have hs5 := st5.sep
  refine ⟨0, (y5.read hs5).2.2 _ rfl 0 _ rfl, ?_⟩
  rw [if_pos rfl]
  refine ⟨1, (y5.read hs5).2.2 _ rfl 1 _ rfl, ?_⟩
  unfold j7_law17_awake
  rw [if_pos (by decide)]
  refine ⟨_, rfl, ?_⟩
  refine store_quorum_Epoch_ok fun _ => ?_
  unfold f_store_quorum_Epoch
  refine ⟨_, rfl, 0, (o5.read hs5).2.2 _ rfl 0 _ rfl, ?_⟩
  show j9_law17_awake B ro (some ⟨W, 0, none⟩) Q (decide ((0 : Int) = 0)) σ5
  unfold j9_law17_awake
  rw [if_pos (by decide)]
  refine ⟨_, rfl, ?_⟩
  refine store_quorum_Members_ok fun _ => ?_
  unfold f_store_quorum_Members
  refine ⟨_, rfl, ms, (o5.read hs5).2.2 _ rfl 1 _ rfl, ?_⟩
  refine cloneI_ok (tag := tag4) 14 (m5.read hs5) hs5 (by decide) (by simp [storable]) fun s tag6 σ6 st6 r6 => ?_
  unfold j11_law17_awake
  have hl : s.len = 3 := (r6.read (st6 []).sep).1
  show Q (decide ((s.len : Int) = 3)) σ6
  rw [hl]
  have st : StepS CK ro T7 σ tag6 σ6 := ((st1 []).s (by simp)).trans ((st2.mono (by decide)).trans ((st3.mono (by decide)).trans ((k5.s (by simp)).trans ((st6 []).s (by simp)))))
  exact hQ _ σ6 (st.mix (by decide) tag)
end Go.Proofs.YtomdigihapdhnaaGreatDoor.Zt
