/- GL5, SnG, CkG, GR5, RgD, RgE, RgF, RgH, RwD, RwE, WlA -/
import Derived.Test.YtfobjidchipdaaaGreatDoorXI
/- Functions as predicate transformers, and the proofs that the code does what they tell: printed by wip/tools/gen.py. -/
namespace Go.Proofs.YtfobjidchipdaaaGreatDoor.G
open Go Go.Proofs.YtfobjidchipdaaaGreatDoor.SL
set_option linter.unusedVariables false
set_option linter.unusedSimpArgs false

def j9_law05_awake (B : World) (ro : AH) (Q : Bool → AH → Prop) (x40_10 : Bool) (σ : AH) : Prop :=
 Q x40_10 σ

def j3_law05_awake (B : World) (ro : AH) (x8_1 : Option Addr) (Q : Bool → AH → Prop) (x19_4 : Bool) (σ : AH) : Prop :=
 if x19_4 = true then
  Q false σ
 else
 c_snap_Load B ro x8_1 (⟨#[115]⟩ : ByteArray) σ fun x22_5 x22_6 x22_7 x22_8 σ =>
 if ((x22_8 = 0) ∧ (x22_7 = true)) ∧ (x22_5 = 1) then
  awp Tryz.prog ro (convert 22 9 (Sl.v x22_6)) (fun v σ =>
   (∃ (x38_11 : ByteArray), v = .string x38_11 ∧
    j9_law05_awake B ro Q (decide (x38_11 = (⟨#[111, 110, 101]⟩ : ByteArray))) σ)) σ
 else
 j9_law05_awake B ro Q false σ

def f_law05_awake (B : World) (ro : AH) (σ : AH) (Q : Bool → AH → Prop) : Prop :=
 c_disk_New B ro 999 σ fun x8_1 x8_2 σ =>
 if x8_1 = none then
  j3_law05_awake B ro x8_1 Q true σ
 else
 nw ro σ (.cells #[.int .u8 111, .int .u8 110, .int .u8 101] 5) fun x15_12 σ =>
 awp Tryz.prog ro (convert 22 22 (Sl.v (⟨some ⟨x15_12, 0, none⟩, 3, 3⟩ : Sl))) (fun v σ =>
  (∃ (x16_13 : Sl), v = Sl.v x16_13 ∧
   c_snap_Save B ro x8_1 (⟨#[115]⟩ : ByteArray) 1 x16_13 σ fun x17_14 σ =>
   j3_law05_awake B ro x8_1 Q (!(decide (x17_14 = 0))) σ)) σ

set_option maxRecDepth 100000 in
set_option maxHeartbeats 4000000 in
theorem law05_awake_ok {B : World} {ro : AH} {σ : AH} {Q : Bool → AH → Prop} (h : Sep ro σ → f_law05_awake B ro σ Q) : c_law05_awake B ro σ Q := by
  refine ACalls.of_sep fun hsep => ?_
  replace h := h hsep
  refine ACalls.of_body (args := []) Tryz.func10 rfl (by rw [Tryz.ntmps10]; simp) ?_
  rw [Tryz.ntmps10]
  unfold f_law05_awake at h
  refine AW.seq ?_
  refine AW.reg ?_
  refine Lp (V_asg rfl rfl) rfl rfl ?_
  refine Lnil ?_
  refine thenN ?_
  refine AW.seq ?_
  refine AW.reg ?_
  refine Ls rfl rfl (X_call rfl Tryz.func9 rfl rfl rfl (ACalls.mono h ?_))
  rintro v σ ⟨x8_1, x8_2, rfl, h⟩
  refine Lp (V_move rfl rfl) rfl rfl ?_
  refine Lp (V_ext rfl rfl rfl) rfl rfl ?_
  refine Lp (V_ext rfl rfl rfl) rfl rfl ?_
  refine Lp (V_asg rfl rfl) rfl rfl ?_
  refine Lp (V_asg rfl rfl) rfl rfl ?_
  refine Lnil ?_
  refine thenN ?_
  refine AW.seq ?_
  refine AW.seq ?_
  refine AW.reg ?_
  refine Lp (V_move rfl rfl) rfl rfl ?_
  refine Lp (V_eqP rfl Tryz.underlying26 rfl rfl) rfl rfl ?_
  refine Lp (V_move rfl rfl) rfl rfl ?_
  refine LsplitJ 6 x8_1.isNone isNone_iff h (fun fr σ => ∃ (x19_4 : Bool), FrLe [(1, .pointer x8_1), (19, .bool x19_4)] fr ∧ j3_law05_awake B ro x8_1 Q x19_4 σ) ?_ ?_ ?_
  · intro h e2 hk2
    refine Ln rfl rfl rfl rfl (.inl (by rw [e2]; rfl)) ?_
    refine Ln rfl rfl rfl rfl (.inl (by rw [e2]; rfl)) ?_
    refine Ln rfl rfl rfl rfl (.inl (by rw [e2]; rfl)) ?_
    refine Ln rfl rfl rfl rfl (.inl (by rw [e2]; rfl)) ?_
    refine Ln rfl rfl rfl rfl (.inl (by rw [e2]; rfl)) ?_
    refine Lp (V_pickT rfl (evb e2) rfl) rfl rfl ?_
    exact hk2 _ _ ⟨_, (FrLe.cons rfl (FrLe.cons rfl (FrLe.nil _))), h⟩
  · intro h e2 hk2
    refine Lypb (V_move rfl rfl) rfl rfl rfl rfl e2 ?_
    refine Lyb rfl rfl rfl rfl e2 (X_new (A_bsl (vs := [(0, .int .u8 111), (1, .int .u8 110), (2, .int .u8 101)]) (cs := #[.int .u8 111, .int .u8 110, .int .u8 101]) rfl Tryz.underlying22 ty5 (by decide) rfl rfl) fun x15_12 g1 g2 => ?_)
    replace h := h x15_12 g1 g2
    refine Lyb rfl rfl rfl rfl e2 (X_cvt rfl rfl (awp_mono _ h ?_))
    rintro v σ ⟨x16_13, rfl, h⟩
    refine Lyb rfl rfl rfl rfl e2 (X_call rfl Tryz.func11 rfl rfl rfl (ACalls.mono h ?_))
    rintro v σ ⟨x17_14, rfl, h⟩
    refine Lypb (V_neq rfl rfl rfl) rfl rfl rfl rfl e2 ?_
    refine Lp (V_pickF rfl (evb e2) rfl) rfl rfl ?_
    exact hk2 _ _ ⟨_, (FrLe.cons rfl (FrLe.cons rfl (FrLe.nil _))), h⟩
  rintro fr σ ⟨x19_4, hl, h⟩
  unfold j3_law05_awake at h
  refine Lfr hl ?_
  refine Lnil ?_
  refine thenN ?_
  refine AW.iff rfl Iff.rfl h (fun h => ?_) (fun h => ?_)
  · refine AW.seq ?_
    refine AW.reg ?_
    refine Lp (V_asg rfl rfl) rfl rfl ?_
    refine Lnil ?_
    refine thenN ?_
    refine AW.ret ?_
    refine thenR ?_
    exact bR1 Tryz.results10 rfl ⟨_, rfl, h⟩
  refine AW.skip ?_
  refine thenN ?_
  refine AW.seq ?_
  refine AW.reg ?_
  refine Lp (V_move rfl rfl) rfl rfl ?_
  refine Ls rfl rfl (X_call rfl Tryz.func13 rfl rfl rfl (ACalls.mono h ?_))
  rintro v σ ⟨x22_5, x22_6, x22_7, x22_8, rfl, h⟩
  refine Lp (V_move rfl rfl) rfl rfl ?_
  refine Lp (V_ext rfl rfl rfl) rfl rfl ?_
  refine Lp (V_ext rfl rfl rfl) rfl rfl ?_
  refine Lp (V_ext rfl rfl rfl) rfl rfl ?_
  refine Lp (V_ext rfl rfl rfl) rfl rfl ?_
  refine Lp (V_asg rfl rfl) rfl rfl ?_
  refine Lp (V_asg rfl rfl) rfl rfl ?_
  refine Lp (V_asg rfl rfl) rfl rfl ?_
  refine Lp (V_asg rfl rfl) rfl rfl ?_
  refine Lnil ?_
  refine thenN ?_
  refine AW.seq ?_
  refine AW.reg ?_
  refine Lp (V_move rfl rfl) rfl rfl ?_
  refine Lp (V_eql rfl rfl rfl) rfl rfl ?_
  refine Lp (V_move rfl rfl) rfl rfl ?_
  refine Lsplit 2 (decide (x22_8 = 0)) [(3, .int .i64 x22_5), (4, Sl.v x22_6), (31, .bool ((decide (x22_8 = 0)) && x22_7))] ?_ ?_ ?_
  · intro e2 hk2
    refine Lypb (V_move rfl rfl) rfl rfl rfl rfl e2 ?_
    refine Lp (V_pickT rfl (evb e2) rfl) rfl rfl ?_
    exact hk2 _ (FrLe.cons rfl (FrLe.cons rfl (FrLe.cons (by rw [e2]; rfl) (FrLe.nil _))))
  · intro e2 hk2
    refine Ln rfl rfl rfl rfl (.inl (by rw [e2]; rfl)) ?_
    refine Lp (V_pickF rfl (evb e2) rfl) rfl rfl ?_
    exact hk2 _ (FrLe.cons rfl (FrLe.cons rfl (FrLe.cons (by rw [e2]; rfl) (FrLe.nil _))))
  intro fr hl
  refine Lfr hl ?_
  refine Lp (V_move rfl rfl) rfl rfl ?_
  refine Lsplit 3 ((decide (x22_8 = 0)) && x22_7) [(4, Sl.v x22_6), (35, .bool (((decide (x22_8 = 0)) && x22_7) && (decide (x22_5 = 1))))] ?_ ?_ ?_
  · intro e5 hk5
    refine Lypb (V_move rfl rfl) rfl rfl rfl rfl e5 ?_
    refine Lypb (V_eql rfl rfl rfl) rfl rfl rfl rfl e5 ?_
    refine Lp (V_pickT rfl (evb e5) rfl) rfl rfl ?_
    exact hk5 _ (FrLe.cons rfl (FrLe.cons (by rw [e5]; rfl) (FrLe.nil _)))
  · intro e5 hk5
    refine Ln rfl rfl rfl rfl (.inl (by rw [e5]; rfl)) ?_
    refine Ln rfl rfl rfl rfl (.inl (by rw [e5]; rfl)) ?_
    refine Lp (V_pickF rfl (evb e5) rfl) rfl rfl ?_
    exact hk5 _ (FrLe.cons rfl (FrLe.cons (by rw [e5]; rfl) (FrLe.nil _)))
  intro fr hl
  refine Lfr hl ?_
  refine Lp (V_move rfl rfl) rfl rfl ?_
  refine LsplitJ 4 (((decide (x22_8 = 0)) && x22_7) && (decide (x22_5 = 1))) (band_iff (band_iff decide_eq_true_iff Iff.rfl) decide_eq_true_iff) h (fun fr σ => ∃ (x40_10 : Bool), FrLe [(40, .bool x40_10)] fr ∧ j9_law05_awake B ro Q x40_10 σ) ?_ ?_ ?_
  · intro h e9 hk9
    refine Lypb (V_move rfl rfl) rfl rfl rfl rfl e9 ?_
    refine Lyb rfl rfl rfl rfl e9 (X_cvt rfl rfl (awp_mono _ h ?_))
    rintro v σ ⟨x38_11, rfl, h⟩
    refine Lypb (V_eqlS rfl rfl rfl) rfl rfl rfl rfl e9 ?_
    refine Lp (V_pickT rfl (evb e9) rfl) rfl rfl ?_
    exact hk9 _ _ ⟨_, (FrLe.cons rfl (FrLe.nil _)), h⟩
  · intro h e9 hk9
    refine Ln rfl rfl rfl rfl (.inl (by rw [e9]; rfl)) ?_
    refine Ln rfl rfl rfl rfl (.inl (by rw [e9]; rfl)) ?_
    refine Ln rfl rfl rfl rfl (.inl (by rw [e9]; rfl)) ?_
    refine Lp (V_pickF rfl (evb e9) rfl) rfl rfl ?_
    exact hk9 _ _ ⟨_, (FrLe.cons rfl (FrLe.nil _)), h⟩
  rintro fr σ ⟨x40_10, hl, h⟩
  unfold j9_law05_awake at h
  refine Lfr hl ?_
  refine Lp (V_asg rfl rfl) rfl rfl ?_
  refine Lnil ?_
  refine thenN ?_
  refine AW.ret ?_
  exact bR1 Tryz.results10 rfl ⟨_, rfl, h⟩

end Go.Proofs.YtfobjidchipdaaaGreatDoor.G

/- SnapKeeps, the walk. -/
namespace Go.Proofs.YtfobjidchipdaaaGreatDoor.Zt
open Go Go.Proofs.YtfobjidchipdaaaGreatDoor.SL Go.Proofs.YtfobjidchipdaaaGreatDoor.G Go.Proofs.YtfobjidchipdaaaGreatDoor.Pa
set_option maxRecDepth 100000
variable {B : World} {ro σ σ' : AH} {tag tag' : Nat → Nat}
theorem nw_lit {cs : Array Value} {K : Value → AH → Prop} (hs : SL.Sep ro σ) (hK : ∀ s tag' σ', (∀ R, Step R ro tag σ tag' σ') → Held tag' σ' 6 s cs.toList → K (Sl.v s) σ') :
    nw ro σ (.cells cs 5) fun x σ => awp Tryz.prog ro (convert 22 22 (Sl.v ⟨some ⟨x, 0, none⟩, cs.size, cs.size⟩)) K σ := by
  intro b hro hb
  unfold convert
  simp only [bind_def]
  rw [awp_underlying u30, awp_underlying u30]
  simp only [Sl.v]
  rw [awp_underlying u5'']
  show awp Tryz.prog ro (Sem.bind (markStringish ⟨b, 0, none⟩) fun _ => Sem.pure (Value.slice (some ⟨b, 0, none⟩) cs.size cs.size)) K (upd σ b _)
  unfold markStringish
  show ∃ o, rd ro (upd σ b _) b = some o ∧ _
  refine ⟨_, by unfold rd; rw [hro]; exact upd_same _ _ _, ?_⟩
  show (1 : Nat) ≠ 0 ∧ ∃ o, upd σ b _ b = some o ∧ _
  refine ⟨by decide, _, upd_same _ _ _, ?_⟩
  rw [upd_upd]
  refine hK ⟨some ⟨b, 0, none⟩, cs.size, cs.size⟩ (setTag tag b 6) _ (fun _ => Step.fresh hs hro hb) ⟨by simp, .inr ⟨_, _, rfl, by simp [setTag], upd_same _ _ _, fun i v hv => ?_⟩⟩
  rw [add_add, Nat.zero_add]
  show cs[i]? = some v
  rw [← hv]; simp
end Go.Proofs.YtfobjidchipdaaaGreatDoor.Zt
namespace Go.Proofs.YtfobjidchipdaaaGreatDoor.Sn
open Go Go.Proofs.YtfobjidchipdaaaGreatDoor.SL Go.Proofs.YtfobjidchipdaaaGreatDoor.G Go.Proofs.YtfobjidchipdaaaGreatDoor.Pa Go.Proofs.YtfobjidchipdaaaGreatDoor.Wi Go.Proofs.YtfobjidchipdaaaGreatDoor.Dk
set_option linter.unusedSimpArgs false
set_option linter.unusedVariables false
set_option maxRecDepth 100000
variable {B : World} {ro σ σ' : AH} {tag tag' : Nat → Nat}
theorem SnapFs.kb {k : Nat} {d : Str} {ps : Ps} (h : SnapFs k d (pfs ps)) (hn : (ps.map (·.1)).Nodup) : (∀ p ∈ ps, p.1.length ≤ 128) ∧ ps.length ≤ 4398046511104 ∧ ∀ p ∈ ps, p.2.2.safe ≤ p.2.2.b.length ∧ p.2.2.b.length < 4611686018427387904 := by
  refine ⟨fun p hp => ?_, ?_, fun p hp => ?_⟩
  · rcases h.keys _ (List.mem_map.2 ⟨p, hp, rfl⟩) with e | e <;> simp only at e <;> rw [e] <;> first | decide | exact (by decide : 4 ≤ 128)
  · have := h.len; unfold pfs at this; rw [List.length_map] at this; omega
  · have hb := h.blen hn p hp
    have hl := lookup_mem hn (k := p.1) (x := p.2) hp
    obtain ⟨⟨b, e1⟩, c, e2⟩ := h.lookups
    rcases h.keys _ (List.mem_map.2 ⟨p, hp, rfl⟩) with e | e
    · simp only at e; rw [e] at hl; rw [hl] at e1; rw [Option.some.inj e1] at hb ⊢
      exact ⟨Nat.le_refl _, by omega⟩
    · simp only at e; rw [e] at hl; rw [hl] at e2; rw [Option.some.inj e2] at hb ⊢
      exact ⟨Nat.le_refl _, by omega⟩
theorem awake_ok (g : Glob ro) : c_law05_awake B ro σ fun r _ => r = true := by
  refine law05_awake_ok fun hs => ?_
  unfold f_law05_awake
  refine new_ok (tag := fun _ => 0) (r := 10) (fun h => absurd h (by decide)) fun _ _ T M tag1 σ1 st1 h1 => ?_
  rw [if_neg (by simp)]
  have hs1 := (st1 []).sep
  refine Zt.nw_lit (tag := tag1) (cs := #[.int .u8 111, .int .u8 110, .int .u8 101]) hs1 fun s tag2 σ2 st2 hh => ?_
  refine ⟨s, rfl, ?_⟩
  refine save_ok (o := none) (k := 1) (d := [111, 110, 101]) g (h1.keep (st2 []) (by simp)) (by decide) (by decide) rfl (by decide) (.inr hh) (by decide) ?_ ?_
  · rintro e _ (h | ⟨k0, d0, h, _⟩ | h)
    · exact absurd h (by decide)
    · cases h
    · exact absurd h (by decide)
  · intro _ _ ps' tag3 σ3 st3 h3 hF
    unfold j3_law05_awake
    rw [if_neg (by simp)]
    refine load_ok (o := some (1, [111, 110, 101])) g h3 (by decide) (by decide) hF (fun e => by cases e) fun k' d' e s' tag4 σ4 st4 r4 => ?_
    cases e
    rw [if_pos ⟨⟨rfl, rfl⟩, rfl⟩]
    refine Zt.awp_b2s (r4.read st4.sep) ⟨_, rfl, ?_⟩
    unfold j9_law05_awake
    exact decide_eq_true rfl
end Go.Proofs.YtfobjidchipdaaaGreatDoor.Sn

/- SnapBack, the walk. -/
namespace Go.Proofs.YtfobjidchipdaaaGreatDoor.Sn
open Go Go.Proofs.YtfobjidchipdaaaGreatDoor.SL Go.Proofs.YtfobjidchipdaaaGreatDoor.G Go.Proofs.YtfobjidchipdaaaGreatDoor.Pa Go.Proofs.YtfobjidchipdaaaGreatDoor.Wi
set_option linter.unusedSimpArgs false
set_option linter.unusedVariables false
set_option maxRecDepth 100000
variable {B : World} {ro σ σ' : AH} {tag tag' : Nat → Nat}
/-- what the law knows of the chunks made -/
structure Made (ro : AH) (tag : Nat → Nat) (σ : AH) (k : Nat) (d : Str) (sz : Nat) (s : Sl) (ss : List Sl) : Prop where
  row : Row tag σ 14 22 s (ss.map Sl.v)
  len : ss.length = cnt d.length sz
  all : ∀ (i : Nat) (x : Sl), ss[i]? = some x → Row tag σ 6 5 x ((encCk (ckAt k d sz i)).map Zt.vU)
theorem Made.keepS {C : List Nat} {k : Nat} {d : Str} {sz : Nat} {s : Sl} {ss : List Sl} (h : Made ro tag σ k d sz s ss) (st : StepS C ro tag σ tag' σ') (h14 : 14 ∉ C) (h6 : 6 ∉ C) : Made ro tag' σ' k d sz s ss :=
  ⟨h.row.keepS st h14, h.len, fun i x hx => (h.all i x hx).keepS st h6⟩
end Go.Proofs.YtfobjidchipdaaaGreatDoor.Sn

/- Functions as predicate transformers, and the proofs that the code does what they tell: printed by wip/tools/gen.py. -/
namespace Go.Proofs.YtfobjidchipdaaaGreatDoor.G
open Go Go.Proofs.YtfobjidchipdaaaGreatDoor.SL
set_option linter.unusedVariables false
set_option linter.unusedSimpArgs false

def j1_ref05_Asm_find (B : World) (ro : AH) (Q : Int → AH → Prop) (σ : AH) : Prop :=
 Q (-1) σ

def l2_ref05_Asm_find (B : World) (ro : AH) (a0 : Option Addr) (a1 : Int) (Q : Int → AH → Prop) : (Int) → AH → ((Int) → AH → Prop) → Prop := fun x5_3 σ Y2 =>
 ∃ p8_4 : Addr, a0 = some p8_4 ∧
 ∃ (x10_5 : Sl), acell ro σ p8_4 = some (Sl.v x10_5) ∧
 if x5_3 < (x10_5.len : Int) then
  ∃ p16_6 : Addr, a0 = some p16_6 ∧
  ∃ (x18_7 : Sl), acell ro σ p16_6 = some (Sl.v x18_7) ∧
  ∃ p20_8 : Addr, x18_7.a = some p20_8 ∧ (0 : Int) ≤ x5_3 ∧ x5_3 < (x18_7.len : Int) ∧
  ∃ (x23_9 : Int), acell ro σ ((p20_8.add (Int.toNat x5_3 * 6)).add (Int.toNat 2 * 1)) = some (.int .i64 x23_9) ∧
  if x23_9 = a1 then
   Q x5_3 σ
  else
  Y2 (IntKind.i64.wrap (x5_3 + 1)) σ
 else
 j1_ref05_Asm_find B ro Q σ

def f_ref05_Asm_find (B : World) (ro : AH) (a0 : Option Addr) (a1 : Int) (σ : AH) (Q : Int → AH → Prop) : Prop :=
 lfpD (l2_ref05_Asm_find B ro a0 a1 Q ) (0) σ

set_option maxRecDepth 100000 in
set_option maxHeartbeats 4000000 in
theorem ref05_Asm_find_ok {B : World} {ro : AH} {a0 : Option Addr} {a1 : Int} {σ : AH} {Q : Int → AH → Prop} (h : Sep ro σ → f_ref05_Asm_find B ro a0 a1 σ Q) : c_ref05_Asm_find B ro a0 a1 σ Q := by
  refine ACalls.of_sep fun hsep => ?_
  replace h := h hsep
  refine ACalls.of_body (args := [.pointer a0, .int .i64 a1]) Tryz.func65 rfl (by rw [Tryz.ntmps65]; simp) ?_
  rw [Tryz.ntmps65]
  unfold f_ref05_Asm_find at h
  refine AW.seq ?_
  refine AW.reg ?_
  refine Lp (V_asg rfl rfl) rfl rfl ?_
  refine Lnil ?_
  refine thenN ?_
  refine AW.seqJ (fun fr σ => FrLe [] fr ∧ j1_ref05_Asm_find B ro Q σ) ?_ ?_
  · rintro fr σ ⟨hl, h⟩
    refine AW.weaken ?_ hl (HLe.refl _)
    unfold j1_ref05_Asm_find at h
    refine AW.seq ?_
    refine AW.reg ?_
    refine Lp (V_asg rfl rfl) rfl rfl ?_
    refine Lnil ?_
    refine thenN ?_
    refine AW.ret ?_
    exact bR1 Tryz.results65 rfl ⟨_, rfl, h⟩
  refine AW.seq ?_
  refine AW.reg ?_
  refine Lp (V_asg rfl rfl) rfl rfl ?_
  refine Lnil ?_
  refine thenN ?_
  refine AW.block ?_
  refine ARound.loop (fr' := [(0, .pointer a0), (1, .int .i64 a1), (5, .int .i64 0)]) ?_ (FrLe.cons rfl (FrLe.cons rfl (FrLe.cons rfl (FrLe.nil _))))
  refine h (fun x5_3 σ => ARound _ _ _ _ _ _ [(0, .pointer a0), (1, .int .i64 a1), (5, .int .i64 x5_3)] σ) ?_
  rintro x5_3 σ Y2 hY2 h
  show AW _ _ _ _ _ _ _ _
  unfold l2_ref05_Asm_find at h
  refine AW.seq ?_
  refine AW.seq ?_
  refine AW.reg ?_
  refine Lp (V_move rfl rfl) rfl rfl ?_
  refine Lp (V_move rfl rfl) rfl rfl ?_
  obtain ⟨p8_4, hc, h⟩ := h
  refine Lp (V_nil rfl (by rw [← hc]; rfl)) rfl rfl ?_
  refine Lp (V_fld rfl Tryz.underlying56 rfl ty54 (by decide) rfl) rfl rfl ?_
  obtain ⟨x10_5, hc, h⟩ := h
  refine Ls rfl rfl (X_ld rfl Tryz.underlying54 rfl rfl hc ?_)
  refine Lp (V_lenL rfl rfl Tryz.underlying54 rfl rfl) rfl rfl ?_
  refine Lp (V_lss rfl rfl rfl) rfl rfl ?_
  refine Lnil ?_
  refine thenN ?_
  refine AW.iff rfl decide_eq_true_iff h (fun h => ?_) (fun h => ?_)
  rotate_left
  · refine AW.exit ?_
    refine thenE ?_
    refine thenE ?_
    refine blockE ?_
    refine thenN ?_
    exact ⟨(FrLe.nil _), h⟩
  refine AW.skip ?_
  refine thenN ?_
  refine AW.seq ?_
  refine AW.block ?_
  refine AW.seq ?_
  refine AW.reg ?_
  refine Lp (V_move rfl rfl) rfl rfl ?_
  obtain ⟨p16_6, hc, h⟩ := h
  refine Lp (V_nil rfl (by rw [← hc]; rfl)) rfl rfl ?_
  refine Lp (V_fld rfl Tryz.underlying56 rfl ty54 (by decide) rfl) rfl rfl ?_
  obtain ⟨x18_7, hc, h⟩ := h
  refine Ls rfl rfl (X_ld rfl Tryz.underlying54 rfl rfl hc ?_)
  refine Lp (V_move rfl rfl) rfl rfl ?_
  obtain ⟨p20_8, ha, h0, h1, h⟩ := h
  refine Lp (V_ixA rfl Tryz.underlying54 ty125 (ixL rfl ha) rfl h0 h1) rfl rfl ?_
  refine Lp (V_fld rfl Tryz.underlying125 rfl ty123 (by decide) rfl) rfl rfl ?_
  refine Lp (V_ixP rfl Tryz.underlying123 ty3 rfl rfl (by decide) (by decide)) rfl rfl ?_
  obtain ⟨x23_9, hc, h⟩ := h
  refine Ls rfl rfl (X_ld rfl Tryz.underlying3 rfl rfl hc ?_)
  refine Lp (V_move rfl rfl) rfl rfl ?_
  refine Lp (V_eql rfl rfl rfl) rfl rfl ?_
  refine Lnil ?_
  refine thenN ?_
  refine AW.iff rfl decide_eq_true_iff h (fun h => ?_) (fun h => ?_)
  · refine AW.seq ?_
    refine AW.reg ?_
    refine Lp (V_move rfl rfl) rfl rfl ?_
    refine Lp (V_asg rfl rfl) rfl rfl ?_
    refine Lnil ?_
    refine thenN ?_
    refine AW.ret ?_
    refine blockR ?_
    refine thenR ?_
    refine thenR ?_
    refine blockR ?_
    refine thenR ?_
    exact bR1 Tryz.results65 rfl ⟨_, rfl, h⟩
  refine AW.skip ?_
  refine blockN ?_
  refine thenN ?_
  refine AW.reg ?_
  refine Lp (V_move rfl rfl) rfl rfl ?_
  refine Lp (V_add rfl rfl rfl) rfl rfl ?_
  refine Lp (V_asg rfl rfl) rfl rfl ?_
  refine Lnil ?_
  refine thenN ?_
  refine ARound.head (fr' := [(0, .pointer a0), (1, .int .i64 a1), (5, .int .i64 (IntKind.i64.wrap (x5_3 + 1)))]) ?_ (FrLe.cons rfl (FrLe.cons rfl (FrLe.cons rfl (FrLe.nil _))))
  exact hY2 _ _ h

end Go.Proofs.YtfobjidchipdaaaGreatDoor.G

/- The document's chunks put together: how they lie in memory; find, Missing. -/
namespace Go.Proofs.YtfobjidchipdaaaGreatDoor.SL
open Go
theorem RowW.outR {tag : Nat → Nat} {σ : AH} {L : List Nat} {r : Nat} {e : TypeId} {w : Nat} {s : Sl} {l : List (List Value)} (h : RowW tag σ r e w s l) (hr : r ∉ L) : RowW tag (SL.outR tag L σ) r e w s l := by
  rcases h with h | ⟨b, cs, ha, ht, hs, hx⟩
  · exact .inl h
  · exact .inr ⟨b, cs, ha, ht, by unfold SL.outR; rw [if_neg (by rw [ht]; exact hr)]; exact hs, hx⟩
theorem RowW.keepS {ro σ σ' : AH} {tag tag' : Nat → Nat} {C : List Nat} {r : Nat} {e : TypeId} {w : Nat} {s : Sl} {l : List (List Value)} (h : RowW tag σ r e w s l) (k : StepS C ro tag σ tag' σ') (hr : r % 64 ∉ C) : RowW tag' σ' r e w s l := by
  obtain ⟨R, h1, h2⟩ := k
  exact h.keep h2 fun m => hr (h1 _ m)
theorem RowW.backR {tag tag1 : Nat → Nat} {σ τ : AH} {L : List Nat} {r : Nat} {e : TypeId} {w : Nat} {s : Sl} {l : List (List Value)} (h : RowW tag1 τ r e w s l) (hd : Disj (inR tag L σ) τ) : RowW (tagB tag tag1 L σ) (join (inR tag L σ) τ) r e w s l := by
  rcases h with h | ⟨b, cs, ha, ht, hs, hx⟩
  · exact .inl h
  · have hn : inR tag L σ b = none := by
      cases e : inR tag L σ b with
      | none => rfl
      | some o => have := hd b o e; rw [hs] at this; cases this
    exact .inr ⟨b, cs, ha, by rw [tagB_out hn]; exact ht, by unfold join; rw [hn]; exact hs, hx⟩
end Go.Proofs.YtfobjidchipdaaaGreatDoor.SL
namespace Go.Proofs.YtfobjidchipdaaaGreatDoor.Sn
open Go Go.Proofs.YtfobjidchipdaaaGreatDoor.SL Go.Proofs.YtfobjidchipdaaaGreatDoor.G Go.Proofs.YtfobjidchipdaaaGreatDoor.Pa Go.Proofs.YtfobjidchipdaaaGreatDoor.Wi
set_option linter.unusedSimpArgs false
set_option linter.unusedVariables false
set_option maxRecDepth 100000
variable {B : World} {ro σ σ' : AH} {tag tag' : Nat → Nat}
/-- a chunk of the document's, its cells -/
def rk (a : As) (q : Int × Sl × Str) : List Value := [Zt.vI a.number, Zt.vI a.count, Zt.vI q.1, Zt.vI a.length, Zt.vI a.sum, Sl.v q.2.1]
/-- what both sides know of what was put together -/
structure AsIn (a : As) : Prop where
  ok : AsOk a
  zero : a.count = 0 ↔ a.parts = []
  key : ∀ p ∈ a.parts, ∃ n : Nat, p.1 = (n : Int) ∧ n < a.count
  nd : (a.parts.map (·.1)).Nodup
theorem AsIn.new : AsIn As.new := ⟨⟨by decide, fun p h => by cases h⟩, ⟨fun _ => rfl, fun _ => rfl⟩, (fun p h => by cases h), List.nodup_nil⟩
theorem AsIn.len {a : As} (h : AsIn a) : a.parts.length ≤ a.count := by
  have h1 := sub_len (L := (List.range a.count).map fun (i : Nat) => (i : Int)) h.nd fun x hx => by
    obtain ⟨p, hp, rfl⟩ := List.mem_map.1 hx
    obtain ⟨j, e, hj⟩ := h.key p hp
    rw [e]; exact List.mem_map.2 ⟨j, List.mem_range.2 hj, rfl⟩
  rw [List.length_map, List.length_map, List.length_range] at h1
  exact h1
structure RAt (tag : Nat → Nat) (σ : AH) (r T : Nat) (a : As) (s : Sl) (qs : Qs) : Prop where
  parts : a.parts = qs.map (fun q => (q.1, q.2.2))
  top : Row tag σ r 56 ⟨some ⟨T, 0, none⟩, 1, 1⟩ [Sl.v s]
  row : RowW tag σ (r + 64) 125 6 s (qs.map fun q => rk a q)
  data : ∀ q ∈ qs, Row tag σ 6 5 q.2.1 (q.2.2.map Zt.vU)
theorem RAt.keep {R : List Nat} {r T : Nat} {a : As} {s : Sl} {qs : Qs} (h : RAt tag σ r T a s qs) (k : Step R ro tag σ tag' σ') (h1 : r ∉ R) (h2 : r + 64 ∉ R) (h6 : 6 ∉ R) : RAt tag' σ' r T a s qs :=
  ⟨h.parts, h.top.keep k h1, h.row.keep k h2, fun q hq => (h.data q hq).keep k h6⟩
theorem RAt.keepS {C : List Nat} {r T : Nat} {a : As} {s : Sl} {qs : Qs} (h : RAt tag σ r T a s qs) (k : StepS C ro tag σ tag' σ') (hr : r % 64 ∉ C) (h6 : 6 ∉ C) : RAt tag' σ' r T a s qs := by
  obtain ⟨R, h1, h2⟩ := k
  refine h.keep h2 (fun m => hr (h1 _ m)) (fun m => hr ?_) (fun m => h6 (h1 _ m))
  have := h1 _ m
  rwa [Nat.add_mod_right] at this
/-- the same, to be read -/
structure Lst (ro σ : AH) (T : Nat) (a : As) (s : Sl) (qs : Qs) : Prop where
  top : acell ro σ ⟨T, 0, none⟩ = some (Sl.v s)
  len : s.len = qs.length
  cell : ∀ (j : Nat) (q : Int × Sl × Str), qs[j]? = some q → ∃ b, s.a = some ⟨b, 0, none⟩ ∧ ∀ (i : Nat) (v : Value), (rk a q)[i]? = some v → acell ro σ ⟨b, j * 6 + i, none⟩ = some v
theorem Lst.lent {T : Nat} {a : As} {s : Sl} {qs : Qs} {L : List Nat} (h : Lst ro σ T a s qs) (hs : SL.Sep ro σ) : Lst (join ro (inR tag L σ)) (outR tag L σ) T a s qs := by
  refine ⟨by rw [acell_lentR hs]; exact h.top, h.len, fun j q hq => ?_⟩
  obtain ⟨b, hb, hc⟩ := h.cell j q hq
  exact ⟨b, hb, fun i v hv => by rw [acell_lentR hs]; exact hc i v hv⟩
theorem Lst.at {T : Nat} {a : As} {s : Sl} {qs : Qs} (h : Lst ro σ T a s qs) {j : Nat} {q : Int × Sl × Str} (hq : qs[j]? = some q) {p : Addr} (hp : s.a = some p) {i : Nat} {v : Value} (hv : (rk a q)[i]? = some v) : acell ro σ ((p.add (j * 6)).add i) = some v := by
  obtain ⟨b, hb, hc⟩ := h.cell j q hq
  rw [hp] at hb; cases hb
  have := hc i v hv
  rw [add_add, add_add, Nat.zero_add]; exact this
theorem Lst.ptr {T : Nat} {a : As} {s : Sl} {qs : Qs} (h : Lst ro σ T a s qs) {j : Nat} (hj : j < qs.length) : ∃ p, s.a = some p := by
  obtain ⟨b, hb, _⟩ := h.cell j _ (List.getElem?_eq_getElem hj)
  exact ⟨_, hb⟩
theorem find_ok {T : Nat} {a : As} {s : Sl} {qs : Qs} {x : Int} {Q : Int → AH → Prop} (h : Lst ro σ T a s qs) (hl : qs.length ≤ 4294967296)
    (hno : (∀ q ∈ qs, q.1 ≠ x) → Q (-1) σ) (hyes : ∀ (i : Nat) (q : Int × Sl × Str), qs[i]? = some q → q.1 = x → Q (i : Nat) σ) : c_ref05_Asm_find B ro (some ⟨T, 0, none⟩) x σ Q := by
  refine ref05_Asm_find_ok fun hs => ?_
  unfold f_ref05_Asm_find
  have hsl := h.len
  suffices ∀ m j, j + m = qs.length → (∀ (i : Nat) (q : Int × Sl × Str), i < j → qs[i]? = some q → q.1 ≠ x) → lfpD (l2_ref05_Asm_find B ro (some ⟨T, 0, none⟩) x Q) (j : Int) σ from this _ 0 (Nat.zero_add _) (fun i q h => by omega)
  intro m
  induction m with
  | zero =>
    intro j hj hall
    refine lfpD.intro ?_
    unfold l2_ref05_Asm_find
    refine ⟨_, rfl, s, h.top, ?_⟩
    rw [if_neg (by omega)]
    unfold j1_ref05_Asm_find
    refine hno fun q hq => ?_
    obtain ⟨i, hi, rfl⟩ := List.mem_iff_getElem.1 hq
    exact hall i _ (by omega) (List.getElem?_eq_getElem hi)
  | succ m ih =>
    intro j hj hall
    have hjl : j < qs.length := by omega
    obtain ⟨p, hp⟩ := h.ptr hjl
    have hq := List.getElem?_eq_getElem hjl
    generalize qs[j] = q at hq
    refine lfpD.intro ?_
    unfold l2_ref05_Asm_find
    refine ⟨_, rfl, s, h.top, ?_⟩
    rw [if_pos (by omega)]
    refine ⟨_, rfl, s, h.top, p, hp, by omega, by omega, q.1, ?_, ?_⟩
    · rw [Int.toNat_natCast]; exact h.at hq hp (i := 2) rfl
    by_cases c : q.1 = x
    · rw [if_pos c]; exact hyes j q hq c
    · rw [if_neg c, Pa.inc j (by omega)]
      refine ih (j + 1) (by omega) fun i q' hi hq' => ?_
      rcases Nat.lt_or_ge i j with h1 | h1
      · exact hall i q' h1 hq'
      · obtain rfl : i = j := by omega
        rw [hq] at hq'; cases hq'; exact c
end Go.Proofs.YtfobjidchipdaaaGreatDoor.Sn

/- The document's chunks put together: Done. -/
namespace Go.Proofs.YtfobjidchipdaaaGreatDoor.SL
open Go
variable {ro σ σ' : AH} {tag tag' : Nat → Nat}
theorem Row.cellsAt {r : Nat} {e : TypeId} {b n c : Nat} {l : List Value} (h : Row tag σ r e ⟨some ⟨b, 0, none⟩, n, c⟩ l) (hs : Sep ro σ) : SL.cellsAt ro σ ⟨b, 0, none⟩ 0 l := by
  rcases Nat.eq_zero_or_pos l.length with h0 | h0
  · rw [List.eq_nil_of_length_eq_zero h0]; trivial
  · obtain ⟨p, hp, hg⟩ := h.ptr hs h0
    cases hp
    exact cellsAt_of 0 fun i v hv => by rw [Nat.zero_add]; have := hg i v hv; rwa [Nat.mul_one] at this
theorem RowW.lendR {L : List Nat} {r : Nat} {e : TypeId} {w : Nat} {s : Sl} {l : List (List Value)} {τ : AH} (h : RowW tag σ r e w s l) (hs : Sep ro σ) (hr : r ∈ L) {j : Nat} {x : List Value} (hj : l[j]? = some x) :
    ∃ b, s.a = some ⟨b, 0, none⟩ ∧ ∀ i v, x[i]? = some v → acell (join ro (inR tag L σ)) τ ⟨b, j * w + i, none⟩ = some v := by
  rcases h with ⟨_, rfl⟩ | ⟨b, cs, ha, ht, hb, hln, hc, hle, hw, hg⟩
  · cases hj
  · refine ⟨b, ha, fun i v hv => ?_⟩
    have hx : x.length = w := hw x (List.mem_of_getElem? hj)
    have hi : i < w := by
      rcases Nat.lt_or_ge i w with h | h
      · exact h
      · rw [List.getElem?_eq_none (by omega)] at hv; cases hv
    have := hg (j * w + i) v (by rw [flat_get hw hj hi]; exact hv)
    have hj : join ro (inR tag L σ) b = some (.cells cs e) := by unfold join inR; rw [hs b _ hb]; simp [ht, hr, hb]
    unfold acell rd
    simp only [hj, cellOf]
    exact this
end Go.Proofs.YtfobjidchipdaaaGreatDoor.SL
namespace Go.Proofs.YtfobjidchipdaaaGreatDoor.Sn
open Go Go.Proofs.YtfobjidchipdaaaGreatDoor.SL Go.Proofs.YtfobjidchipdaaaGreatDoor.G Go.Proofs.YtfobjidchipdaaaGreatDoor.Pa Go.Proofs.YtfobjidchipdaaaGreatDoor.Wi
set_option linter.unusedSimpArgs false
set_option linter.unusedVariables false
set_option maxRecDepth 100000
variable {B : World} {ro σ σ' : AH} {tag tag' : Nat → Nat}
theorem RAt.lend {r T : Nat} {a : As} {s : Sl} {qs : Qs} {τ : AH} (h : RAt tag σ r T a s qs) (hs : SL.Sep ro σ) : Lst (join ro (inR tag [r, r + 64] σ)) τ T a s qs := by
  refine ⟨?_, by rw [h.row.len, List.length_map], fun j q hq => ?_⟩
  · have := h.top.lendR (L := [r, r + 64]) (τ := τ) (p := ⟨T, 0, none⟩) (i := 0) hs (by simp) rfl rfl
    rwa [add_zero] at this
  · exact h.row.lendR hs (by simp) (by rw [List.getElem?_map, hq]; rfl)
/-- all are there -/
theorem AsIn.full {a : As} (h : AsIn a) (hf : a.count ≤ a.parts.length) {i : Nat} (hi : i < a.count) : (i : Int) ∈ a.parts.map (·.1) := by
  refine Classical.byContradiction fun hn => ?_
  have := sub_len (L := ((List.range a.count).map fun (i : Nat) => (i : Int)).erase (i : Int)) h.nd fun x hx => by
    obtain ⟨p, hp, rfl⟩ := List.mem_map.1 hx
    obtain ⟨j, e, hj⟩ := h.key p hp
    refine (List.mem_erase_of_ne fun e2 => hn ?_).2 (by rw [e]; exact List.mem_map.2 ⟨j, List.mem_range.2 hj, rfl⟩)
    rw [← e2]; exact hx
  rw [List.length_erase_of_mem (List.mem_map.2 ⟨i, List.mem_range.2 hi, rfl⟩), List.length_map, List.length_map, List.length_range] at this
  omega
end Go.Proofs.YtfobjidchipdaaaGreatDoor.Sn

/- The document's chunks put together: Add. -/
namespace Go.Proofs.YtfobjidchipdaaaGreatDoor.Sn
open Go Go.Proofs.YtfobjidchipdaaaGreatDoor.SL Go.Proofs.YtfobjidchipdaaaGreatDoor.G Go.Proofs.YtfobjidchipdaaaGreatDoor.Pa Go.Proofs.YtfobjidchipdaaaGreatDoor.Wi
set_option linter.unusedSimpArgs false
set_option linter.unusedVariables false
set_option maxRecDepth 100000
variable {B : World} {ro σ σ' : AH} {tag tag' : Nat → Nat}
/-- what Add makes, as the document says it -/
theorem AsIn.add {a : As} {b : Str} (h : AsIn a) : AsIn (asAdd1 a b).1 := by
  have hok := AsOk.add (b := b) h.ok
  unfold asAdd1 at hok ⊢
  by_cases c1 : ckOk b = true
  rotate_left
  · rw [if_neg c1]; exact h
  rw [if_pos c1] at hok ⊢
  obtain ⟨k1, k2, k3, k4, k5⟩ := ckOk_fits c1
  by_cases c0 : a.count = 0
  · have hp := h.zero.1 c0
    have hf : (a.begin (ckOf b)).fits (ckOf b) = true := by
      unfold As.begin As.fits; rw [if_pos c0]; simp [hp]
    rw [if_pos hf] at hok ⊢
    have e1 : (a.begin (ckOf b)).parts = [] := by unfold As.begin; rw [if_pos c0]; exact hp
    have e2 : (a.begin (ckOf b)).count = (ckOf b).count := by unfold As.begin; rw [if_pos c0]
    rw [e1]
    refine ⟨by rw [e1] at hok; exact hok, ⟨fun e => ?_, fun e => by cases e⟩, fun p hp => ?_, by simp [qput]⟩
    · simp only [e2] at e; omega
    · rw [List.mem_singleton.1 hp]; exact ⟨_, rfl, by simp only [e2]; exact k3⟩
  · have hb : a.begin (ckOf b) = a := by unfold As.begin; rw [if_neg c0]
    rw [hb] at hok ⊢
    by_cases hf : a.fits (ckOf b) = true
    · rw [if_pos hf] at hok ⊢
      have hcnt : (ckOf b).count = a.count := by
        unfold As.fits at hf
        simp only [Bool.and_eq_true, decide_eq_true_eq] at hf
        exact hf.2.1
      refine ⟨hok, ⟨fun e => absurd e c0, fun e => ?_⟩, fun p hp => ?_, ?_⟩
      · simp only at e
        rcases qput_keys a.parts ((ckOf b).at' : Int) (ckOf b).part with ⟨hk, hm⟩ | ⟨hk, hm⟩
        · rw [e] at hk; rw [← hk] at hm; cases hm
        · rw [e] at hk; simp at hk
      · rcases qmem_put hp with rfl | hp
        · exact ⟨_, rfl, by simp only; omega⟩
        · exact h.key p hp
      · show ((qput a.parts ((ckOf b).at' : Int) (ckOf b).part).map (·.1)).Nodup
        rcases qput_keys a.parts ((ckOf b).at' : Int) (ckOf b).part with ⟨hk, hm⟩ | ⟨hk, hm⟩
        · rw [hk]; exact h.nd
        · rw [hk, List.nodup_append]
          exact ⟨h.nd, by simp, fun x hx y hy e => hm (by rw [List.mem_singleton.1 hy] at e; rw [← e]; exact hx)⟩
    · rw [if_neg hf]; exact h
end Go.Proofs.YtfobjidchipdaaaGreatDoor.Sn

/- SnapChunks, the walk. -/
namespace Go.Proofs.YtfobjidchipdaaaGreatDoor.SL
open Go
variable {ro σ σ' : AH} {tag tag' : Nat → Nat}
theorem MapN.backR {L : List Nat} {tag1 : Nat → Nat} {τ : AH} {r b : Nat} {m : KVn} (h : MapN tag1 τ r b m) (hd : Disj (inR tag L σ) τ) : MapN (tagB tag tag1 L σ) (join (inR tag L σ) τ) r b m := by
  obtain ⟨es, clock, hb, x⟩ := h.obj
  have hn : inR tag L σ b = none := by
    cases e : inR tag L σ b with
    | none => rfl
    | some o => have := hd b o e; rw [hb] at this; cases this
  exact ⟨by rw [tagB_out hn]; exact h.tg, es, clock, by unfold join; rw [hn]; exact hb, x⟩
end Go.Proofs.YtfobjidchipdaaaGreatDoor.SL
namespace Go.Proofs.YtfobjidchipdaaaGreatDoor.Sn
open Go Go.Proofs.YtfobjidchipdaaaGreatDoor.SL Go.Proofs.YtfobjidchipdaaaGreatDoor.G Go.Proofs.YtfobjidchipdaaaGreatDoor.Pa Go.Proofs.YtfobjidchipdaaaGreatDoor.Wi
set_option linter.unusedSimpArgs false
set_option linter.unusedVariables false
set_option maxRecDepth 100000
variable {B : World} {ro σ σ' : AH} {tag tag' : Nat → Nat}
theorem AsAt.outR {L : List Nat} {r T M : Nat} {a : As} (h : AsAt tag σ r T M a) (h1 : r ∉ L) (h2 : r + 64 ∉ L) (h6 : 6 ∉ L) : AsAt tag (SL.outR tag L σ) r T M a := by
  obtain ⟨c, qs, e, m, d⟩ := h
  exact ⟨c.outR h1, qs, e, m.outR h2, fun q hq => (d q hq).outR h6⟩
theorem AsAt.backR {L : List Nat} {tag1 : Nat → Nat} {τ : AH} {r T M : Nat} {a : As} (h : AsAt tag1 τ r T M a) (hd : Disj (inR tag L σ) τ) : AsAt (tagB tag tag1 L σ) (join (inR tag L σ) τ) r T M a := by
  obtain ⟨c, qs, e, m, d⟩ := h
  exact ⟨c.backR hd, qs, e, m.backR hd, fun q hq => (d q hq).backR hd⟩
/-- the chunks that the law is given -/
def Given (ro : AH) (cs : List (Sl × Str)) : Prop := ∀ x ∈ cs, SL.Read ro (fun _ => none) x.1 (x.2.map Zt.vU) ∧ x.1.len ≤ x.1.cap ∧ x.2.length ≤ 140737488355328
end Go.Proofs.YtfobjidchipdaaaGreatDoor.Sn

/- Arguments opened: lists of lists of bytes. -/
namespace Go.Proofs.YtfobjidchipdaaaGreatDoor.Zt
open Go Go.Proofs.YtfobjidchipdaaaGreatDoor.SL Go.ChangeShapes Go.WideShapes Go.ChangeAt Go.RowKit
set_option linter.unusedVariables false
set_option linter.unusedSimpArgs false
theorem u44' : Tryz.prog.underlying 44 = some (.slice 22) := by kernel_rfl
theorem c44 : Tryz.prog.cellsOf 44 = 1 := by kernel_rfl
theorem b22 : Tryz.prog.bytesOf 22 = 24 := by kernel_rfl
theorem bytesC_of {W : World} {H : Type} {enc : TypeId × Value → H} {a : Option Addr} {len cap : Nat} (h : SL.Arg Tryz.prog W H enc 22 [.slice a len cap]) : ∃ d : Str, d.length ≤ 140737488351232 ∧ SL.Read (all W) (fun _ => none) ⟨a, len, cap⟩ (d.map vU) ∧ len ≤ cap := by
  obtain ⟨d, h1, h2, h3⟩ := cells_of (f := vU) 0 u30 c5 b5 (fun u hu => hu.u8 u5) h
  exact ⟨d, by omega, h2, h3⟩
/-- a list of lists of bytes -/
theorem lists_of {W : World} {H : Type} {enc : TypeId × Value → H} {a : Option Addr} {len cap : Nat} (h : SL.Arg Tryz.prog W H enc 44 [.slice a len cap]) :
    ∃ ks : List (Sl × Str), ks.length ≤ 5864062014805 ∧ SL.Read (all W) (fun _ => none) ⟨a, len, cap⟩ ((ks.map (·.1)).map Sl.v) ∧ Sn.Given (all W) ks := by
  rcases h.slice u44' with ⟨rfl, rfl, rfl⟩ | ⟨x, rfl, hl, hbb, hel⟩
  · exact ⟨[], by simp, ⟨rfl, fun _ => rfl, fun p h => by cases h⟩, fun x h => by cases h⟩
  · rw [c22] at hel
    rw [b22] at hbb
    have key : ∀ j : Nat, ∃ c : Sl × Str, j < len → W.cell? (x.add j) = some (Sl.v c.1) ∧ SL.Read (all W) (fun _ => none) c.1 (c.2.map vU) ∧ c.1.len ≤ c.1.cap ∧ c.2.length ≤ 140737488355328 := fun j => by
      by_cases hj : j < len
      · obtain ⟨cs, h1, h2, h3⟩ := hel j hj
        match cs, h1 with
        | [u], _ =>
          obtain ⟨p1, l1, k1, rfl⟩ := sl_of u30 h3
          obtain ⟨d1, e1, g1, f1⟩ := bytesC_of h3
          have := h2 0 (by omega)
          rw [Nat.mul_one, add_zero] at this
          exact ⟨(⟨p1, l1, k1⟩, d1), fun _ => ⟨this, g1, f1, Nat.le_trans e1 (by decide)⟩⟩
      · exact ⟨(⟨none, 0, 0⟩, []), fun h => absurd h hj⟩
    obtain ⟨g, hg⟩ := Classical.axiomOfChoice key
    refine ⟨(List.range len).map g, ?_, ⟨by simp, (fun h => by cases h), fun p hp i v hv => ?_⟩, fun c hc => ?_⟩
    · simp [reachBytes] at hbb ⊢
      omega
    · cases hp
      have hi : i < len := by
        rcases Nat.lt_or_ge i len with h | h
        · exact h
        · rw [List.getElem?_eq_none (by simpa using h)] at hv; cases hv
      rw [List.getElem?_map, List.getElem?_map, List.getElem?_map, List.getElem?_range hi] at hv
      cases hv
      exact all_cell _ (hg i hi).1
    · obtain ⟨i, hi, rfl⟩ := List.mem_map.1 hc
      exact (hg i (List.mem_range.1 hi)).2
end Go.Proofs.YtfobjidchipdaaaGreatDoor.Zt

/- The bulk of a slice within a struct. -/
namespace Go.Proofs.YtfobjidchipdaaaGreatDoor.SL
open Go
theorem upto_field {H : Type} {enc : TypeId × Value → H} {P : Program} {W : World} {t : TypeId} {fs : Array Field} {cs : List Value} {fuel n : Nat} {d : DataW H} {ps : List MemPlace} (ht : P.underlying t = some (.struct fs))
    (hf : DataW.trod enc P W 0 (fun _ => true) true fuel t cs = some (d, ps)) (hb : Rows.uptoBulk d ≤ n) {i : Nat} {f : Field} (hi : fs.toList[i]? = some f) :
    ∃ fuel' d' ps', DataW.trod enc P W 0 (fun _ => true) true fuel' f.type ((cs.drop f.offset).take (P.cellsOf f.type)) = some (d', ps') ∧ Rows.uptoBulk d' ≤ n := by
  cases fuel with
  | zero => cases hf
  | succ m =>
    unfold DataW.trod at hf
    rw [ht] at hf
    simp only at hf
    split at hf
    · obtain ⟨r, hr, hd⟩ := Option.map_eq_some_iff.1 hf
      have h1 := mapM_some_get hr i f hi
      have h2 := mapM_some_length hr
      have hil : i < fs.toList.length := by
        rcases Nat.lt_or_ge i fs.toList.length with h' | h'
        · exact h'
        · rw [List.getElem?_eq_none h'] at hi; cases hi
      rw [List.getElem?_eq_getElem (by omega)] at h1
      simp only [Prod.mk.injEq] at hd
      rw [← hd.1] at hb
      simp only [Rows.uptoBulk] at hb
      have := bulkAll_get (l := r.map (·.1)) (i := i) (d := r[i].1) (by rw [List.getElem?_map, List.getElem?_eq_getElem (by omega)]; rfl)
      exact ⟨m, r[i].1, r[i].2, h1, by omega⟩
    · cases hf
end Go.Proofs.YtfobjidchipdaaaGreatDoor.SL
namespace Go.Proofs.YtfobjidchipdaaaGreatDoor.Zt
open Go Go.Proofs.YtfobjidchipdaaaGreatDoor.SL Go.Proofs.YtfobjidchipdaaaGreatDoor.Pa
theorem upto_fld {H : Type} {enc : TypeId × Value → H} {W : World} {t e t' : TypeId} {o : Nat} {L : List (TypeId × Nat)} {cs : List Value} {fuel n i : Nat} {d : DataW H} {ps : List MemPlace} {s : Sl} (hu : ∃ fs, Tryz.prog.underlying t = some (.struct fs) ∧ fs.toList.map (fun f : Field => (f.type, f.offset)) = L)
    (hf : DataW.trod enc Tryz.prog W 0 (fun _ => true) true fuel t cs = some (d, ps)) (hb : Rows.uptoBulk d ≤ n) (hi : L[i]? = some (t', o)) (ht : Tryz.prog.underlying t' = some (.slice e)) (hcs : (cs.drop o).take (Tryz.prog.cellsOf t') = [Sl.v s]) : s.len ≤ n := by
  obtain ⟨fs, hu, hfs⟩ := hu
  rw [← hfs, List.getElem?_map] at hi
  obtain ⟨f, hf', e⟩ := Option.map_eq_some_iff.1 hi
  simp only [Prod.mk.injEq] at e
  obtain ⟨m, d', ps', h1, h2⟩ := upto_field hu hf hb hf'
  rw [e.1, e.2, hcs] at h1
  exact upto_len ht h1 h2
end Go.Proofs.YtfobjidchipdaaaGreatDoor.Zt

/- Logs, pure: names, segments, the files of a log. -/
namespace Go.Proofs.YtfobjidchipdaaaGreatDoor.Wl
open Go Go.Proofs.YtfobjidchipdaaaGreatDoor.SL Go.Proofs.YtfobjidchipdaaaGreatDoor.Wi Go.Proofs.YtfobjidchipdaaaGreatDoor.Dk
set_option linter.unusedSimpArgs false
set_option linter.unusedVariables false
set_option maxRecDepth 100000
/-! names -/
def dg (k : Nat) : UInt8 := UInt8.ofNat (48 + k % 10)
def d6 (n : Nat) : Str := [48, 48, dg (n / 1000), dg (n / 100), dg (n / 10), dg n]
def logN : Str := [108, 111, 103]
def fname (n : Nat) : Str := [108, 111, 103, 46] ++ d6 n
def cutN : Str := [108, 111, 103, 46, 99, 117, 116]
theorem d6_of {n : Nat} (h : n < 10000) : List.replicate (6 - (Lib.decDigits n).length) 48 ++ Lib.decDigits n = d6 n := by
  have one : ∀ k, k < 10 → Lib.decDigits k = [dg k] := fun k hk => by rw [Lib.decDigits, dif_pos hk]; unfold dg; rw [Nat.mod_eq_of_lt hk]
  have more : ∀ k, ¬ k < 10 → Lib.decDigits k = Lib.decDigits (k / 10) ++ [dg k] := fun k hk => by rw [Lib.decDigits, dif_neg hk]; rfl
  have z : ∀ k, k % 10 = 0 → dg k = 48 := fun k hk => by unfold dg; rw [hk]; rfl
  by_cases h1 : n < 10
  · rw [one n h1]
    unfold d6
    rw [z (n / 1000) (by omega), z (n / 100) (by omega), z (n / 10) (by omega)]; rfl
  rw [more n h1]
  by_cases h2 : n / 10 < 10
  · rw [one _ h2]
    unfold d6
    rw [z (n / 1000) (by omega), z (n / 100) (by omega)]; rfl
  rw [more _ h2]
  by_cases h3 : n / 10 / 10 < 10
  · rw [one _ h3, show n / 10 / 10 = n / 100 by omega]
    unfold d6
    rw [z (n / 1000) (by omega)]; rfl
  rw [more _ h3, one _ (by omega), show n / 10 / 10 / 10 = n / 1000 by omega, show n / 10 / 10 = n / 100 by omega]
  rfl
theorem fname_facts : ∀ n, n < 1003 → dName (fname n) = true ∧ Lib.trimS (d6 n) [48, 49, 50, 51, 52, 53, 54, 55, 56, 57] = [] ∧ Lib.atoi (d6 n) = some (n : Int) ∧ fname n < fname (n + 1) := by decide +kernel
theorem dName_f {n : Nat} (h : n < 1003) : dName (fname n) = true := (fname_facts n h).1
theorem fname_len (n : Nat) : (fname n).length = 10 := rfl
theorem fname_lt {a b : Nat} (h : a < b) (hb : b < 1003) : fname a < fname b := by
  obtain ⟨k, rfl⟩ : ∃ k, b = a + 1 + k := ⟨b - (a + 1), by omega⟩
  clear h
  induction k with
  | zero => exact (fname_facts a (by omega)).2.2.2
  | succ k ih => exact List.lt_trans (ih (by omega)) (fname_facts (a + 1 + k) (by omega)).2.2.2
theorem fname_inj {a b : Nat} (ha : a < 1003) (hb : b < 1003) (h : fname a = fname b) : a = b := by
  rcases Nat.lt_trichotomy a b with c | c | c
  · have := fname_lt c hb; rw [h] at this; exact absurd this (List.lt_irrefl _)
  · exact c
  · have := fname_lt c ha; rw [h] at this; exact absurd this (List.lt_irrefl _)
theorem fname_cut (n : Nat) : fname n ≠ cutN := fun h => by have := congrArg List.length h; cases this
/-! segments -/
structure Seg where
  number : Nat
  first : Nat
  recs : List Str
def headOf (f : Nat) : Str := frame (vput f)
def Seg.bytes (g : Seg) : Str := headOf g.first ++ g.recs.flatMap frame
def Seg.next (g : Seg) : Nat := g.first + g.recs.length
/-- segments follow one another: numbers and indexes -/
def Chain : Nat → Nat → List Seg → Prop
  | _, _, [] => True
  | n, f, g :: r => g.number = n ∧ g.first = f ∧ Chain (n + 1) g.next r
theorem chain_cons {n f : Nat} {g : Seg} {r : List Seg} : Chain n f (g :: r) ↔ g.number = n ∧ g.first = f ∧ Chain (n + 1) g.next r := Iff.rfl
def recsOf (gs : List Seg) : List Str := gs.flatMap (·.recs)
def nextOf (gs : List Seg) : Nat := match gs.getLast? with | some g => g.next | none => 0
theorem chain_append : ∀ {gs : List Seg} {n f : Nat} {hs : List Seg}, Chain n f (gs ++ hs) ↔ Chain n f gs ∧ Chain (n + gs.length) (f + (recsOf gs).length) hs := by
  intro gs
  induction gs with
  | nil => intro n f hs; unfold recsOf; simp [Chain]
  | cons g r ih =>
    intro n f hs
    rw [List.cons_append, chain_cons, chain_cons, ih]
    constructor
    · rintro ⟨h1, h2, h4, h5⟩
      refine ⟨⟨h1, h2, h4⟩, ?_⟩
      unfold Seg.next at h5
      unfold recsOf at h5 ⊢
      rw [List.flatMap_cons, List.length_append, List.length_cons, ← h2]
      rw [show n + (r.length + 1) = n + 1 + r.length by omega, show g.first + (g.recs.length + (r.flatMap (·.recs)).length) = g.first + g.recs.length + (r.flatMap (·.recs)).length by omega]
      exact h5
    · rintro ⟨⟨h1, h2, h4⟩, h5⟩
      refine ⟨h1, h2, h4, ?_⟩
      unfold Seg.next
      unfold recsOf at h5 ⊢
      rw [List.flatMap_cons, List.length_append, List.length_cons, ← h2] at h5
      rw [show n + (r.length + 1) = n + 1 + r.length by omega, show g.first + (g.recs.length + (r.flatMap (·.recs)).length) = g.first + g.recs.length + (r.flatMap (·.recs)).length by omega] at h5
      exact h5
theorem chain_next {gs : List Seg} {n f : Nat} (h : Chain n f gs) (hne : gs ≠ []) : nextOf gs = f + (recsOf gs).length := by
  unfold nextOf
  obtain ⟨hs, g, rfl⟩ : ∃ hs g, gs = hs ++ [g] := ⟨gs.dropLast, gs.getLast hne, (List.dropLast_concat_getLast hne).symm⟩
  rw [List.getLast?_append]
  obtain ⟨_, h2, h3, _⟩ := chain_append.1 h
  show g.next = _
  unfold Seg.next recsOf at *
  rw [List.flatMap_append, List.length_append, h3]
  simp; omega
theorem chain_len : ∀ {gs : List Seg}, (∀ g ∈ gs, g.recs ≠ []) → gs.length ≤ (recsOf gs).length := by
  intro gs
  induction gs with
  | nil => intro _; simp
  | cons g r ih =>
    intro h
    have := ih fun x hx => h x (List.mem_cons_of_mem _ hx)
    have := List.length_pos_iff.2 (h g List.mem_cons_self)
    unfold recsOf at *
    rw [List.flatMap_cons, List.length_append, List.length_cons]; omega
theorem chain_get : ∀ {gs : List Seg} {n f i : Nat} {g : Seg}, Chain n f gs → gs[i]? = some g → g.number = n + i ∧ f ≤ g.first ∧ g.first + g.recs.length ≤ f + (recsOf gs).length ∧ ∀ j, j < g.recs.length → (recsOf gs)[g.first - f + j]? = g.recs[j]? := by
  intro gs
  induction gs with
  | nil => intro n f i g _ h; cases h
  | cons x r ih =>
    intro n f i g h hg
    obtain ⟨h1, h2, h4⟩ := h
    have hf : recsOf (x :: r) = x.recs ++ recsOf r := by unfold recsOf; rw [List.flatMap_cons]
    rw [hf, List.length_append]
    cases i with
    | zero =>
      cases hg
      refine ⟨by omega, by omega, by omega, fun j hj => ?_⟩
      rw [h2, Nat.sub_self, Nat.zero_add, List.getElem?_append_left hj]
    | succ i =>
      obtain ⟨a1, a2, a3, a4⟩ := ih h4 hg
      unfold Seg.next at a2 a3 a4
      refine ⟨by omega, by omega, by omega, fun j hj => ?_⟩
      have := a4 j hj
      rw [List.getElem?_append_right (by omega), ← this]
      congr 1; omega
/-- what segments' files hold, the first bytes of which are safe -/
def logFs (L : List (Seg × Nat)) : Fs := L.map fun x => (fname x.1.number, ⟨x.1.bytes, x.2⟩)
def segs (L : List (Seg × Nat)) : List Seg := L.map (·.1)
theorem chain_names {gs : List Seg} {n f : Nat} (h : Chain n f gs) (hb : n + gs.length ≤ 1003) : (gs.map fun g => fname g.number).Pairwise (· < ·) := by
  induction gs generalizing n f with
  | nil => exact List.Pairwise.nil
  | cons g r ih =>
    obtain ⟨h1, h2, h4⟩ := h
    rw [List.length_cons] at hb
    rw [List.map_cons, List.pairwise_cons]
    refine ⟨fun x hx => ?_, ih h4 (by omega)⟩
    obtain ⟨y, hy, rfl⟩ := List.mem_map.1 hx
    obtain ⟨i, hi, e⟩ := List.mem_iff_getElem.1 hy
    have := (chain_get h4 (i := i) (by rw [List.getElem?_eq_getElem hi, e])).1
    rw [h1, this]
    exact fname_lt (by omega) (by omega)
/-! frames cut -/
theorem unframe_short {p : Str} {m : Nat} (hp : p.length ≤ 65536) (hm : m < 8 + p.length) : (unframe ((frame p).take m)).2.2 ≠ 0 := by
  have hl : ((frame p).take m).length = m := by rw [List.length_take, frame_len]; omega
  unfold unframe
  rw [hl]
  by_cases c : m < 8
  · rw [if_pos c]; decide
  rw [if_neg c]
  have h1 : value ((frame p).take m) = p.length := by
    have e : (frame p).take m = four p.length ++ ((four (crc (four p.length ++ p)) ++ p).take (m - 4)) := by
      unfold frame
      rw [List.take_append, four_len, List.take_of_length_le (by rw [four_len]; omega)]
    rw [e]; exact value_four (by omega) _
  rw [h1, if_neg (by omega), if_pos (by omega)]; decide
theorem vput_num {f : Nat} (hf : f < 4611686018427387904) : num (vput f) = (f, (vput f).length, 0) := by
  have := num_put hf []
  rwa [List.append_nil] at this
end Go.Proofs.YtfobjidchipdaaaGreatDoor.Wl
