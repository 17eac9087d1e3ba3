/- MapL, GDk, DkB, DkC, DkE, DkF, DkD -/
import Derived.Test.YtfobjidchipdaaaGreatDoorXJ
/- A range over a map by an invariant: the pairs come in some order. Generic over any program. -/
namespace Go.Proofs.YtfobjidchipdaaaGreatDoor.SL
open Go
set_option linter.unusedSimpArgs false
set_option linter.unusedVariables false
variable {P : Program} {B : World} {ro σ σ' : AH} {tag tag' : Nat → Nat}
def kvE (e : MapEntry) : Str × Value := (match e.key with | .string s => L s | _ => [], e.val)
theorem kvE_map : ∀ {l : List MapEntry} {m : KV}, l.map entV = m.map pairV → l.map kvE = m ∧ ∀ e ∈ l, e.key = .string (S (kvE e).1) := by
  intro l
  induction l with
  | nil => intro m h; cases m with
    | nil => exact ⟨rfl, fun e h => by cases h⟩
    | cons p m => cases h
  | cons e l ih =>
    intro m h
    cases m with
    | nil => cases h
    | cons p m =>
      simp only [List.map_cons, List.cons.injEq] at h
      obtain ⟨h1, h2⟩ := h
      obtain ⟨i1, i2⟩ := ih h2
      have hk : e.key = .string (S p.1) := congrArg Prod.fst h1
      have hv : e.val = p.2 := congrArg Prod.snd h1
      have he : kvE e = p := by unfold kvE; rw [hk, hv]; simp
      refine ⟨by rw [List.map_cons, he, i1], fun x hx => ?_⟩
      rcases List.mem_cons.1 hx with rfl | hx
      · rw [he]; exact hk
      · exact i2 x hx
theorem map_loop {T : Type} {F : Addr → T → AH → (T → AH → Prop) → Prop} {t kt et ty : TypeId} {r M : Nat} {m : KV} {R : List Nat} {s0 : T} (ht : P.underlying t = some (.map kt et)) (hm : MapIs tag σ r M m) (hs : Sep ro σ) (hR : r ∉ R) (h0 : 0 ∉ R) (hr0 : r ≠ 0)
    (J : KV → T → (Nat → Nat) → AH → Prop) {E : T → AH → Prop} {G : T → Value → Value → AH → (T → AH → Prop) → Prop}
    (hF : ∀ p s σ Y, awp P ro (Instr.next (.pointer (some p)) false ty) (fun v σ => (v = .tuple #[.bool false] ∧ E s σ) ∨ (∃ (a b : Value), v = .tuple #[.bool true, a, b] ∧ awp P ro (Instr.entry (.pointer (some p))) (fun v σ => ∃ a b, v = .tuple #[a, b] ∧ G s a b σ Y) σ)) σ → F p s σ Y)
    (hJ : ∀ d s tag σ tag' σ', J d s tag σ → Step [0] ro tag σ tag' σ' → J d s tag' σ')
    (hend : ∀ d s tag σ, d.Perm m → SL.Sep ro σ → J d s tag σ → E s σ)
    (hstep : ∀ d p q s tag σ Y, (d ++ p :: q).Perm m → SL.Sep ro σ → J d s tag σ → MapIs tag σ r M m → (∀ s' tag' σ', Step R ro tag σ tag' σ' → J (d ++ [p]) s' tag' σ' → Y s' σ') → G s (.string (S p.1)) p.2 σ Y)
    (h : J [] s0 tag σ) : awp P ro (Instr.range t (.map (some M))) (fun v σ => ∃ p : Addr, v = .pointer (some p) ∧ lfpD (F p) s0 σ) σ := by
  refine awp_range_map ht hm hs fun es clock x hM hes hbn hro hx => ?_
  refine ⟨_, rfl, ?_⟩
  obtain ⟨k1, k2⟩ := kvE_map hes
  have hxM : x ≠ M := fun e => by rw [e, hM] at hx; cases hx
  suffices ∀ (n : Nat) (D rest : List MapEntry) (seen : Array Nat) (s : T) (tag1 : Nat → Nat) (σ1 : AH), rest.length = n → (D ++ rest).Perm es.toList → (∀ e ∈ D, seen.contains e.born = true) → (∀ e ∈ rest, seen.contains e.born = false) →
      SL.Sep ro σ1 → tag1 x = 0 → σ1 x = some (.mapIter (some M) clock seen clock) → tag1 M = r → σ1 M = some (.map es clock) → J (D.map kvE) s tag1 σ1 → lfpD (F ⟨x, 0, none⟩) s σ1 from by
    have st1 : Step [0] ro tag σ (setTag tag x 0) (upd σ x (.mapIter (some M) clock #[] clock)) := Step.fresh hs hro hx
    exact this _ [] es.toList #[] s0 _ _ rfl (List.Perm.refl _) (fun e h => by cases h) (fun e _ => by simp) st1.sep (by simp [setTag]) (upd_same _ _ _) (by simp [setTag, hxM.symm]; exact hm.tg) (by rw [upd_ne _ _ hxM.symm]; exact hM) (hJ _ _ _ _ _ _ h st1)
  intro n
  induction n with
  | zero =>
    intro D rest seen s tag1 σ1 hn hp hD hrest hs1 htx hit htm hmp hA
    obtain rfl := List.length_eq_zero_iff.1 hn
    rw [List.append_nil] at hp
    refine lfpD.intro (hF _ _ _ _ ?_)
    refine awp_next_map hit hmp hs1 hbn (fun hall => .inl ⟨rfl, hend _ s tag1 σ1 ?_ hs1 hA⟩) fun e he hne => ?_
    · have := hp.map kvE; rwa [k1] at this
    · have := hD e (hp.mem_iff.2 he); rw [hne] at this; cases this
  | succ n ih =>
    intro D rest seen s tag1 σ1 hn hp hD hrest hs1 htx hit htm hmp hA
    refine lfpD.intro (hF _ _ _ _ ?_)
    refine awp_next_map hit hmp hs1 hbn (fun hall => ?_) fun e he hne => ?_
    · exfalso
      cases rest with
      | nil => simp at hn
      | cons e rest =>
        have h1 := hall e (hp.mem_iff.1 (by simp))
        have h2 := hrest e (by simp)
        rw [h1] at h2; cases h2
    · refine .inr ⟨_, _, rfl, ?_⟩
      have st2 : Step [0] ro tag1 σ1 tag1 (upd σ1 x (.mapIter (some M) clock (seen.push e.born) clock)) := step_obj hs1 htx hit
      have hmp2 : upd σ1 x (.mapIter (some M) clock (seen.push e.born) clock) M = some (.map es clock) := by rw [upd_ne _ _ hxM.symm]; exact hmp
      refine awp_entry_map (upd_same _ _ _) hmp2 st2.sep hbn he ?_
      refine ⟨e.key, e.val, rfl, ?_⟩
      have hin : e ∈ rest := by
        rcases List.mem_append.1 (hp.mem_iff.2 he) with h | h
        · have := hD e h; rw [hne] at this; cases this
        · exact h
      obtain ⟨a, b, rfl⟩ := List.append_of_mem hin
      have hp2 : (D ++ e :: (a ++ b)).Perm es.toList := (List.Perm.append_left D List.perm_middle.symm).trans hp
      rw [k2 e he, show e.val = (kvE e).2 from rfl]
      have hnd : ((D ++ e :: (a ++ b)).map (·.born)).Nodup := (hp2.map _).nodup_iff.2 hbn.nd
      refine hstep (D.map kvE) (kvE e) ((a ++ b).map kvE) s tag1 _ _ ?_ st2.sep (hJ _ _ _ _ _ _ hA st2) ⟨htm, es, clock, hmp2, hes, hbn⟩ fun s' tag2 σ2 st3 hJ2 => ?_
      · have := hp2.map kvE
        rw [k1] at this
        simpa using this
      · have e1 := st3.keep x _ (upd_same _ _ _) (by rw [htx]; exact h0)
        have e2 := st3.keep M _ hmp2 (by rw [htm]; exact hR)
        refine ih (D ++ [e]) (a ++ b) (seen.push e.born) s' tag2 σ2 (by simp at hn ⊢; omega) (by simpa using hp2) (fun y hy => ?_) (fun y hy => ?_) st3.sep (e1.1.trans htx) e1.2 (e2.1.trans htm) e2.2 (by simpa using hJ2)
        · rcases List.mem_append.1 hy with h | h
          · have := hD y h; simp at this ⊢; exact .inl this
          · rw [List.mem_singleton.1 h]; simp
        · have h1 : seen.contains y.born = false := hrest y (by simp at hy ⊢; rcases hy with h | h <;> simp [h])
          have h2 : y.born ≠ e.born := by
            rw [List.map_append, List.map_cons, List.nodup_append] at hnd
            have := (List.nodup_cons.1 hnd.2.1).1
            intro hh
            exact this (by rw [← hh]; exact List.mem_map.2 ⟨y, hy, rfl⟩)
          rw [← Bool.not_eq_true] at h1 ⊢
          simp at h1 ⊢
          exact ⟨h1, h2⟩
end Go.Proofs.YtfobjidchipdaaaGreatDoor.SL

/- Functions as predicate transformers, and the proofs that the code does what they tell: printed by wip/tools/gen.py. -/
namespace Go.Proofs.YtfobjidchipdaaaGreatDoor.G
open Go Go.Proofs.YtfobjidchipdaaaGreatDoor.SL
set_option linter.unusedVariables false
set_option linter.unusedSimpArgs false

def f_disk_New (B : World) (ro : AH) (a0 : Int) (σ : AH) (Q : Option Addr → Int → AH → Prop) : Prop :=
 if (a0 < 0) ∨ (1073741824 < a0) then
  Q none 32 σ
 else
 nw ro σ (.map #[] 0) fun x10_1 σ =>
 nw ro σ (.cells #[.map (some x10_1), .int .i64 a0] 39) fun x13_2 σ =>
 Q (some ⟨x13_2, 0, none⟩) 0 σ

set_option maxRecDepth 100000 in
set_option maxHeartbeats 4000000 in
theorem disk_New_ok {B : World} {ro : AH} {a0 : Int} {σ : AH} {Q : Option Addr → Int → AH → Prop} (h : Sep ro σ → f_disk_New B ro a0 σ Q) : c_disk_New B ro a0 σ Q := by
  refine ACalls.of_sep fun hsep => ?_
  replace h := h hsep
  refine ACalls.of_body (args := [.int .i64 a0]) Tryz.func9 rfl (by rw [Tryz.ntmps9]; simp) ?_
  rw [Tryz.ntmps9]
  unfold f_disk_New at h
  refine AW.seq ?_
  refine AW.reg ?_
  refine Lp (V_asg rfl rfl) rfl rfl ?_
  refine Lp (V_asg rfl rfl) rfl rfl ?_
  refine Lnil ?_
  refine thenN ?_
  refine AW.seq ?_
  refine AW.seq ?_
  refine AW.reg ?_
  refine Lp (V_move rfl rfl) rfl rfl ?_
  refine Lp (V_lss rfl rfl rfl) rfl rfl ?_
  refine Lp (V_move rfl rfl) rfl rfl ?_
  refine Lsplit 3 (decide (a0 < 0)) [(0, .int .i64 a0), (9, .bool ((decide (a0 < 0)) || (decide (1073741824 < a0))))] ?_ ?_ ?_
  · intro e2 hk2
    refine Ln rfl rfl rfl rfl (.inl (by rw [e2]; rfl)) ?_
    refine Ln rfl rfl rfl rfl (.inl (by rw [e2]; rfl)) ?_
    refine Lp (V_pickT rfl (evb e2) rfl) rfl rfl ?_
    exact hk2 _ (FrLe.cons rfl (FrLe.cons (by rw [e2]; rfl) (FrLe.nil _)))
  · intro e2 hk2
    refine Lypb (V_move rfl rfl) rfl rfl rfl rfl e2 ?_
    refine Lypb (V_gtr rfl rfl rfl) rfl rfl rfl rfl e2 ?_
    refine Lp (V_pickF rfl (evb e2) rfl) rfl rfl ?_
    exact hk2 _ (FrLe.cons rfl (FrLe.cons (by rw [e2]; rfl) (FrLe.nil _)))
  intro fr hl
  refine Lfr hl ?_
  refine Lnil ?_
  refine thenN ?_
  refine AW.iff rfl (bor_iff decide_eq_true_iff decide_eq_true_iff) h (fun h => ?_) (fun h => ?_)
  · refine AW.seq ?_
    refine AW.reg ?_
    refine Lp (V_asg rfl rfl) rfl rfl ?_
    refine Lp (V_asg rfl rfl) rfl rfl ?_
    refine Lnil ?_
    refine thenN ?_
    refine AW.ret ?_
    refine thenR ?_
    exact bR2 Tryz.results9 rfl rfl ⟨_, _, rfl, h⟩
  refine AW.skip ?_
  refine thenN ?_
  refine AW.seq ?_
  refine AW.reg ?_
  refine Ls rfl rfl (X_new (A_map0 rfl) fun x10_1 g1 g2 => ?_)
  replace h := h x10_1 g1 g2
  refine Lp (V_move rfl rfl) rfl rfl ?_
  refine Lp (V_bld (vs := [(0, .map (some x10_1)), (1, .int .i64 a0)]) (cs := #[.map (some x10_1), .int .i64 a0]) rfl Tryz.underlying39 ty39 pl39 rfl rfl) rfl rfl ?_
  refine Ls rfl rfl (X_new (A_box rfl rfl) fun x13_2 g1 g2 => ?_)
  replace h := h x13_2 g1 g2
  refine Lp (V_asg rfl rfl) rfl rfl ?_
  refine Lp (V_asg rfl rfl) rfl rfl ?_
  refine Lnil ?_
  refine thenN ?_
  refine AW.ret ?_
  exact bR2 Tryz.results9 rfl rfl ⟨_, _, rfl, h⟩

def j1_disk_table_Used (B : World) (ro : AH) (Q : Int → AH → Prop) (x3_2 : Int) (σ : AH) : Prop :=
 Q x3_2 σ

def l4_disk_table_Used (B : World) (ro : AH) (p7_3 : Addr) (Q : Int → AH → Prop) : (Int) → AH → ((Int) → AH → Prop) → Prop := fun x3_5 σ Y4 =>
 awp Tryz.prog ro (Instr.next (.pointer (some p7_3)) false 0) (fun v σ =>
  (v = .tuple #[.bool false] ∧
   j1_disk_table_Used B ro Q x3_5 σ) ∨
  (∃ (x8_6 : Value) (x8_7 : Value), v = .tuple #[.bool true, x8_6, x8_7] ∧
   awp Tryz.prog ro (Instr.entry (.pointer (some p7_3))) (fun v σ =>
    (∃ (x10_8 : Value) (x10_9 : Option Addr), v = .tuple #[x10_8, .pointer x10_9] ∧
     ∃ p14_10 : Addr, x10_9 = some p14_10 ∧
     ∃ (x16_11 : Sl), acell ro σ p14_10 = some (Sl.v x16_11) ∧
     Y4 (IntKind.i64.wrap (x3_5 + (x16_11.len : Int))) σ)) σ)) σ

def f_disk_table_Used (B : World) (ro : AH) (a0 : Option Nat) (σ : AH) (Q : Int → AH → Prop) : Prop :=
 awp Tryz.prog ro (Instr.range 37 (.map a0)) (fun v σ =>
  (∃ (p7_3 : Addr), v = .pointer (some p7_3) ∧
   lfpD (l4_disk_table_Used B ro p7_3 Q ) (0) σ)) σ

set_option maxRecDepth 100000 in
set_option maxHeartbeats 4000000 in
theorem disk_table_Used_ok {B : World} {ro : AH} {a0 : Option Nat} {σ : AH} {Q : Int → AH → Prop} (h : Sep ro σ → f_disk_table_Used B ro a0 σ Q) : c_disk_table_Used B ro a0 σ Q := by
  refine ACalls.of_sep fun hsep => ?_
  replace h := h hsep
  refine ACalls.of_body (args := [.map a0]) Tryz.func14 rfl (by rw [Tryz.ntmps14]; simp) ?_
  rw [Tryz.ntmps14]
  unfold f_disk_table_Used at h
  refine AW.seq ?_
  refine AW.reg ?_
  refine Lp (V_asg rfl rfl) rfl rfl ?_
  refine Lnil ?_
  refine thenN ?_
  refine AW.seq ?_
  refine AW.reg ?_
  refine Lp (V_asg rfl rfl) rfl rfl ?_
  refine Lnil ?_
  refine thenN ?_
  refine AW.seqJ (fun fr σ => ∃ (x3_2 : Int), FrLe [(3, .int .i64 x3_2)] fr ∧ j1_disk_table_Used B ro Q x3_2 σ) ?_ ?_
  · rintro fr σ ⟨x3_2, hl, h⟩
    refine AW.weaken ?_ hl (HLe.refl _)
    unfold j1_disk_table_Used at h
    refine AW.seq ?_
    refine AW.reg ?_
    refine Lp (V_move rfl rfl) rfl rfl ?_
    refine Lp (V_asg rfl rfl) rfl rfl ?_
    refine Lnil ?_
    refine thenN ?_
    refine AW.ret ?_
    exact bR1 Tryz.results14 rfl ⟨_, rfl, h⟩
  refine AW.seq ?_
  refine AW.reg ?_
  refine Lp (V_move rfl rfl) rfl rfl ?_
  refine Ls rfl rfl (X_rng rfl rfl (awp_mono _ h ?_))
  rintro v σ ⟨p7_3, rfl, h⟩
  refine Lnil ?_
  refine thenN ?_
  refine AW.block ?_
  refine ARound.loop (fr' := [(7, .pointer (some p7_3)), (3, .int .i64 0)]) ?_ (FrLe.cons rfl (FrLe.cons rfl (FrLe.nil _)))
  refine h (fun x3_5 σ => ARound _ _ _ _ _ _ [(7, .pointer (some p7_3)), (3, .int .i64 x3_5)] σ) ?_
  rintro x3_5 σ Y4 hY4 h
  show AW _ _ _ _ _ _ _ _
  unfold l4_disk_table_Used at h
  refine AW.seq ?_
  refine AW.reg ?_
  refine Ls rfl rfl (X_nxt rfl rfl rfl (awp_mono _ h ?_))
  rintro v σ (⟨rfl, h⟩ | ⟨x8_6, x8_7, rfl, h⟩)
  · refine Lp (V_ext rfl rfl rfl) rfl rfl ?_
    refine Lnil ?_
    refine thenN ?_
    refine AW.seq ?_
    refine AW.no rfl ?_
    refine AW.exit ?_
    refine thenE ?_
    refine thenE ?_
    refine blockE ?_
    refine thenN ?_
    exact ⟨_, (FrLe.cons rfl (FrLe.nil _)), h⟩
  · refine Lp (V_ext rfl rfl rfl) rfl rfl ?_
    refine Lnil ?_
    refine thenN ?_
    refine AW.seq ?_
    refine AW.yes rfl ?_
    refine AW.skip ?_
    refine thenN ?_
    refine AW.block ?_
    refine AW.seq ?_
    refine AW.reg ?_
    refine Ls rfl rfl (X_ent rfl rfl (awp_mono _ h ?_))
    rintro v σ ⟨x10_8, x10_9, rfl, h⟩
    refine Lp (V_ext rfl rfl rfl) rfl rfl ?_
    refine Lp (V_asg rfl rfl) rfl rfl ?_
    refine Lnil ?_
    refine thenN ?_
    refine AW.reg ?_
    refine Lp (V_move rfl rfl) rfl rfl ?_
    refine Lp (V_move rfl rfl) rfl rfl ?_
    obtain ⟨p14_10, hc, h⟩ := h
    refine Lp (V_nil rfl (by rw [← hc]; rfl)) rfl rfl ?_
    refine Lp (V_fld rfl Tryz.underlying104 rfl ty22 (by decide) rfl) rfl rfl ?_
    obtain ⟨x16_11, hc, h⟩ := h
    refine Ls rfl rfl (X_ld rfl Tryz.underlying22 rfl rfl hc ?_)
    refine Lp (V_lenL rfl rfl Tryz.underlying22 rfl rfl) rfl rfl ?_
    refine Lp (V_add rfl rfl rfl) rfl rfl ?_
    refine Lp (V_asg rfl rfl) rfl rfl ?_
    refine Lnil ?_
    refine blockN ?_
    refine thenN ?_
    refine ARound.head (fr' := [(7, .pointer (some p7_3)), (3, .int .i64 (IntKind.i64.wrap (x3_5 + (x16_11.len : Int))))]) ?_ (FrLe.cons rfl (FrLe.cons rfl (FrLe.nil _)))
    exact hY4 _ _ h

def j5_disk_Disk_Remove (B : World) (ro : AH) (Q : Int → AH → Prop) (σ : AH) : Prop :=
 Q 0 σ

def l6_disk_Disk_Remove (B : World) (ro : AH) (a0 : Option Addr) (a1 : Sl) (Q : Int → AH → Prop) : (Int) → AH → ((Int) → AH → Prop) → Prop := fun x23_7 σ Y6 =>
 if x23_7 < (a1.len : Int) then
  ∃ p25_8 : Addr, a1.a = some p25_8 ∧ (0 : Int) ≤ x23_7 ∧ x23_7 < (a1.len : Int) ∧
  ∃ (x26_9 : ByteArray), acell ro σ (p25_8.add (Int.toNat x23_7 * 1)) = some (.string x26_9) ∧
  ∃ p28_10 : Addr, a0 = some p28_10 ∧
  ∃ (x30_11 : Option Nat), acell ro σ p28_10 = some (.map x30_11) ∧
  awp Tryz.prog ro (Builtin.delete_ #[37, 9] 0 #[.map x30_11, .string x26_9]) (fun v σ => v = .tuple #[] ∧
   Y6 (IntKind.i64.wrap (x23_7 + 1)) σ) σ
 else
 j5_disk_Disk_Remove B ro Q σ

def f_disk_Disk_Remove (B : World) (ro : AH) (a0 : Option Addr) (a1 : Sl) (σ : AH) (Q : Int → AH → Prop) : Prop :=
 ∃ p11_1 : Addr, a0 = some p11_1 ∧
 ∃ (x13_2 : Option Nat), acell ro σ p11_1 = some (.map x13_2) ∧
 c_disk_table_find B ro x13_2 a1 σ fun x15_3 x15_4 σ =>
 if ¬ (x15_4 = 0) then
  Q x15_4 σ
 else
 lfpD (l6_disk_Disk_Remove B ro a0 a1 Q ) (0) σ

set_option maxRecDepth 100000 in
set_option maxHeartbeats 4000000 in
theorem disk_Disk_Remove_ok {B : World} {ro : AH} {a0 : Option Addr} {a1 : Sl} {σ : AH} {Q : Int → AH → Prop} (h : Sep ro σ → f_disk_Disk_Remove B ro a0 a1 σ Q) : c_disk_Disk_Remove B ro a0 a1 σ Q := by
  refine ACalls.of_sep fun hsep => ?_
  replace h := h hsep
  refine ACalls.of_body (args := [.pointer a0, Sl.v a1]) Tryz.func40 rfl (by rw [Tryz.ntmps40]; simp) ?_
  rw [Tryz.ntmps40]
  unfold f_disk_Disk_Remove at h
  refine AW.seq ?_
  refine AW.reg ?_
  refine Lp (V_asg rfl rfl) rfl rfl ?_
  refine Lnil ?_
  refine thenN ?_
  refine AW.seq ?_
  refine AW.seq ?_
  refine AW.reg ?_
  refine Lp (V_move rfl rfl) rfl rfl ?_
  obtain ⟨p11_1, hc, h⟩ := h
  refine Lp (V_nil rfl (by rw [← hc]; rfl)) rfl rfl ?_
  refine Lp (V_fld rfl Tryz.underlying39 rfl ty37 (by decide) rfl) rfl rfl ?_
  obtain ⟨x13_2, hc, h⟩ := h
  refine Ls rfl rfl (X_ld rfl Tryz.underlying37 rfl rfl hc ?_)
  refine Lp (V_move rfl rfl) rfl rfl ?_
  refine Ls rfl rfl (X_call rfl Tryz.func76 rfl rfl rfl (ACalls.mono h ?_))
  rintro v σ ⟨x15_3, x15_4, rfl, h⟩
  refine Lp (V_move rfl rfl) rfl rfl ?_
  refine Lp (V_ext rfl rfl rfl) rfl rfl ?_
  refine Lp (V_ext rfl rfl rfl) rfl rfl ?_
  refine Lp (V_asg rfl rfl) rfl rfl ?_
  refine Lp (V_asg rfl rfl) rfl rfl ?_
  refine Lnil ?_
  refine thenN ?_
  refine AW.seq ?_
  refine AW.reg ?_
  refine Lp (V_move rfl rfl) rfl rfl ?_
  refine Lp (V_neq rfl rfl rfl) rfl rfl ?_
  refine Lnil ?_
  refine thenN ?_
  refine AW.iff rfl (bnot_iff decide_eq_true_iff) h (fun h => ?_) (fun h => ?_)
  · refine AW.seq ?_
    refine AW.reg ?_
    refine Lp (V_move rfl rfl) rfl rfl ?_
    refine Lp (V_asg rfl rfl) rfl rfl ?_
    refine Lnil ?_
    refine thenN ?_
    refine AW.ret ?_
    refine thenR ?_
    exact bR1 Tryz.results40 rfl ⟨_, rfl, h⟩
  refine AW.skip ?_
  refine thenN ?_
  refine AW.seqJ (fun fr σ => FrLe [] fr ∧ j5_disk_Disk_Remove B ro Q σ) ?_ ?_
  · rintro fr σ ⟨hl, h⟩
    refine AW.weaken ?_ hl (HLe.refl _)
    unfold j5_disk_Disk_Remove at h
    refine AW.seq ?_
    refine AW.reg ?_
    refine Lp (V_asg rfl rfl) rfl rfl ?_
    refine Lnil ?_
    refine thenN ?_
    refine AW.ret ?_
    exact bR1 Tryz.results40 rfl ⟨_, rfl, h⟩
  refine AW.seq ?_
  refine AW.reg ?_
  refine Lp (V_move rfl rfl) rfl rfl ?_
  refine Lp (V_lenL rfl rfl Tryz.underlying83 rfl rfl) rfl rfl ?_
  refine Lp (V_move rfl rfl) rfl rfl ?_
  refine Lnil ?_
  refine thenN ?_
  refine AW.block ?_
  refine ARound.loop (fr' := [(0, .pointer a0), (21, Sl.v a1), (22, .int .i64 (a1.len : Int)), (23, .int .i64 0)]) ?_ (FrLe.cons rfl (FrLe.cons rfl (FrLe.cons rfl (FrLe.cons rfl (FrLe.nil _)))))
  refine h (fun x23_7 σ => ARound _ _ _ _ _ _ [(0, .pointer a0), (21, Sl.v a1), (22, .int .i64 (a1.len : Int)), (23, .int .i64 x23_7)] σ) ?_
  rintro x23_7 σ Y6 hY6 h
  show AW _ _ _ _ _ _ _ _
  unfold l6_disk_Disk_Remove at h
  refine AW.seq ?_
  refine AW.reg ?_
  refine Lp (V_lss rfl rfl rfl) rfl rfl ?_
  refine Lnil ?_
  refine thenN ?_
  refine AW.seq ?_
  refine AW.iff rfl decide_eq_true_iff h (fun h => ?_) (fun h => ?_)
  rotate_left
  · refine AW.exit ?_
    refine thenE ?_
    refine thenE ?_
    refine blockE ?_
    refine thenN ?_
    exact ⟨(FrLe.nil _), h⟩
  refine AW.skip ?_
  refine thenN ?_
  refine AW.seq ?_
  refine AW.block ?_
  refine AW.seq ?_
  refine AW.reg ?_
  obtain ⟨p25_8, ha, h0, h1, h⟩ := h
  refine Lp (V_ixA rfl Tryz.underlying83 ty9 (ixL rfl ha) rfl h0 h1) rfl rfl ?_
  obtain ⟨x26_9, hc, h⟩ := h
  refine Ls rfl rfl (X_ld rfl Tryz.underlying9 rfl rfl hc ?_)
  refine Lp (V_asg rfl rfl) rfl rfl ?_
  refine Lnil ?_
  refine thenN ?_
  refine AW.reg ?_
  refine Lp (V_move rfl rfl) rfl rfl ?_
  obtain ⟨p28_10, hc, h⟩ := h
  refine Lp (V_nil rfl (by rw [← hc]; rfl)) rfl rfl ?_
  refine Lp (V_fld rfl Tryz.underlying39 rfl ty37 (by decide) rfl) rfl rfl ?_
  obtain ⟨x30_11, hc, h⟩ := h
  refine Ls rfl rfl (X_ld rfl Tryz.underlying37 rfl rfl hc ?_)
  refine Lp (V_move rfl rfl) rfl rfl ?_
  refine Ls rfl rfl (X_bi (s := Builtin.delete_ #[37, 9] 0 #[.map x30_11, .string x26_9]) rfl rfl (fun _ => rfl) (awp_mono _ h ?_))
  rintro v σ ⟨rfl, h⟩
  refine Lnil ?_
  refine blockN ?_
  refine thenN ?_
  refine AW.reg ?_
  refine Lp (V_add rfl rfl rfl) rfl rfl ?_
  refine Lp (V_move rfl rfl) rfl rfl ?_
  refine Lnil ?_
  refine thenN ?_
  refine ARound.head (fr' := [(0, .pointer a0), (21, Sl.v a1), (22, .int .i64 (a1.len : Int)), (23, .int .i64 (IntKind.i64.wrap (x23_7 + 1)))]) ?_ (FrLe.cons rfl (FrLe.cons rfl (FrLe.cons rfl (FrLe.cons rfl (FrLe.nil _)))))
  exact hY6 _ _ h

def j10_disk_Disk_Append (B : World) (ro : AH) (a2 : Sl) (Q : Int → AH → Prop) (x7_11 : Option Addr) (σ : AH) : Prop :=
 ∃ p44_12 : Addr, x7_11 = some p44_12 ∧
 ∃ (x46_13 : Sl), acell ro σ p44_12 = some (Sl.v x46_13) ∧
 awp Tryz.prog ro (Builtin.append_ #[22, 22] 22 #[Sl.v x46_13, Sl.v a2]) (fun v σ => ∃ (x48_14 : Sl), v = Sl.v x48_14 ∧
  ∃ p49_15 : Addr, x7_11 = some p49_15 ∧
  stN p49_15 (fun σ =>
   Q 0 σ) [Sl.v x48_14] 0 σ) σ

def f_disk_Disk_Append (B : World) (ro : AH) (a0 : Option Addr) (a1 : ByteArray) (a2 : Sl) (σ : AH) (Q : Int → AH → Prop) : Prop :=
 c_disk_rightName B ro a1 σ fun x10_1 σ =>
 if ¬ (x10_1 = true) then
  Q 30 σ
 else
 lent σ fun ψ σ =>
  ∃ p16_2 : Addr, a0 = some p16_2 ∧
  ∃ (x18_3 : Int), acell (join ro ψ) (fun _ => none) (p16_2.add 1) = some (.int .i64 x18_3) ∧
  ∃ p20_4 : Addr, a0 = some p20_4 ∧
  ∃ (x22_5 : Option Nat), acell (join ro ψ) σ p20_4 = some (.map x22_5) ∧
  c_disk_table_Used B (join ro ψ) x22_5 σ fun x23_6 σ =>
  (Disj ψ σ → (fun σ => 
   if (IntKind.i64.wrap (x18_3 - x23_6)) < (a2.len : Int) then
    Q 32 σ
   else
   ∃ p27_7 : Addr, a0 = some p27_7 ∧
   ∃ (x29_8 : Option Nat), acell ro σ p27_7 = some (.map x29_8) ∧
   awp Tryz.prog ro (Instr.lookup 37 (.map x29_8) (.string a1) false) (fun v σ =>
    (∃ (x31_9 : Option Addr), v = .pointer x31_9 ∧
     if x31_9 = none then
      nw ro σ (.cells #[Sl.v (⟨none, 0, 0⟩ : Sl), .int .i64 0] 104) fun x35_16 σ =>
      ∃ p37_17 : Addr, a0 = some p37_17 ∧
      ∃ (x39_18 : Option Nat), acell ro σ p37_17 = some (.map x39_18) ∧
      awp Tryz.prog ro (Instr.mapUpdate 37 (.map x39_18) (.string a1) (.pointer (some ⟨x35_16, 0, none⟩))) (fun _ σ =>
       j10_disk_Disk_Append B ro a2 Q (some ⟨x35_16, 0, none⟩) σ) σ
     else
     j10_disk_Disk_Append B ro a2 Q x31_9 σ)) σ) (join ψ σ))

set_option maxRecDepth 100000 in
set_option maxHeartbeats 4000000 in
theorem disk_Disk_Append_ok {B : World} {ro : AH} {a0 : Option Addr} {a1 : ByteArray} {a2 : Sl} {σ : AH} {Q : Int → AH → Prop} (h : Sep ro σ → f_disk_Disk_Append B ro a0 a1 a2 σ Q) : c_disk_Disk_Append B ro a0 a1 a2 σ Q := by
  refine ACalls.of_sep fun hsep => ?_
  replace h := h hsep
  refine ACalls.of_body (args := [.pointer a0, .string a1, Sl.v a2]) Tryz.func43 rfl (by rw [Tryz.ntmps43]; simp) ?_
  rw [Tryz.ntmps43]
  unfold f_disk_Disk_Append at h
  refine AW.seq ?_
  refine AW.reg ?_
  refine Lp (V_asg rfl rfl) rfl rfl ?_
  refine Lnil ?_
  refine thenN ?_
  refine AW.seq ?_
  refine AW.block ?_
  refine AW.seq ?_
  refine AW.reg ?_
  refine Lp (V_move rfl rfl) rfl rfl ?_
  refine Ls rfl rfl (X_call rfl Tryz.func80 rfl rfl rfl (ACalls.mono h ?_))
  rintro v σ ⟨x10_1, rfl, h⟩
  refine Lp (V_not rfl rfl) rfl rfl ?_
  refine Lp (V_asg rfl rfl) rfl rfl ?_
  refine Lnil ?_
  refine thenN ?_
  refine AW.iff rfl (bnot_iff Iff.rfl) h (fun h => ?_) (fun h => ?_)
  · refine AW.seq ?_
    refine AW.reg ?_
    refine Lp (V_asg rfl rfl) rfl rfl ?_
    refine Lnil ?_
    refine thenN ?_
    refine AW.ret ?_
    refine blockR ?_
    refine thenR ?_
    exact bR1 Tryz.results43 rfl ⟨_, rfl, h⟩
  refine AW.seq ?_
  refine AW.drawnL (fun i => ([0, 0, 0, 0, 0, 0, 0, 0, 0, 3, 2, 0, 0, 0] : List Nat).getD i 2) [] [0, 1, 2, 3, 4, 5, 6, 7, 8, 9, 10, 11, 12, 13] Tryz.mixed h (by decide +kernel) ?_
  clear h
  intro ψ σ h
  refine Dp rfl rfl rfl rfl (V_move rfl rfl) ?_
  refine Dp rfl rfl rfl rfl (V_lenL rfl rfl Tryz.underlying22 rfl rfl) ?_
  refine Dp rfl rfl rfl rfl (V_move rfl rfl) ?_
  obtain ⟨p16_2, hc, h⟩ := h
  refine Dp rfl rfl rfl rfl (V_nil rfl (by rw [← hc]; rfl)) ?_
  refine Dp rfl rfl rfl rfl (V_fld rfl Tryz.underlying39 rfl ty3 (by decide) rfl) ?_
  obtain ⟨x18_3, hc, h⟩ := h
  refine Dp rfl rfl rfl rfl (V_ld rfl Tryz.underlying3 rfl rfl hc) ?_
  refine Dp rfl rfl rfl rfl (V_move rfl rfl) ?_
  obtain ⟨p20_4, hc, h⟩ := h
  refine Dp rfl rfl rfl rfl (V_nil rfl (by rw [← hc]; rfl)) ?_
  refine Dp rfl rfl rfl rfl (V_fld rfl Tryz.underlying39 rfl ty37 (by decide) rfl) ?_
  obtain ⟨x22_5, hc, h⟩ := h
  refine Dr rfl rfl rfl rfl (R_ld rfl Tryz.underlying37 rfl rfl hc) ?_
  refine Dg rfl rfl rfl rfl (X_call rfl Tryz.func14 rfl rfl rfl (ACalls.mono h ?_))
  rintro v σ ⟨x23_6, rfl, h⟩
  refine Dp rfl rfl rfl rfl (V_sub rfl rfl rfl) ?_
  refine Dp rfl rfl rfl rfl (V_gtr rfl rfl rfl) ?_
  refine Dp rfl rfl rfl rfl (V_asg rfl rfl) ?_
  refine ⟨_, FrEq.refl _, fun hdj => ?_⟩
  replace h := h hdj
  refine thenN ?_
  refine AW.iff rfl decide_eq_true_iff h (fun h => ?_) (fun h => ?_)
  · refine AW.seq ?_
    refine AW.reg ?_
    refine Lp (V_asg rfl rfl) rfl rfl ?_
    refine Lnil ?_
    refine thenN ?_
    refine AW.ret ?_
    refine blockR ?_
    refine thenR ?_
    exact bR1 Tryz.results43 rfl ⟨_, rfl, h⟩
  refine AW.skip ?_
  refine blockN ?_
  refine thenN ?_
  refine AW.seq ?_
  refine AW.reg ?_
  refine Lp (V_move rfl rfl) rfl rfl ?_
  obtain ⟨p27_7, hc, h⟩ := h
  refine Lp (V_nil rfl (by rw [← hc]; rfl)) rfl rfl ?_
  refine Lp (V_fld rfl Tryz.underlying39 rfl ty37 (by decide) rfl) rfl rfl ?_
  obtain ⟨x29_8, hc, h⟩ := h
  refine Ls rfl rfl (X_ld rfl Tryz.underlying37 rfl rfl hc ?_)
  refine Lp (V_move rfl rfl) rfl rfl ?_
  refine Ls rfl rfl (X_lkp rfl rfl rfl (awp_mono _ h ?_))
  rintro v σ ⟨x31_9, rfl, h⟩
  refine Lp (V_asg rfl rfl) rfl rfl ?_
  refine Lnil ?_
  refine thenN ?_
  refine AW.seqJ (fun fr σ => ∃ (x7_11 : Option Addr), FrLe [(2, Sl.v a2), (7, .pointer x7_11)] fr ∧ j10_disk_Disk_Append B ro a2 Q x7_11 σ) ?_ ?_
  · rintro fr σ ⟨x7_11, hl, h⟩
    refine AW.weaken ?_ hl (HLe.refl _)
    unfold j10_disk_Disk_Append at h
    refine AW.seq ?_
    refine AW.reg ?_
    refine Lp (V_move rfl rfl) rfl rfl ?_
    refine Lp (V_move rfl rfl) rfl rfl ?_
    obtain ⟨p44_12, hc, h⟩ := h
    refine Lp (V_nil rfl (by rw [← hc]; rfl)) rfl rfl ?_
    refine Lp (V_fld rfl Tryz.underlying104 rfl ty22 (by decide) rfl) rfl rfl ?_
    obtain ⟨x46_13, hc, h⟩ := h
    refine Ls rfl rfl (X_ld rfl Tryz.underlying22 rfl rfl hc ?_)
    refine Lp (V_move rfl rfl) rfl rfl ?_
    refine Ls rfl rfl (X_bi (s := Builtin.append_ #[22, 22] 22 #[Sl.v x46_13, Sl.v a2]) rfl rfl (fun _ => rfl) (awp_mono _ h ?_))
    rintro v σ ⟨x48_14, rfl, h⟩
    obtain ⟨p49_15, hc, h⟩ := h
    refine Lp (V_nil rfl (by rw [← hc]; rfl)) rfl rfl ?_
    refine Lp (V_fld rfl Tryz.underlying104 rfl ty22 (by decide) rfl) rfl rfl ?_
    refine Ls rfl rfl (X_st rfl ty22 rfl rfl rfl rfl (stN_mono h fun σ h => ?_))
    refine Lnil ?_
    refine thenN ?_
    refine AW.seq ?_
    refine AW.reg ?_
    refine Lp (V_asg rfl rfl) rfl rfl ?_
    refine Lnil ?_
    refine thenN ?_
    refine AW.ret ?_
    exact bR1 Tryz.results43 rfl ⟨_, rfl, h⟩
  refine AW.seq ?_
  refine AW.reg ?_
  refine Lp (V_move rfl rfl) rfl rfl ?_
  refine Lp (V_eqP rfl Tryz.underlying102 rfl rfl) rfl rfl ?_
  refine Lnil ?_
  refine thenN ?_
  refine AW.iff rfl isNone_iff h (fun h => ?_) (fun h => ?_)
  rotate_left
  · refine AW.skip ?_
    refine thenN ?_
    exact ⟨_, (FrLe.cons rfl (FrLe.cons rfl (FrLe.nil _))), h⟩
  refine AW.seq ?_
  refine AW.reg ?_
  refine Lp (V_bld (vs := []) (cs := #[Sl.v (⟨none, 0, 0⟩ : Sl), .int .i64 0]) rfl Tryz.underlying104 ty104 pl104 rfl rfl) rfl rfl ?_
  refine Ls rfl rfl (X_new (A_box rfl rfl) fun x35_16 g1 g2 => ?_)
  replace h := h x35_16 g1 g2
  refine Lp (V_asg rfl rfl) rfl rfl ?_
  refine Lnil ?_
  refine thenN ?_
  refine AW.reg ?_
  refine Lp (V_move rfl rfl) rfl rfl ?_
  obtain ⟨p37_17, hc, h⟩ := h
  refine Lp (V_nil rfl (by rw [← hc]; rfl)) rfl rfl ?_
  refine Lp (V_fld rfl Tryz.underlying39 rfl ty37 (by decide) rfl) rfl rfl ?_
  obtain ⟨x39_18, hc, h⟩ := h
  refine Ls rfl rfl (X_ld rfl Tryz.underlying37 rfl rfl hc ?_)
  refine Lp (V_move rfl rfl) rfl rfl ?_
  refine Lp (V_move rfl rfl) rfl rfl ?_
  refine Ls rfl rfl (X_mup (.inl rfl) rfl rfl rfl (awp_mono _ h ?_))
  rintro _ σ h
  refine Lnil ?_
  refine thenN ?_
  exact ⟨_, (FrLe.cons rfl (FrLe.cons rfl (FrLe.nil _))), h⟩

def j5_disk_Disk_Sync (B : World) (ro : AH) (x15_4 : Int) (Q : Int → AH → Prop) (σ : AH) : Prop :=
 Q x15_4 σ

def l6_disk_Disk_Sync (B : World) (ro : AH) (x15_3 : Sl) (x15_4 : Int) (Q : Int → AH → Prop) : (Int) → AH → ((Int) → AH → Prop) → Prop := fun x20_7 σ Y6 =>
 if x20_7 < (x15_3.len : Int) then
  ∃ p22_8 : Addr, x15_3.a = some p22_8 ∧ (0 : Int) ≤ x20_7 ∧ x20_7 < (x15_3.len : Int) ∧
  ∃ (x23_9 : Option Addr), acell ro σ (p22_8.add (Int.toNat x20_7 * 1)) = some (.pointer x23_9) ∧
  ∃ p26_10 : Addr, x23_9 = some p26_10 ∧
  ∃ (x28_11 : Sl), acell ro σ p26_10 = some (Sl.v x28_11) ∧
  ∃ p30_12 : Addr, x23_9 = some p30_12 ∧
  stN (p30_12.add 1) (fun σ =>
   Y6 (IntKind.i64.wrap (x20_7 + 1)) σ) [.int .i64 (x28_11.len : Int)] 0 σ
 else
 j5_disk_Disk_Sync B ro x15_4 Q σ

def f_disk_Disk_Sync (B : World) (ro : AH) (a0 : Option Addr) (a1 : Sl) (σ : AH) (Q : Int → AH → Prop) : Prop :=
 ∃ p11_1 : Addr, a0 = some p11_1 ∧
 ∃ (x13_2 : Option Nat), acell ro σ p11_1 = some (.map x13_2) ∧
 c_disk_table_find B ro x13_2 a1 σ fun x15_3 x15_4 σ =>
 lfpD (l6_disk_Disk_Sync B ro x15_3 x15_4 Q ) (0) σ

set_option maxRecDepth 100000 in
set_option maxHeartbeats 4000000 in
theorem disk_Disk_Sync_ok {B : World} {ro : AH} {a0 : Option Addr} {a1 : Sl} {σ : AH} {Q : Int → AH → Prop} (h : Sep ro σ → f_disk_Disk_Sync B ro a0 a1 σ Q) : c_disk_Disk_Sync B ro a0 a1 σ Q := by
  refine ACalls.of_sep fun hsep => ?_
  replace h := h hsep
  refine ACalls.of_body (args := [.pointer a0, Sl.v a1]) Tryz.func44 rfl (by rw [Tryz.ntmps44]; simp) ?_
  rw [Tryz.ntmps44]
  unfold f_disk_Disk_Sync at h
  refine AW.seq ?_
  refine AW.reg ?_
  refine Lp (V_asg rfl rfl) rfl rfl ?_
  refine Lnil ?_
  refine thenN ?_
  refine AW.seq ?_
  refine AW.reg ?_
  refine Lp (V_move rfl rfl) rfl rfl ?_
  obtain ⟨p11_1, hc, h⟩ := h
  refine Lp (V_nil rfl (by rw [← hc]; rfl)) rfl rfl ?_
  refine Lp (V_fld rfl Tryz.underlying39 rfl ty37 (by decide) rfl) rfl rfl ?_
  obtain ⟨x13_2, hc, h⟩ := h
  refine Ls rfl rfl (X_ld rfl Tryz.underlying37 rfl rfl hc ?_)
  refine Lp (V_move rfl rfl) rfl rfl ?_
  refine Ls rfl rfl (X_call rfl Tryz.func76 rfl rfl rfl (ACalls.mono h ?_))
  rintro v σ ⟨x15_3, x15_4, rfl, h⟩
  refine Lp (V_move rfl rfl) rfl rfl ?_
  refine Lp (V_ext rfl rfl rfl) rfl rfl ?_
  refine Lp (V_ext rfl rfl rfl) rfl rfl ?_
  refine Lp (V_asg rfl rfl) rfl rfl ?_
  refine Lp (V_asg rfl rfl) rfl rfl ?_
  refine Lnil ?_
  refine thenN ?_
  refine AW.seqJ (fun fr σ => FrLe [(6, .int .i64 x15_4)] fr ∧ j5_disk_Disk_Sync B ro x15_4 Q σ) ?_ ?_
  · rintro fr σ ⟨hl, h⟩
    refine AW.weaken ?_ hl (HLe.refl _)
    unfold j5_disk_Disk_Sync at h
    refine AW.seq ?_
    refine AW.reg ?_
    refine Lp (V_move rfl rfl) rfl rfl ?_
    refine Lp (V_asg rfl rfl) rfl rfl ?_
    refine Lnil ?_
    refine thenN ?_
    refine AW.ret ?_
    exact bR1 Tryz.results44 rfl ⟨_, rfl, h⟩
  refine AW.seq ?_
  refine AW.reg ?_
  refine Lp (V_move rfl rfl) rfl rfl ?_
  refine Lp (V_lenL rfl rfl Tryz.underlying140 rfl rfl) rfl rfl ?_
  refine Lp (V_move rfl rfl) rfl rfl ?_
  refine Lnil ?_
  refine thenN ?_
  refine AW.block ?_
  refine ARound.loop (fr' := [(6, .int .i64 x15_4), (18, Sl.v x15_3), (19, .int .i64 (x15_3.len : Int)), (20, .int .i64 0)]) ?_ (FrLe.cons rfl (FrLe.cons rfl (FrLe.cons rfl (FrLe.cons rfl (FrLe.nil _)))))
  refine h (fun x20_7 σ => ARound _ _ _ _ _ _ [(6, .int .i64 x15_4), (18, Sl.v x15_3), (19, .int .i64 (x15_3.len : Int)), (20, .int .i64 x20_7)] σ) ?_
  rintro x20_7 σ Y6 hY6 h
  show AW _ _ _ _ _ _ _ _
  unfold l6_disk_Disk_Sync at h
  refine AW.seq ?_
  refine AW.reg ?_
  refine Lp (V_lss rfl rfl rfl) rfl rfl ?_
  refine Lnil ?_
  refine thenN ?_
  refine AW.seq ?_
  refine AW.iff rfl decide_eq_true_iff h (fun h => ?_) (fun h => ?_)
  rotate_left
  · refine AW.exit ?_
    refine thenE ?_
    refine thenE ?_
    refine blockE ?_
    refine thenN ?_
    exact ⟨(FrLe.cons rfl (FrLe.nil _)), h⟩
  refine AW.skip ?_
  refine thenN ?_
  refine AW.seq ?_
  refine AW.block ?_
  refine AW.seq ?_
  refine AW.reg ?_
  obtain ⟨p22_8, ha, h0, h1, h⟩ := h
  refine Lp (V_ixA rfl Tryz.underlying140 ty102 (ixL rfl ha) rfl h0 h1) rfl rfl ?_
  obtain ⟨x23_9, hc, h⟩ := h
  refine Ls rfl rfl (X_ld rfl Tryz.underlying102 rfl rfl hc ?_)
  refine Lp (V_asg rfl rfl) rfl rfl ?_
  refine Lnil ?_
  refine thenN ?_
  refine AW.reg ?_
  refine Lp (V_move rfl rfl) rfl rfl ?_
  refine Lp (V_move rfl rfl) rfl rfl ?_
  obtain ⟨p26_10, hc, h⟩ := h
  refine Lp (V_nil rfl (by rw [← hc]; rfl)) rfl rfl ?_
  refine Lp (V_fld rfl Tryz.underlying104 rfl ty22 (by decide) rfl) rfl rfl ?_
  obtain ⟨x28_11, hc, h⟩ := h
  refine Ls rfl rfl (X_ld rfl Tryz.underlying22 rfl rfl hc ?_)
  refine Lp (V_lenL rfl rfl Tryz.underlying22 rfl rfl) rfl rfl ?_
  obtain ⟨p30_12, hc, h⟩ := h
  refine Lp (V_nil rfl (by rw [← hc]; rfl)) rfl rfl ?_
  refine Lp (V_fld rfl Tryz.underlying104 rfl ty3 (by decide) rfl) rfl rfl ?_
  refine Ls rfl rfl (X_st rfl ty3 rfl rfl rfl rfl (stN_mono h fun σ h => ?_))
  refine Lnil ?_
  refine blockN ?_
  refine thenN ?_
  refine AW.reg ?_
  refine Lp (V_add rfl rfl rfl) rfl rfl ?_
  refine Lp (V_move rfl rfl) rfl rfl ?_
  refine Lnil ?_
  refine thenN ?_
  refine ARound.head (fr' := [(6, .int .i64 x15_4), (18, Sl.v x15_3), (19, .int .i64 (x15_3.len : Int)), (20, .int .i64 (IntKind.i64.wrap (x20_7 + 1)))]) ?_ (FrLe.cons rfl (FrLe.cons rfl (FrLe.cons rfl (FrLe.cons rfl (FrLe.nil _)))))
  exact hY6 _ _ h

def j2_disk_Disk_Rename (B : World) (ro : AH) (a0 : Option Addr) (a1 : ByteArray) (a2 : ByteArray) (Q : Int → AH → Prop) (x15_3 : Bool) (σ : AH) : Prop :=
 if x15_3 = true then
  Q 30 σ
 else
 ∃ p17_4 : Addr, a0 = some p17_4 ∧
 ∃ (x19_5 : Option Nat), acell ro σ p17_4 = some (.map x19_5) ∧
 awp Tryz.prog ro (Instr.lookup 37 (.map x19_5) (.string a1) false) (fun v σ =>
  (∃ (x21_6 : Option Addr), v = .pointer x21_6 ∧
   if x21_6 = none then
    Q 31 σ
   else
   ∃ p25_7 : Addr, a0 = some p25_7 ∧
   ∃ (x27_8 : Option Nat), acell ro σ p25_7 = some (.map x27_8) ∧
   awp Tryz.prog ro (Builtin.delete_ #[37, 9] 0 #[.map x27_8, .string a1]) (fun v σ => v = .tuple #[] ∧
    ∃ p30_9 : Addr, a0 = some p30_9 ∧
    ∃ (x32_10 : Option Nat), acell ro σ p30_9 = some (.map x32_10) ∧
    awp Tryz.prog ro (Instr.mapUpdate 37 (.map x32_10) (.string a2) (.pointer x21_6)) (fun _ σ =>
     Q 0 σ) σ) σ)) σ

def f_disk_Disk_Rename (B : World) (ro : AH) (a0 : Option Addr) (a1 : ByteArray) (a2 : ByteArray) (σ : AH) (Q : Int → AH → Prop) : Prop :=
 c_disk_rightName B ro a1 σ fun x9_1 σ =>
 if ¬ (x9_1 = true) then
  j2_disk_Disk_Rename B ro a0 a1 a2 Q true σ
 else
 c_disk_rightName B ro a2 σ fun x13_11 σ =>
 j2_disk_Disk_Rename B ro a0 a1 a2 Q (!x13_11) σ

set_option maxRecDepth 100000 in
set_option maxHeartbeats 4000000 in
theorem disk_Disk_Rename_ok {B : World} {ro : AH} {a0 : Option Addr} {a1 : ByteArray} {a2 : ByteArray} {σ : AH} {Q : Int → AH → Prop} (h : Sep ro σ → f_disk_Disk_Rename B ro a0 a1 a2 σ Q) : c_disk_Disk_Rename B ro a0 a1 a2 σ Q := by
  refine ACalls.of_sep fun hsep => ?_
  replace h := h hsep
  refine ACalls.of_body (args := [.pointer a0, .string a1, .string a2]) Tryz.func45 rfl (by rw [Tryz.ntmps45]; simp) ?_
  rw [Tryz.ntmps45]
  unfold f_disk_Disk_Rename at h
  refine AW.seq ?_
  refine AW.reg ?_
  refine Lp (V_asg rfl rfl) rfl rfl ?_
  refine Lnil ?_
  refine thenN ?_
  refine AW.seq ?_
  refine AW.seq ?_
  refine AW.reg ?_
  refine Lp (V_move rfl rfl) rfl rfl ?_
  refine Ls rfl rfl (X_call rfl Tryz.func80 rfl rfl rfl (ACalls.mono h ?_))
  rintro v σ ⟨x9_1, rfl, h⟩
  refine Lp (V_not rfl rfl) rfl rfl ?_
  refine Lp (V_move rfl rfl) rfl rfl ?_
  refine LsplitJ 4 (!x9_1) (bnot_iff Iff.rfl) h (fun fr σ => ∃ (x15_3 : Bool), FrLe [(0, .pointer a0), (1, .string a1), (2, .string a2), (15, .bool x15_3)] fr ∧ j2_disk_Disk_Rename B ro a0 a1 a2 Q x15_3 σ) ?_ ?_ ?_
  · intro h e3 hk3
    refine Ln rfl rfl rfl rfl (.inl (by rw [e3]; rfl)) ?_
    refine Ln rfl rfl rfl rfl (.inl (by rw [e3]; rfl)) ?_
    refine Ln rfl rfl rfl rfl (.inl (by rw [e3]; rfl)) ?_
    refine Lp (V_pickT rfl (evb e3) rfl) rfl rfl ?_
    exact hk3 _ _ ⟨_, (FrLe.cons rfl (FrLe.cons rfl (FrLe.cons rfl (FrLe.cons rfl (FrLe.nil _))))), h⟩
  · intro h e3 hk3
    refine Lypb (V_move rfl rfl) rfl rfl rfl rfl e3 ?_
    refine Lyb rfl rfl rfl rfl e3 (X_call rfl Tryz.func80 rfl rfl rfl (ACalls.mono h ?_))
    rintro v σ ⟨x13_11, rfl, h⟩
    refine Lypb (V_not rfl rfl) rfl rfl rfl rfl e3 ?_
    refine Lp (V_pickF rfl (evb e3) rfl) rfl rfl ?_
    exact hk3 _ _ ⟨_, (FrLe.cons rfl (FrLe.cons rfl (FrLe.cons rfl (FrLe.cons rfl (FrLe.nil _))))), h⟩
  rintro fr σ ⟨x15_3, hl, h⟩
  unfold j2_disk_Disk_Rename at h
  refine Lfr hl ?_
  refine Lnil ?_
  refine thenN ?_
  refine AW.iff rfl Iff.rfl h (fun h => ?_) (fun h => ?_)
  · refine AW.seq ?_
    refine AW.reg ?_
    refine Lp (V_asg rfl rfl) rfl rfl ?_
    refine Lnil ?_
    refine thenN ?_
    refine AW.ret ?_
    refine thenR ?_
    exact bR1 Tryz.results45 rfl ⟨_, rfl, h⟩
  refine AW.skip ?_
  refine thenN ?_
  refine AW.seq ?_
  refine AW.reg ?_
  refine Lp (V_move rfl rfl) rfl rfl ?_
  obtain ⟨p17_4, hc, h⟩ := h
  refine Lp (V_nil rfl (by rw [← hc]; rfl)) rfl rfl ?_
  refine Lp (V_fld rfl Tryz.underlying39 rfl ty37 (by decide) rfl) rfl rfl ?_
  obtain ⟨x19_5, hc, h⟩ := h
  refine Ls rfl rfl (X_ld rfl Tryz.underlying37 rfl rfl hc ?_)
  refine Lp (V_move rfl rfl) rfl rfl ?_
  refine Ls rfl rfl (X_lkp rfl rfl rfl (awp_mono _ h ?_))
  rintro v σ ⟨x21_6, rfl, h⟩
  refine Lp (V_asg rfl rfl) rfl rfl ?_
  refine Lnil ?_
  refine thenN ?_
  refine AW.seq ?_
  refine AW.seq ?_
  refine AW.reg ?_
  refine Lp (V_move rfl rfl) rfl rfl ?_
  refine Lp (V_eqP rfl Tryz.underlying102 rfl rfl) rfl rfl ?_
  refine Lnil ?_
  refine thenN ?_
  refine AW.iff rfl isNone_iff h (fun h => ?_) (fun h => ?_)
  · refine AW.seq ?_
    refine AW.reg ?_
    refine Lp (V_asg rfl rfl) rfl rfl ?_
    refine Lnil ?_
    refine thenN ?_
    refine AW.ret ?_
    refine thenR ?_
    exact bR1 Tryz.results45 rfl ⟨_, rfl, h⟩
  refine AW.skip ?_
  refine thenN ?_
  refine AW.seq ?_
  refine AW.reg ?_
  refine Lp (V_move rfl rfl) rfl rfl ?_
  obtain ⟨p25_7, hc, h⟩ := h
  refine Lp (V_nil rfl (by rw [← hc]; rfl)) rfl rfl ?_
  refine Lp (V_fld rfl Tryz.underlying39 rfl ty37 (by decide) rfl) rfl rfl ?_
  obtain ⟨x27_8, hc, h⟩ := h
  refine Ls rfl rfl (X_ld rfl Tryz.underlying37 rfl rfl hc ?_)
  refine Lp (V_move rfl rfl) rfl rfl ?_
  refine Ls rfl rfl (X_bi (s := Builtin.delete_ #[37, 9] 0 #[.map x27_8, .string a1]) rfl rfl (fun _ => rfl) (awp_mono _ h ?_))
  rintro v σ ⟨rfl, h⟩
  refine Lnil ?_
  refine thenN ?_
  refine AW.seq ?_
  refine AW.reg ?_
  refine Lp (V_move rfl rfl) rfl rfl ?_
  obtain ⟨p30_9, hc, h⟩ := h
  refine Lp (V_nil rfl (by rw [← hc]; rfl)) rfl rfl ?_
  refine Lp (V_fld rfl Tryz.underlying39 rfl ty37 (by decide) rfl) rfl rfl ?_
  obtain ⟨x32_10, hc, h⟩ := h
  refine Ls rfl rfl (X_ld rfl Tryz.underlying37 rfl rfl hc ?_)
  refine Lp (V_move rfl rfl) rfl rfl ?_
  refine Lp (V_move rfl rfl) rfl rfl ?_
  refine Ls rfl rfl (X_mup (.inl rfl) rfl rfl rfl (awp_mono _ h ?_))
  rintro _ σ h
  refine Lnil ?_
  refine thenN ?_
  refine AW.seq ?_
  refine AW.reg ?_
  refine Lp (V_asg rfl rfl) rfl rfl ?_
  refine Lnil ?_
  refine thenN ?_
  refine AW.ret ?_
  exact bR1 Tryz.results45 rfl ⟨_, rfl, h⟩

def f_disk_table_Files (B : World) (ro : AH) (a0 : Option Nat) (σ : AH) (Q : Sl → AH → Prop) : Prop :=
 c_maps_Keys_disk_file B ro a0 σ fun x4_1 σ =>
 c_slices_Sorted_string B ro x4_1 σ fun x5_2 σ =>
 Q x5_2 σ

set_option maxRecDepth 100000 in
set_option maxHeartbeats 4000000 in
theorem disk_table_Files_ok {B : World} {ro : AH} {a0 : Option Nat} {σ : AH} {Q : Sl → AH → Prop} (h : Sep ro σ → f_disk_table_Files B ro a0 σ Q) : c_disk_table_Files B ro a0 σ Q := by
  refine ACalls.of_sep fun hsep => ?_
  replace h := h hsep
  refine ACalls.of_body (args := [.map a0]) Tryz.func46 rfl (by rw [Tryz.ntmps46]; simp) ?_
  rw [Tryz.ntmps46]
  unfold f_disk_table_Files at h
  refine AW.seq ?_
  refine AW.reg ?_
  refine Lp (V_asg rfl rfl) rfl rfl ?_
  refine Lnil ?_
  refine thenN ?_
  refine AW.seq ?_
  refine AW.reg ?_
  refine Lp (V_move rfl rfl) rfl rfl ?_
  refine Ls rfl rfl (X_call rfl Tryz.func82 rfl rfl rfl (ACalls.mono h ?_))
  rintro x4_1 σ ⟨_, rfl, h⟩
  refine Ls rfl rfl (X_call rfl Tryz.func81 rfl rfl rfl (ACalls.mono h ?_))
  rintro v σ ⟨x5_2, rfl, h⟩
  refine Lp (V_asg rfl rfl) rfl rfl ?_
  refine Lnil ?_
  refine thenN ?_
  refine AW.ret ?_
  exact bR1 Tryz.results46 rfl ⟨_, rfl, h⟩

def f_disk_Disk_Read (B : World) (ro : AH) (a0 : Option Addr) (a1 : ByteArray) (σ : AH) (Q : Sl → Int → AH → Prop) : Prop :=
 ∃ p10_1 : Addr, a0 = some p10_1 ∧
 ∃ (x12_2 : Option Nat), acell ro σ p10_1 = some (.map x12_2) ∧
 nw ro σ (.cells #[.string a1] 9) fun x14_3 σ =>
 c_disk_table_find B ro x12_2 (⟨some ⟨x14_3, 0, none⟩, 1, 1⟩ : Sl) σ fun x15_4 x15_5 σ =>
 if ¬ (x15_5 = 0) then
  Q (⟨none, 0, 0⟩ : Sl) x15_5 σ
 else
 ∃ p22_6 : Addr, x15_4.a = some p22_6 ∧ (0 : Int) ≤ 0 ∧ 0 < (x15_4.len : Int) ∧
 ∃ (x23_7 : Option Addr), acell ro σ (p22_6.add (Int.toNat 0 * 1)) = some (.pointer x23_7) ∧
 ∃ p24_8 : Addr, x23_7 = some p24_8 ∧
 ∃ (x26_9 : Sl), acell ro σ p24_8 = some (Sl.v x26_9) ∧
 c_bytes_Clone B ro x26_9 σ fun x27_10 σ =>
 Q x27_10 0 σ

set_option maxRecDepth 100000 in
set_option maxHeartbeats 4000000 in
theorem disk_Disk_Read_ok {B : World} {ro : AH} {a0 : Option Addr} {a1 : ByteArray} {σ : AH} {Q : Sl → Int → AH → Prop} (h : Sep ro σ → f_disk_Disk_Read B ro a0 a1 σ Q) : c_disk_Disk_Read B ro a0 a1 σ Q := by
  refine ACalls.of_sep fun hsep => ?_
  replace h := h hsep
  refine ACalls.of_body (args := [.pointer a0, .string a1]) Tryz.func51 rfl (by rw [Tryz.ntmps51]; simp) ?_
  rw [Tryz.ntmps51]
  unfold f_disk_Disk_Read at h
  refine AW.seq ?_
  refine AW.reg ?_
  refine Lp (V_asg rfl rfl) rfl rfl ?_
  refine Lp (V_asg rfl rfl) rfl rfl ?_
  refine Lnil ?_
  refine thenN ?_
  refine AW.seq ?_
  refine AW.reg ?_
  refine Lp (V_move rfl rfl) rfl rfl ?_
  obtain ⟨p10_1, hc, h⟩ := h
  refine Lp (V_nil rfl (by rw [← hc]; rfl)) rfl rfl ?_
  refine Lp (V_fld rfl Tryz.underlying39 rfl ty37 (by decide) rfl) rfl rfl ?_
  obtain ⟨x12_2, hc, h⟩ := h
  refine Ls rfl rfl (X_ld rfl Tryz.underlying37 rfl rfl hc ?_)
  refine Lp (V_move rfl rfl) rfl rfl ?_
  refine Ls rfl rfl (X_new (A_bsl (vs := [(0, .string a1)]) (cs := #[.string a1]) rfl Tryz.underlying83 ty9 (by decide) rfl rfl) fun x14_3 g1 g2 => ?_)
  replace h := h x14_3 g1 g2
  refine Ls rfl rfl (X_call rfl Tryz.func76 rfl rfl rfl (ACalls.mono h ?_))
  rintro v σ ⟨x15_4, x15_5, rfl, h⟩
  refine Lp (V_move rfl rfl) rfl rfl ?_
  refine Lp (V_ext rfl rfl rfl) rfl rfl ?_
  refine Lp (V_ext rfl rfl rfl) rfl rfl ?_
  refine Lp (V_asg rfl rfl) rfl rfl ?_
  refine Lp (V_asg rfl rfl) rfl rfl ?_
  refine Lnil ?_
  refine thenN ?_
  refine AW.seq ?_
  refine AW.seq ?_
  refine AW.reg ?_
  refine Lp (V_move rfl rfl) rfl rfl ?_
  refine Lp (V_neq rfl rfl rfl) rfl rfl ?_
  refine Lnil ?_
  refine thenN ?_
  refine AW.iff rfl (bnot_iff decide_eq_true_iff) h (fun h => ?_) (fun h => ?_)
  · refine AW.seq ?_
    refine AW.reg ?_
    refine Lp (V_move rfl rfl) rfl rfl ?_
    refine Lp (V_asg rfl rfl) rfl rfl ?_
    refine Lp (V_asg rfl rfl) rfl rfl ?_
    refine Lnil ?_
    refine thenN ?_
    refine AW.ret ?_
    refine thenR ?_
    exact bR2 Tryz.results51 rfl rfl ⟨_, _, rfl, h⟩
  refine AW.skip ?_
  refine thenN ?_
  refine AW.seq ?_
  refine AW.reg ?_
  refine Lp (V_move rfl rfl) rfl rfl ?_
  obtain ⟨p22_6, ha, h0, h1, h⟩ := h
  refine Lp (V_ixA rfl Tryz.underlying140 ty102 (ixL rfl ha) rfl h0 h1) rfl rfl ?_
  obtain ⟨x23_7, hc, h⟩ := h
  refine Ls rfl rfl (X_ld rfl Tryz.underlying102 rfl rfl hc ?_)
  obtain ⟨p24_8, hc, h⟩ := h
  refine Lp (V_nil rfl (by rw [← hc]; rfl)) rfl rfl ?_
  refine Lp (V_fld rfl Tryz.underlying104 rfl ty22 (by decide) rfl) rfl rfl ?_
  obtain ⟨x26_9, hc, h⟩ := h
  refine Ls rfl rfl (X_ld rfl Tryz.underlying22 rfl rfl hc ?_)
  refine Ls rfl rfl (X_call rfl Tryz.func74 rfl rfl rfl (ACalls.mono h ?_))
  rintro v σ ⟨x27_10, rfl, h⟩
  refine Lp (V_asg rfl rfl) rfl rfl ?_
  refine Lp (V_asg rfl rfl) rfl rfl ?_
  refine Lnil ?_
  refine thenN ?_
  refine AW.ret ?_
  exact bR2 Tryz.results51 rfl rfl ⟨_, _, rfl, h⟩

def j2_disk_table_find (B : World) (ro : AH) (Q : Sl → Int → AH → Prop) (x8_3 : Sl) (σ : AH) : Prop :=
 Q x8_3 0 σ

def l4_disk_table_find (B : World) (ro : AH) (a0 : Option Nat) (a1 : Sl) (Q : Sl → Int → AH → Prop) : (Sl × Int) → AH → ((Sl × Int) → AH → Prop) → Prop := fun ⟨x8_5, x24_6⟩ σ Y4 =>
 if x24_6 < (a1.len : Int) then
  ∃ p26_7 : Addr, a1.a = some p26_7 ∧ (0 : Int) ≤ x24_6 ∧ x24_6 < (a1.len : Int) ∧
  ∃ (x27_8 : ByteArray), acell ro σ (p26_7.add (Int.toNat x24_6 * 1)) = some (.string x27_8) ∧
  awp Tryz.prog ro (Instr.lookup 37 (.map a0) (.string x27_8) false) (fun v σ =>
   (∃ (x30_9 : Option Addr), v = .pointer x30_9 ∧
    if x30_9 = none then
     Q (⟨none, 0, 0⟩ : Sl) 31 σ
    else
    nw ro σ (.cells #[.pointer x30_9] 102) fun x35_10 σ =>
    awp Tryz.prog ro (Builtin.append_ #[140, 140] 140 #[Sl.v x8_5, Sl.v (⟨some ⟨x35_10, 0, none⟩, 1, 1⟩ : Sl)]) (fun v σ => ∃ (x36_11 : Sl), v = Sl.v x36_11 ∧
     Y4 (x36_11, IntKind.i64.wrap (x24_6 + 1)) σ) σ)) σ
 else
 j2_disk_table_find B ro Q x8_5 σ

def j1_disk_table_find (B : World) (ro : AH) (a0 : Option Nat) (a1 : Sl) (Q : Sl → Int → AH → Prop) (σ : AH) : Prop :=
 lfpD (l4_disk_table_find B ro a0 a1 Q ) ((⟨none, 0, 0⟩ : Sl), 0) σ

def l12_disk_table_find (B : World) (ro : AH) (a0 : Option Nat) (a1 : Sl) (Q : Sl → Int → AH → Prop) : (Int) → AH → ((Int) → AH → Prop) → Prop := fun x14_13 σ Y12 =>
 if x14_13 < (a1.len : Int) then
  ∃ p16_14 : Addr, a1.a = some p16_14 ∧ (0 : Int) ≤ x14_13 ∧ x14_13 < (a1.len : Int) ∧
  ∃ (x17_15 : ByteArray), acell ro σ (p16_14.add (Int.toNat x14_13 * 1)) = some (.string x17_15) ∧
  c_disk_rightName B ro x17_15 σ fun x19_16 σ =>
  if ¬ (x19_16 = true) then
   Q (⟨none, 0, 0⟩ : Sl) 30 σ
  else
  Y12 (IntKind.i64.wrap (x14_13 + 1)) σ
 else
 j1_disk_table_find B ro a0 a1 Q σ

def f_disk_table_find (B : World) (ro : AH) (a0 : Option Nat) (a1 : Sl) (σ : AH) (Q : Sl → Int → AH → Prop) : Prop :=
 lfpD (l12_disk_table_find B ro a0 a1 Q ) (0) σ

set_option maxRecDepth 100000 in
set_option maxHeartbeats 4000000 in
theorem disk_table_find_ok {B : World} {ro : AH} {a0 : Option Nat} {a1 : Sl} {σ : AH} {Q : Sl → Int → AH → Prop} (h : Sep ro σ → f_disk_table_find B ro a0 a1 σ Q) : c_disk_table_find B ro a0 a1 σ Q := by
  refine ACalls.of_sep fun hsep => ?_
  replace h := h hsep
  refine ACalls.of_body (args := [.map a0, Sl.v a1]) Tryz.func76 rfl (by rw [Tryz.ntmps76]; simp) ?_
  rw [Tryz.ntmps76]
  unfold f_disk_table_find at h
  refine AW.seq ?_
  refine AW.reg ?_
  refine Lp (V_asg rfl rfl) rfl rfl ?_
  refine Lp (V_asg rfl rfl) rfl rfl ?_
  refine Lnil ?_
  refine thenN ?_
  refine AW.seqJ (fun fr σ => FrLe [(0, .map a0), (1, Sl.v a1)] fr ∧ j1_disk_table_find B ro a0 a1 Q σ) ?_ ?_
  rotate_left
  · refine AW.seq ?_
    refine AW.reg ?_
    refine Lp (V_move rfl rfl) rfl rfl ?_
    refine Lp (V_lenL rfl rfl Tryz.underlying83 rfl rfl) rfl rfl ?_
    refine Lp (V_move rfl rfl) rfl rfl ?_
    refine Lnil ?_
    refine thenN ?_
    refine AW.block ?_
    refine ARound.loop (fr' := [(0, .map a0), (1, Sl.v a1), (12, Sl.v a1), (13, .int .i64 (a1.len : Int)), (14, .int .i64 0)]) ?_ (FrLe.cons rfl (FrLe.cons rfl (FrLe.cons rfl (FrLe.cons rfl (FrLe.cons rfl (FrLe.nil _))))))
    refine h (fun x14_13 σ => ARound _ _ _ _ _ _ [(0, .map a0), (1, Sl.v a1), (12, Sl.v a1), (13, .int .i64 (a1.len : Int)), (14, .int .i64 x14_13)] σ) ?_
    rintro x14_13 σ Y12 hY12 h
    show AW _ _ _ _ _ _ _ _
    unfold l12_disk_table_find at h
    refine AW.seq ?_
    refine AW.reg ?_
    refine Lp (V_lss rfl rfl rfl) rfl rfl ?_
    refine Lnil ?_
    refine thenN ?_
    refine AW.seq ?_
    refine AW.iff rfl decide_eq_true_iff h (fun h => ?_) (fun h => ?_)
    rotate_left
    · refine AW.exit ?_
      refine thenE ?_
      refine thenE ?_
      refine blockE ?_
      refine thenN ?_
      exact ⟨(FrLe.cons rfl (FrLe.cons rfl (FrLe.nil _))), h⟩
    refine AW.skip ?_
    refine thenN ?_
    refine AW.seq ?_
    refine AW.block ?_
    refine AW.seq ?_
    refine AW.reg ?_
    obtain ⟨p16_14, ha, h0, h1, h⟩ := h
    refine Lp (V_ixA rfl Tryz.underlying83 ty9 (ixL rfl ha) rfl h0 h1) rfl rfl ?_
    obtain ⟨x17_15, hc, h⟩ := h
    refine Ls rfl rfl (X_ld rfl Tryz.underlying9 rfl rfl hc ?_)
    refine Lp (V_asg rfl rfl) rfl rfl ?_
    refine Lnil ?_
    refine thenN ?_
    refine AW.seq ?_
    refine AW.reg ?_
    refine Lp (V_move rfl rfl) rfl rfl ?_
    refine Ls rfl rfl (X_call rfl Tryz.func80 rfl rfl rfl (ACalls.mono h ?_))
    rintro v σ ⟨x19_16, rfl, h⟩
    refine Lp (V_not rfl rfl) rfl rfl ?_
    refine Lnil ?_
    refine thenN ?_
    refine AW.iff rfl (bnot_iff Iff.rfl) h (fun h => ?_) (fun h => ?_)
    · refine AW.seq ?_
      refine AW.reg ?_
      refine Lp (V_asg rfl rfl) rfl rfl ?_
      refine Lp (V_asg rfl rfl) rfl rfl ?_
      refine Lnil ?_
      refine thenN ?_
      refine AW.ret ?_
      refine blockR ?_
      refine thenR ?_
      refine thenR ?_
      refine blockR ?_
      refine thenR ?_
      exact bR2 Tryz.results76 rfl rfl ⟨_, _, rfl, h⟩
    refine AW.skip ?_
    refine blockN ?_
    refine thenN ?_
    refine AW.reg ?_
    refine Lp (V_add rfl rfl rfl) rfl rfl ?_
    refine Lp (V_move rfl rfl) rfl rfl ?_
    refine Lnil ?_
    refine thenN ?_
    refine ARound.head (fr' := [(0, .map a0), (1, Sl.v a1), (12, Sl.v a1), (13, .int .i64 (a1.len : Int)), (14, .int .i64 (IntKind.i64.wrap (x14_13 + 1)))]) ?_ (FrLe.cons rfl (FrLe.cons rfl (FrLe.cons rfl (FrLe.cons rfl (FrLe.cons rfl (FrLe.nil _))))))
    exact hY12 _ _ h
  rintro fr σ ⟨hl, h⟩
  refine AW.weaken ?_ hl (HLe.refl _)
  unfold j1_disk_table_find at h
  refine AW.seq ?_
  refine AW.reg ?_
  refine Lp (V_asg rfl rfl) rfl rfl ?_
  refine Lnil ?_
  refine thenN ?_
  refine AW.seqJ (fun fr σ => ∃ (x8_3 : Sl), FrLe [(8, Sl.v x8_3)] fr ∧ j2_disk_table_find B ro Q x8_3 σ) ?_ ?_
  · rintro fr σ ⟨x8_3, hl, h⟩
    refine AW.weaken ?_ hl (HLe.refl _)
    unfold j2_disk_table_find at h
    refine AW.seq ?_
    refine AW.reg ?_
    refine Lp (V_move rfl rfl) rfl rfl ?_
    refine Lp (V_asg rfl rfl) rfl rfl ?_
    refine Lp (V_asg rfl rfl) rfl rfl ?_
    refine Lnil ?_
    refine thenN ?_
    refine AW.ret ?_
    exact bR2 Tryz.results76 rfl rfl ⟨_, _, rfl, h⟩
  refine AW.seq ?_
  refine AW.reg ?_
  refine Lp (V_move rfl rfl) rfl rfl ?_
  refine Lp (V_lenL rfl rfl Tryz.underlying83 rfl rfl) rfl rfl ?_
  refine Lp (V_move rfl rfl) rfl rfl ?_
  refine Lnil ?_
  refine thenN ?_
  refine AW.block ?_
  refine ARound.loop (fr' := [(0, .map a0), (22, Sl.v a1), (23, .int .i64 (a1.len : Int)), (8, Sl.v (⟨none, 0, 0⟩ : Sl)), (24, .int .i64 0)]) ?_ (FrLe.cons rfl (FrLe.cons rfl (FrLe.cons rfl (FrLe.cons rfl (FrLe.cons rfl (FrLe.nil _))))))
  refine h (fun ⟨x8_5, x24_6⟩ σ => ARound _ _ _ _ _ _ [(0, .map a0), (22, Sl.v a1), (23, .int .i64 (a1.len : Int)), (8, Sl.v x8_5), (24, .int .i64 x24_6)] σ) ?_
  rintro ⟨x8_5, x24_6⟩ σ Y4 hY4 h
  show AW _ _ _ _ _ _ _ _
  unfold l4_disk_table_find at h
  dsimp only at h
  refine AW.seq ?_
  refine AW.reg ?_
  refine Lp (V_lss rfl rfl rfl) rfl rfl ?_
  refine Lnil ?_
  refine thenN ?_
  refine AW.seq ?_
  refine AW.iff rfl decide_eq_true_iff h (fun h => ?_) (fun h => ?_)
  rotate_left
  · refine AW.exit ?_
    refine thenE ?_
    refine thenE ?_
    refine blockE ?_
    refine thenN ?_
    exact ⟨_, (FrLe.cons rfl (FrLe.nil _)), h⟩
  refine AW.skip ?_
  refine thenN ?_
  refine AW.seq ?_
  refine AW.block ?_
  refine AW.seq ?_
  refine AW.reg ?_
  obtain ⟨p26_7, ha, h0, h1, h⟩ := h
  refine Lp (V_ixA rfl Tryz.underlying83 ty9 (ixL rfl ha) rfl h0 h1) rfl rfl ?_
  obtain ⟨x27_8, hc, h⟩ := h
  refine Ls rfl rfl (X_ld rfl Tryz.underlying9 rfl rfl hc ?_)
  refine Lp (V_asg rfl rfl) rfl rfl ?_
  refine Lnil ?_
  refine thenN ?_
  refine AW.seq ?_
  refine AW.reg ?_
  refine Lp (V_move rfl rfl) rfl rfl ?_
  refine Lp (V_move rfl rfl) rfl rfl ?_
  refine Ls rfl rfl (X_lkp rfl rfl rfl (awp_mono _ h ?_))
  rintro v σ ⟨x30_9, rfl, h⟩
  refine Lp (V_asg rfl rfl) rfl rfl ?_
  refine Lnil ?_
  refine thenN ?_
  refine AW.seq ?_
  refine AW.seq ?_
  refine AW.reg ?_
  refine Lp (V_move rfl rfl) rfl rfl ?_
  refine Lp (V_eqP rfl Tryz.underlying102 rfl rfl) rfl rfl ?_
  refine Lnil ?_
  refine thenN ?_
  refine AW.iff rfl isNone_iff h (fun h => ?_) (fun h => ?_)
  · refine AW.seq ?_
    refine AW.reg ?_
    refine Lp (V_asg rfl rfl) rfl rfl ?_
    refine Lp (V_asg rfl rfl) rfl rfl ?_
    refine Lnil ?_
    refine thenN ?_
    refine AW.ret ?_
    refine thenR ?_
    refine blockR ?_
    refine thenR ?_
    refine thenR ?_
    refine blockR ?_
    refine thenR ?_
    exact bR2 Tryz.results76 rfl rfl ⟨_, _, rfl, h⟩
  refine AW.skip ?_
  refine thenN ?_
  refine AW.reg ?_
  refine Lp (V_move rfl rfl) rfl rfl ?_
  refine Lp (V_move rfl rfl) rfl rfl ?_
  refine Ls rfl rfl (X_new (A_bsl (vs := [(0, .pointer x30_9)]) (cs := #[.pointer x30_9]) rfl Tryz.underlying140 ty102 (by decide) rfl rfl) fun x35_10 g1 g2 => ?_)
  replace h := h x35_10 g1 g2
  refine Ls rfl rfl (X_bi (s := Builtin.append_ #[140, 140] 140 #[Sl.v x8_5, Sl.v (⟨some ⟨x35_10, 0, none⟩, 1, 1⟩ : Sl)]) rfl rfl (fun _ => rfl) (awp_mono _ h ?_))
  rintro v σ ⟨x36_11, rfl, h⟩
  refine Lp (V_asg rfl rfl) rfl rfl ?_
  refine Lnil ?_
  refine blockN ?_
  refine thenN ?_
  refine AW.reg ?_
  refine Lp (V_add rfl rfl rfl) rfl rfl ?_
  refine Lp (V_move rfl rfl) rfl rfl ?_
  refine Lnil ?_
  refine thenN ?_
  refine ARound.head (fr' := [(0, .map a0), (22, Sl.v a1), (23, .int .i64 (a1.len : Int)), (8, Sl.v x36_11), (24, .int .i64 (IntKind.i64.wrap (x24_6 + 1)))]) ?_ (FrLe.cons rfl (FrLe.cons rfl (FrLe.cons rfl (FrLe.cons rfl (FrLe.cons rfl (FrLe.nil _))))))
  exact hY4 _ _ h

def f_disk_rightName (B : World) (ro : AH) (a0 : ByteArray) (σ : AH) (Q : Bool → AH → Prop) : Prop :=
 if (a0 = (⟨#[]⟩ : ByteArray)) ∨ (40 < (a0.size : Int)) then
  Q false σ
 else
 awp Tryz.prog ro (convert 9 22 (.string a0)) (fun v σ =>
  (∃ (x11_1 : Sl), v = Sl.v x11_1 ∧
   c_slices_ContainsFunc_byte_byte B ro x11_1 (.func (.func 106) #[] #[]) σ fun x12_2 σ =>
   Q (!x12_2) σ)) σ

set_option maxRecDepth 100000 in
set_option maxHeartbeats 4000000 in
theorem disk_rightName_ok {B : World} {ro : AH} {a0 : ByteArray} {σ : AH} {Q : Bool → AH → Prop} (h : Sep ro σ → f_disk_rightName B ro a0 σ Q) : c_disk_rightName B ro a0 σ Q := by
  refine ACalls.of_sep fun hsep => ?_
  replace h := h hsep
  refine ACalls.of_body (args := [.string a0]) Tryz.func80 rfl (by rw [Tryz.ntmps80]; simp) ?_
  rw [Tryz.ntmps80]
  unfold f_disk_rightName at h
  refine AW.seq ?_
  refine AW.reg ?_
  refine Lp (V_asg rfl rfl) rfl rfl ?_
  refine Lnil ?_
  refine thenN ?_
  refine AW.seq ?_
  refine AW.seq ?_
  refine AW.reg ?_
  refine Lp (V_move rfl rfl) rfl rfl ?_
  refine Lp (V_eqlS rfl rfl rfl) rfl rfl ?_
  refine Lp (V_move rfl rfl) rfl rfl ?_
  refine Lsplit 4 (decide (a0 = (⟨#[]⟩ : ByteArray))) [(0, .string a0), (9, .bool ((decide (a0 = (⟨#[]⟩ : ByteArray))) || (decide (40 < (a0.size : Int)))))] ?_ ?_ ?_
  · intro e2 hk2
    refine Ln rfl rfl rfl rfl (.inl (by rw [e2]; rfl)) ?_
    refine Ln rfl rfl rfl rfl (.inl (by rw [e2]; rfl)) ?_
    refine Ln rfl rfl rfl rfl (.inl (by rw [e2]; rfl)) ?_
    refine Lp (V_pickT rfl (evb e2) rfl) rfl rfl ?_
    exact hk2 _ (FrLe.cons rfl (FrLe.cons (by rw [e2]; rfl) (FrLe.nil _)))
  · intro e2 hk2
    refine Lypb (V_move rfl rfl) rfl rfl rfl rfl e2 ?_
    refine Lypb (V_lenS rfl rfl Tryz.underlying9 rfl rfl) rfl rfl rfl rfl e2 ?_
    refine Lypb (V_gtr rfl rfl rfl) rfl rfl rfl rfl e2 ?_
    refine Lp (V_pickF rfl (evb e2) rfl) rfl rfl ?_
    exact hk2 _ (FrLe.cons rfl (FrLe.cons (by rw [e2]; rfl) (FrLe.nil _)))
  intro fr hl
  refine Lfr hl ?_
  refine Lnil ?_
  refine thenN ?_
  refine AW.iff rfl (bor_iff decide_eq_true_iff decide_eq_true_iff) h (fun h => ?_) (fun h => ?_)
  · refine AW.seq ?_
    refine AW.reg ?_
    refine Lp (V_asg rfl rfl) rfl rfl ?_
    refine Lnil ?_
    refine thenN ?_
    refine AW.ret ?_
    refine thenR ?_
    exact bR1 Tryz.results80 rfl ⟨_, rfl, h⟩
  refine AW.skip ?_
  refine thenN ?_
  refine AW.seq ?_
  refine AW.reg ?_
  refine Lp (V_move rfl rfl) rfl rfl ?_
  refine Ls rfl rfl (X_cvt rfl rfl (awp_mono _ h ?_))
  rintro v σ ⟨x11_1, rfl, h⟩
  refine Ls rfl rfl (X_call rfl Tryz.func105 rfl rfl rfl (ACalls.mono h ?_))
  rintro v σ ⟨x12_2, rfl, h⟩
  refine Lp (V_not rfl rfl) rfl rfl ?_
  refine Lp (V_asg rfl rfl) rfl rfl ?_
  refine Lnil ?_
  refine thenN ?_
  refine AW.ret ?_
  exact bR1 Tryz.results80 rfl ⟨_, rfl, h⟩

def j1_disk_rightName_c1 (B : World) (ro : AH) (a0 : Int) (Q : Bool → AH → Prop) (x16_2 : Bool) (σ : AH) : Prop :=
 Q ((x16_2 && (!(decide (a0 = 46)))) && (!(decide (a0 = 45)))) σ

def f_disk_rightName_c1 (B : World) (ro : AH) (a0 : Int) (σ : AH) (Q : Bool → AH → Prop) : Prop :=
 if (a0 < 97) ∨ (122 < a0) then
  j1_disk_rightName_c1 B ro a0 Q ((decide (a0 < 48)) || (decide (57 < a0))) σ
 else
 j1_disk_rightName_c1 B ro a0 Q false σ

set_option maxRecDepth 100000 in
set_option maxHeartbeats 4000000 in
theorem disk_rightName_c1_ok {B : World} {ro : AH} {a0 : Int} {σ : AH} {Q : Bool → AH → Prop} (h : Sep ro σ → f_disk_rightName_c1 B ro a0 σ Q) : c_disk_rightName_c1 B ro a0 σ Q := by
  refine ACalls.of_sep fun hsep => ?_
  replace h := h hsep
  refine ACalls.of_body (args := [.int .u8 a0]) Tryz.func106 rfl (by rw [Tryz.ntmps106]; simp) ?_
  rw [Tryz.ntmps106]
  unfold f_disk_rightName_c1 at h
  refine AW.seq ?_
  refine AW.reg ?_
  refine Lp (V_asg rfl rfl) rfl rfl ?_
  refine Lnil ?_
  refine thenN ?_
  refine AW.seq ?_
  refine AW.reg ?_
  refine Lp (V_move rfl rfl) rfl rfl ?_
  refine Lp (V_lss rfl rfl rfl) rfl rfl ?_
  refine Lp (V_move rfl rfl) rfl rfl ?_
  refine Lsplit 3 (decide (a0 < 97)) [(0, .int .u8 a0), (8, .bool ((decide (a0 < 97)) || (decide (122 < a0))))] ?_ ?_ ?_
  · intro e2 hk2
    refine Ln rfl rfl rfl rfl (.inl (by rw [e2]; rfl)) ?_
    refine Ln rfl rfl rfl rfl (.inl (by rw [e2]; rfl)) ?_
    refine Lp (V_pickT rfl (evb e2) rfl) rfl rfl ?_
    exact hk2 _ (FrLe.cons rfl (FrLe.cons (by rw [e2]; rfl) (FrLe.nil _)))
  · intro e2 hk2
    refine Lypb (V_move rfl rfl) rfl rfl rfl rfl e2 ?_
    refine Lypb (V_gtr rfl rfl rfl) rfl rfl rfl rfl e2 ?_
    refine Lp (V_pickF rfl (evb e2) rfl) rfl rfl ?_
    exact hk2 _ (FrLe.cons rfl (FrLe.cons (by rw [e2]; rfl) (FrLe.nil _)))
  intro fr hl
  refine Lfr hl ?_
  refine Lp (V_move rfl rfl) rfl rfl ?_
  refine LsplitJ 7 ((decide (a0 < 97)) || (decide (122 < a0))) (bor_iff decide_eq_true_iff decide_eq_true_iff) h (fun fr σ => ∃ (x16_2 : Bool), FrLe [(0, .int .u8 a0), (16, .bool x16_2)] fr ∧ j1_disk_rightName_c1 B ro a0 Q x16_2 σ) ?_ ?_ ?_
  · intro h e6 hk6
    refine Lypb (V_move rfl rfl) rfl rfl rfl rfl e6 ?_
    refine Lypb (V_lss rfl rfl rfl) rfl rfl rfl rfl e6 ?_
    refine Lypb (V_move rfl rfl) rfl rfl rfl rfl e6 ?_
    refine Lsplit 3 (decide (a0 < 48)) [(0, .int .u8 a0), (9, .bool ((decide (a0 < 97)) || (decide (122 < a0)))), (15, .bool ((decide (a0 < 48)) || (decide (57 < a0))))] ?_ ?_ ?_
    · intro e9 hk9
      refine Ln rfl rfl rfl rfl (.inl (by rw [e9]; rfl)) ?_
      refine Ln rfl rfl rfl rfl (.inl (by rw [e9]; rfl)) ?_
      refine Lypb (V_pickT rfl (evb e9) rfl) rfl rfl rfl rfl e6 ?_
      exact hk9 _ (FrLe.cons rfl (FrLe.cons rfl (FrLe.cons (by rw [e9]; rfl) (FrLe.nil _))))
    · intro e9 hk9
      refine Lypb (V_move rfl rfl) rfl rfl rfl rfl e9 ?_
      refine Lypb (V_gtr rfl rfl rfl) rfl rfl rfl rfl e9 ?_
      refine Lypb (V_pickF rfl (evb e9) rfl) rfl rfl rfl rfl e6 ?_
      exact hk9 _ (FrLe.cons rfl (FrLe.cons rfl (FrLe.cons (by rw [e9]; rfl) (FrLe.nil _))))
    intro fr hl
    refine Lfr hl ?_
    refine Lp (V_pickT rfl (evb e6) rfl) rfl rfl ?_
    exact hk6 _ _ ⟨_, (FrLe.cons rfl (FrLe.cons rfl (FrLe.nil _))), h⟩
  · intro h e6 hk6
    refine Ln rfl rfl rfl rfl (.inl (by rw [e6]; rfl)) ?_
    refine Ln rfl rfl rfl rfl (.inl (by rw [e6]; rfl)) ?_
    refine Ln rfl rfl rfl rfl (.inl (by rw [e6]; rfl)) ?_
    refine Ln rfl rfl rfl rfl (.inr rfl) ?_
    refine Ln rfl rfl rfl rfl (.inr rfl) ?_
    refine Ln rfl rfl rfl rfl (.inl (by rw [e6]; rfl)) ?_
    refine Lp (V_pickF rfl (evb e6) rfl) rfl rfl ?_
    exact hk6 _ _ ⟨_, (FrLe.cons rfl (FrLe.cons rfl (FrLe.nil _))), h⟩
  rintro fr σ ⟨x16_2, hl, h⟩
  unfold j1_disk_rightName_c1 at h
  refine Lfr hl ?_
  refine Lp (V_move rfl rfl) rfl rfl ?_
  refine Lsplit 3 x16_2 [(0, .int .u8 a0), (20, .bool (x16_2 && (!(decide (a0 = 46)))))] ?_ ?_ ?_
  · intro e14 hk14
    refine Lypb (V_move rfl rfl) rfl rfl rfl rfl e14 ?_
    refine Lypb (V_neq rfl rfl rfl) rfl rfl rfl rfl e14 ?_
    refine Lp (V_pickT rfl (evb e14) rfl) rfl rfl ?_
    exact hk14 _ (FrLe.cons rfl (FrLe.cons (by rw [e14]; rfl) (FrLe.nil _)))
  · intro e14 hk14
    refine Ln rfl rfl rfl rfl (.inl (by rw [e14]; rfl)) ?_
    refine Ln rfl rfl rfl rfl (.inl (by rw [e14]; rfl)) ?_
    refine Lp (V_pickF rfl (evb e14) rfl) rfl rfl ?_
    exact hk14 _ (FrLe.cons rfl (FrLe.cons (by rw [e14]; rfl) (FrLe.nil _)))
  intro fr hl
  refine Lfr hl ?_
  refine Lp (V_move rfl rfl) rfl rfl ?_
  refine Lsplit 3 (x16_2 && (!(decide (a0 = 46)))) [(24, .bool ((x16_2 && (!(decide (a0 = 46)))) && (!(decide (a0 = 45)))))] ?_ ?_ ?_
  · intro e18 hk18
    refine Lypb (V_move rfl rfl) rfl rfl rfl rfl e18 ?_
    refine Lypb (V_neq rfl rfl rfl) rfl rfl rfl rfl e18 ?_
    refine Lp (V_pickT rfl (evb e18) rfl) rfl rfl ?_
    exact hk18 _ (FrLe.cons (by rw [e18]; rfl) (FrLe.nil _))
  · intro e18 hk18
    refine Ln rfl rfl rfl rfl (.inl (by rw [e18]; rfl)) ?_
    refine Ln rfl rfl rfl rfl (.inl (by rw [e18]; rfl)) ?_
    refine Lp (V_pickF rfl (evb e18) rfl) rfl rfl ?_
    exact hk18 _ (FrLe.cons (by rw [e18]; rfl) (FrLe.nil _))
  intro fr hl
  refine Lfr hl ?_
  refine Lp (V_asg rfl rfl) rfl rfl ?_
  refine Lnil ?_
  refine thenN ?_
  refine AW.ret ?_
  exact bR1 Tryz.results106 rfl ⟨_, rfl, h⟩

end Go.Proofs.YtfobjidchipdaaaGreatDoor.G

/- Disks, the walk: names, how much is used, files found and read. -/
namespace Go.Proofs.YtfobjidchipdaaaGreatDoor.Dk
open Go Go.Proofs.YtfobjidchipdaaaGreatDoor.SL Go.Proofs.YtfobjidchipdaaaGreatDoor.G Go.Proofs.YtfobjidchipdaaaGreatDoor.Pa
set_option linter.unusedSimpArgs false
set_option linter.unusedVariables false
set_option maxRecDepth 100000
variable {B : World} {ro σ σ' : AH} {tag tag' : Nat → Nat}
theorem u9 : Tryz.prog.underlying 9 = some .string := by kernel_rfl
theorem u37 : Tryz.prog.underlying 37 = some (.map 9 102) := by kernel_rfl
theorem u140 : Tryz.prog.underlying 140 = some (.slice 102) := by kernel_rfl
theorem S_size' (x : Str) : (S x).size = x.length := by rw [← L_len, L_S]

/-! ### names -/
def badC (c : UInt8) : Bool := ((decide (c.toNat < 97) || decide (122 < c.toNat)) && (decide (c.toNat < 48) || decide (57 < c.toNat))) && !decide (c.toNat = 46) && !decide (c.toNat = 45)
def dName (s : Str) : Bool := !decide (s = []) && decide (s.length ≤ 40) && !s.any badC
theorem call106 {c : UInt8} {K : Value → AH → Prop} (hK : K (.bool (badC c)) σ) : callV Tryz.prog B ro (.func (.func 106) #[] #[]) [vU c] σ K := by
  refine ⟨106, Tryz.f106, #[], #[], rfl, Tryz.func106, by kernel_rfl, by kernel_rfl, ?_⟩
  have : c_disk_rightName_c1 B ro (c.toNat : Int) σ fun r σ => K (.bool r) σ := by
    refine disk_rightName_c1_ok fun _ => ?_
    unfold f_disk_rightName_c1 j1_disk_rightName_c1
    unfold badC at hK
    by_cases h : (c.toNat : Int) < 97 ∨ (122 : Int) < (c.toNat : Int)
    · rw [if_pos h]
      rw [show (decide (c.toNat < 97) || decide (122 < c.toNat)) = true by simp; omega] at hK
      rw [show decide ((c.toNat : Int) < 48) = decide (c.toNat < 48) by simp; omega, show decide ((57 : Int) < (c.toNat : Int)) = decide (57 < c.toNat) by simp; omega,
        show decide ((c.toNat : Int) = 46) = decide (c.toNat = 46) by simp; omega, show decide ((c.toNat : Int) = 45) = decide (c.toNat = 45) by simp; omega]
      exact hK
    · rw [if_neg h]
      rw [show (decide (c.toNat < 97) || decide (122 < c.toNat)) = false by simp; omega] at hK
      exact hK
  exact ACalls.mono this fun v τ ⟨r, e, q⟩ => e ▸ q
theorem rightName_ok {s : Str} {Q : Bool → AH → Prop} (hQ : Q (dName s) σ) : c_disk_rightName B ro (S s) σ Q := by
  refine ACalls.quiet (R := fun v => v = .bool (dName s)) ?_ (fun v hv => ⟨_, hv, hQ⟩)
  have : c_disk_rightName B ro (S s) (fun _ => none) fun r _ => r = dName s := by
    refine disk_rightName_ok fun hs => ?_
    unfold f_disk_rightName
    have e0 : (S s = (⟨#[]⟩ : ByteArray)) ↔ s = [] := by
      rw [show (⟨#[]⟩ : ByteArray) = S [] from rfl, S_inj]
    by_cases h : S s = (⟨#[]⟩ : ByteArray) ∨ (40 : Int) < ((S s).size : Int)
    · rw [if_pos h]
      rw [S_size', e0] at h
      unfold dName
      rcases h with h | h
      · simp [h]
      · rw [show decide (s.length ≤ 40) = false by simp; omega]; simp
    · rw [if_neg h]
      rw [S_size', e0] at h
      have h1 : s ≠ [] := fun e => h (.inl e)
      have h2 : s.length ≤ 40 := by have : ¬ (40 : Int) < (s.length : Int) := fun e => h (.inr e); omega
      refine Zt.awp_s2b (tag := fun _ => 0) hs fun x tag1 σ1 st1 hx => ?_
      refine ⟨x, rfl, ?_⟩
      refine Zt.containsFunc_ok (f := badC) (hx.read (st1 []).sep) (by omega) (fun c _ K hK => call106 hK) ?_
      unfold dName
      simp [h1, h2]
  exact ACalls.mono this fun v τ ⟨r, e, q⟩ => by rw [e, q]

/-! ### how much -/
def used (fs : Fs) : Nat := (fs.map (·.2.b.length)).sum
theorem sum_perm {l l' : List Nat} (h : l.Perm l') : l.sum = l'.sum := by
  induction h with
  | nil => rfl
  | cons x _ ih => simp [ih]
  | swap x y l => simp; omega
  | trans _ _ h1 h2 => exact h1.trans h2
def szOf (ps : Ps) (k : Str) : Nat := ((ps.lookup k).map fun x => x.2.b.length).getD 0
theorem used_sz {ps : Ps} (hn : (ps.map (·.1)).Nodup) : ((ps.map kvp).map fun p => szOf ps p.1).sum = used (pfs ps) := by
  unfold used pfs
  rw [List.map_map, List.map_map]
  congr 1
  refine List.map_congr_left fun p hp => ?_
  show szOf ps p.1 = p.2.2.b.length
  unfold szOf
  rw [lookup_mem hn (k := p.1) (x := p.2) hp]; rfl
theorem used_ok {r M : Nat} {ps : Ps} {Q : Int → AH → Prop} (hm : MapIs tag σ (r + 64) M (ps.map kvp)) (hn : (ps.map (·.1)).Nodup) (hf : ∀ p ∈ ps, FileAt 104 tag σ r p.2.1 p.2.2) (hr : r < 64) (hr0 : r ≠ 0) (hs : SL.Sep ro σ)
    (hu : used (pfs ps) < 4611686018427387904) (hQ : ∀ tag' σ', Step [0] ro tag σ tag' σ' → Q (used (pfs ps) : Nat) σ') : c_disk_table_Used B ro (some M) σ Q := by
  refine disk_table_Used_ok fun _ => ?_
  unfold f_disk_table_Used
  refine map_loop (F := fun p => l4_disk_table_Used B ro p Q) (R := []) (ty := 0) u37 hm hs (by simp) (by simp) (by omega)
    (fun d n tag1 σ1 => Step [0] ro tag σ tag1 σ1 ∧ n = ((d.map fun p => szOf ps p.1).sum : Nat)) (E := fun n σ => Q n σ)
    (G := fun n a b σ Y => ∃ (x10_9 : Option Addr), b = .pointer x10_9 ∧ ∃ p14_10 : Addr, x10_9 = some p14_10 ∧ ∃ (x16_11 : Sl), acell ro σ p14_10 = some (Sl.v x16_11) ∧ Y (IntKind.i64.wrap (n + (x16_11.len : Int))) σ) ?_ ?_ ?_ ?_ ?_
  · intro p s σ1 Y h
    unfold l4_disk_table_Used
    refine awp_mono _ h ?_
    rintro v σ2 (⟨h1, h2⟩ | ⟨a, b, h1, h2⟩)
    · exact .inl ⟨h1, h2⟩
    · refine .inr ⟨a, b, h1, awp_mono _ h2 ?_⟩
      rintro v σ3 ⟨a, b, rfl, x, rfl, h⟩
      exact ⟨a, x, rfl, h⟩
  · rintro d s tag1 σ1 tag2 σ2 ⟨h1, h2⟩ st
    exact ⟨h1.trans st, h2⟩
  · rintro d s tag1 σ1 hp hs1 ⟨h1, rfl⟩
    have e : (d.map fun p => szOf ps p.1).sum = used (pfs ps) := by
      rw [← used_sz hn]; exact sum_perm (hp.map _)
    rw [e]; exact hQ tag1 σ1 h1
  · rintro d p q s tag1 σ1 Y hp hs1 ⟨h1, rfl⟩ hm1 hY
    have hin : p ∈ ps.map kvp := hp.mem_iff.1 (by simp)
    obtain ⟨p', hp', rfl⟩ := List.mem_map.1 hin
    obtain ⟨k, b, f⟩ := p'
    obtain ⟨s, hc, hb⟩ := (hf _ hp').keep h1 (by simp) (by simp)
    obtain ⟨q', hq, hg⟩ := hc.ptr hs1 (by simp)
    cases hq
    refine ⟨_, rfl, _, rfl, s, hg 0 _ rfl, ?_⟩
    have hl : s.len = f.b.length := by rw [hb.len, List.length_map]
    have e1 : szOf ps k = f.b.length := by unfold szOf; rw [lookup_mem hn hp']; rfl
    have hle : (d.map fun p => szOf ps p.1).sum + f.b.length ≤ used (pfs ps) := by
      rw [← used_sz hn, ← sum_perm (hp.map fun p : Str × Value => szOf ps p.1)]
      rw [List.map_append, List.map_cons, List.sum_append, List.sum_cons]
      show _ ≤ _ + (szOf ps k + _)
      rw [e1]; omega
    refine hY _ tag1 σ1 (Step.refl hs1) ⟨h1, ?_⟩
    rw [SL.w64_eq (by omega) (by omega), hl, List.map_append, List.sum_append]
    show _ = ((_ + (szOf ps k + 0) : Nat) : Int)
    rw [e1]; omega
  · exact ⟨Step.refl hs, rfl⟩
end Go.Proofs.YtfobjidchipdaaaGreatDoor.Dk

/- Disks, the walk: files found, read, made safe, renamed, removed. -/
namespace Go.Proofs.YtfobjidchipdaaaGreatDoor.Dk
open Go Go.Proofs.YtfobjidchipdaaaGreatDoor.SL Go.Proofs.YtfobjidchipdaaaGreatDoor.G Go.Proofs.YtfobjidchipdaaaGreatDoor.Pa
set_option linter.unusedSimpArgs false
set_option linter.unusedVariables false
set_option maxRecDepth 100000
variable {B : World} {ro σ σ' : AH} {tag tag' : Nat → Nat}
theorem lk {r M : Nat} {ps : Ps} {k : Str} {K : Value → AH → Prop} (hm : MapIs tag σ (r + 64) M (ps.map kvp)) (hs : SL.Sep ro σ) (hK : K (.pointer ((ps.lookup k).map fun x => (⟨x.1, 0, none⟩ : Addr))) σ) : awp Tryz.prog ro (Instr.lookup 37 (.map (some M)) (.string (S k)) false) K σ := by
  refine awp_lookup_str hm hs u37 u9 ty102 ?_
  rw [kvp_lookup]
  cases h : ps.lookup k with
  | none => rw [h] at hK; exact hK
  | some x => rw [h] at hK; exact hK
theorem find_ok {r M q : Nat} {s : Sl} {ns : List Str} {ps : Ps} {Q : Sl → Int → AH → Prop} (hm : MapIs tag σ (r + 64) M (ps.map kvp)) (hr : r < 64) (hr0 : r ≠ 0) (hs : SL.Sep ro σ) (hrow : Row tag σ q 9 s (ns.map Pa.vS)) (hq : q ≠ 0) (hl : ns.length ≤ 4398046511104)
    (hbad : ns.all dName = false → Q ⟨none, 0, 0⟩ 30 σ)
    (hmiss : ns.all dName = true → (∃ n ∈ ns, ps.lookup n = none) → ∀ tag' σ', Step [0] ro tag σ tag' σ' → Q ⟨none, 0, 0⟩ 31 σ')
    (hok : ns.all dName = true → ∀ bs : List (Nat × Fl), ns.map (fun n => ps.lookup n) = bs.map some → ∀ s' tag' σ', Step [0] ro tag σ tag' σ' → Row tag' σ' 0 102 s' (bs.map fun b => ptr b.1) → Q s' 0 σ') :
    c_disk_table_find B ro (some M) s σ Q := by
  refine disk_table_find_ok fun _ => ?_
  unfold f_disk_table_find
  have hln : s.len = ns.length := by rw [hrow.len, List.length_map]
  have second : ns.all dName = true → ∀ (m j : Nat) (bs : List (Nat × Fl)) (s' : Sl) (tag1 : Nat → Nat) (σ1 : AH), j + m = ns.length → (ns.take j).map (fun n => ps.lookup n) = bs.map some → Step [0] ro tag σ tag1 σ1 → Row tag1 σ1 0 102 s' (bs.map fun b => ptr b.1) → lfpD (l4_disk_table_find B ro (some M) s Q) (s', (j : Int)) σ1 := by
    intro hall m
    induction m with
    | zero =>
      intro j bs s' tag1 σ1 hj hbs st hr'
      refine lfpD.intro ?_
      unfold l4_disk_table_find
      simp only
      rw [if_neg (by omega)]
      unfold j2_disk_table_find
      rw [List.take_of_length_le (by omega)] at hbs
      exact hok hall bs hbs s' tag1 σ1 st hr'
    | succ m ih =>
      intro j bs s' tag1 σ1 hj hbs st hr'
      have hjl : j < ns.length := by omega
      refine lfpD.intro ?_
      unfold l4_disk_table_find
      simp only
      rw [if_pos (by omega)]
      obtain ⟨p, hp, _, hg⟩ := Row.sget (hrow.keep st (by simpa using hq)) st.sep hjl
      refine ⟨p, hp, by omega, by omega, S ns[j], by rw [Int.toNat_natCast]; exact hg j hjl, ?_⟩
      refine lk (hm.keep st (by simp)) st.sep ?_
      refine ⟨_, rfl, ?_⟩
      cases hx : ps.lookup ns[j] with
      | none =>
        rw [if_pos (by simp)]
        exact hmiss hall ⟨_, List.getElem_mem hjl, hx⟩ tag1 σ1 st
      | some x =>
        rw [if_neg (by simp)]
        refine nw_cells (tag := tag1) 0 st.sep fun b tag2 σ2 st2 r2 => ?_
        have hb : bs.length = j := by have := congrArg List.length hbs; simp at this; omega
        refine awp_append1 (hr'.keep (st2 []) (by simp)) (st2 []).sep u140 ty102 rfl rfl (Row.cell1 r2 (st2 []).sep) rfl (by simp; omega) (by decide) fun s2 tag3 σ3 st3 r3 => ?_
        refine ⟨s2, rfl, ?_⟩
        rw [Pa.inc j (by omega)]
        refine ih (j + 1) (bs ++ [x]) s2 tag3 σ3 (by omega) ?_ (st.trans ((st2 [0]).trans st3)) ?_
        · rw [List.take_add_one, List.getElem?_eq_getElem hjl, List.map_append, List.map_append, hbs]
          simp [hx]
        · rw [List.map_append]; exact r3
  suffices ∀ (m j : Nat), j + m = ns.length → (ns.take j).all dName = true → lfpD (l12_disk_table_find B ro (some M) s Q) (j : Int) σ from this _ 0 (Nat.zero_add _) rfl
  intro m
  induction m with
  | zero =>
    intro j hj ha
    refine lfpD.intro ?_
    unfold l12_disk_table_find
    rw [if_neg (by omega)]
    unfold j1_disk_table_find
    rw [List.take_of_length_le (by omega)] at ha
    exact second ha _ 0 [] _ tag σ (Nat.zero_add _) rfl (Step.refl hs) (Row.nil 0 102)
  | succ m ih =>
    intro j hj ha
    have hjl : j < ns.length := by omega
    refine lfpD.intro ?_
    unfold l12_disk_table_find
    rw [if_pos (by omega)]
    obtain ⟨p, hp, _, hg⟩ := Row.sget hrow hs hjl
    refine ⟨p, hp, by omega, by omega, S ns[j], by rw [Int.toNat_natCast]; exact hg j hjl, ?_⟩
    refine rightName_ok ?_
    by_cases c : dName ns[j] = true
    · rw [if_neg (by simpa using c), Pa.inc j (by omega)]
      refine ih (j + 1) (by omega) ?_
      rw [List.take_add_one, List.getElem?_eq_getElem hjl, List.all_append, ha]
      simpa using c
    · rw [if_pos (by simpa using c)]
      refine hbad ?_
      rw [← Bool.not_eq_true, List.all_eq_true]
      exact fun h => c (h _ (List.getElem_mem hjl))

theorem one_map {α β : Type} {f : α → Option β} {n : α} {bs : List β} (h : [n].map f = bs.map some) : ∃ x, f n = some x ∧ bs = [x] := by
  cases bs with
  | nil => cases h
  | cons a l =>
    cases l with
    | nil => exact ⟨a, by simpa using h, rfl⟩
    | cons b l => simp at h
/-! ### a disk -/
abbrev Disk (tag : Nat → Nat) (σ : AH) (r T M : Nat) (cap : Int) (ps : Ps) : Prop := DiskAt 39 104 tag σ r T M cap ps
theorem DiskAt.ptrs {r T M : Nat} {cap : Int} {ps : Ps} (h : Disk tag σ r T M cap ps) (hs : SL.Sep ro σ) : acell ro σ ⟨T, 0, none⟩ = some (.map (some M)) ∧ acell ro σ ((⟨T, 0, none⟩ : Addr).add 1) = some (.int .i64 cap) := by
  obtain ⟨p, hp, hg⟩ := h.cell.ptr hs (by simp)
  cases hp
  exact ⟨hg 0 _ rfl, hg 1 _ rfl⟩
theorem read_ok {r T M : Nat} {cap : Int} {ps : Ps} {n : Str} {Q : Sl → Int → AH → Prop} (h : Disk tag σ r T M cap ps) (hr : r < 64) (hr0 : r ≠ 0) (hs : SL.Sep ro σ) (hbl : ∀ p ∈ ps, p.2.2.b.length ≤ 140737488355328)
    (hno : ∀ e tag' σ', (dName n = false ∧ e = 30) ∨ (dName n = true ∧ ps.lookup n = none ∧ e = 31) → Step [0] ro tag σ tag' σ' → Q ⟨none, 0, 0⟩ e σ')
    (hok : dName n = true → ∀ b f, ps.lookup n = some (b, f) → ∀ s' tag' σ', Step [0] ro tag σ tag' σ' → Row tag' σ' 6 5 s' (f.b.map vU) → Q s' 0 σ') : c_disk_Disk_Read B ro (some ⟨T, 0, none⟩) (S n) σ Q := by
  refine disk_Disk_Read_ok fun _ => ?_
  unfold f_disk_Disk_Read
  refine ⟨_, rfl, _, (h.ptrs hs).1, ?_⟩
  refine nw_cells (tag := tag) 3 hs fun x tag1 σ1 st1 r1 => ?_
  have h1 := h.keep (st1 []) (by simp)
  refine find_ok (q := 3) (ns := [n]) (ps := ps) h1.map hr hr0 (st1 []).sep r1 (by decide) (by simp) ?_ ?_ ?_
  · intro hb
    rw [if_pos (by decide)]
    exact hno 30 tag1 σ1 (.inl ⟨by simpa using hb, rfl⟩) (st1 _)
  · rintro ha ⟨y, hy, hx⟩ tag2 σ2 st2
    rw [if_pos (by decide)]
    rw [List.mem_singleton.1 hy] at hx
    exact hno 31 tag2 σ2 (.inr ⟨by simpa using ha, hx, rfl⟩) ((st1 _).trans st2)
  · intro ha bs hbs s' tag2 σ2 st2 r2
    rw [if_neg (by decide)]
    obtain ⟨⟨b, f⟩, hb, rfl⟩ := one_map hbs
    obtain ⟨p, hp, hg⟩ := r2.ptr st2.sep (by simp)
    have hln := r2.len
    have h2 := h1.keep st2 (by simp; omega)
    obtain ⟨fs, hc, hbt⟩ := (show FileAt 104 tag2 σ2 r b f from h2.nodes _ (mem_lookup hb))
    obtain ⟨p', hp', hg'⟩ := hc.ptr st2.sep (by simp)
    cases hp'
    refine ⟨p, hp, by omega, by rw [hln]; simp, _, hg 0 _ rfl, _, rfl, fs, hg' 0 _ rfl, ?_⟩
    refine Zt.clone_ok (tag := tag2) (hbt.read st2.sep) st2.sep (by rw [List.length_map]; exact hbl _ (mem_lookup hb)) (by simp [storable]) fun s3 tag3 σ3 st3 r3 => ?_
    exact hok (by simpa using ha) b f hb s3 tag3 σ3 ((st1 _).trans (st2.trans (st3 _))) r3
end Go.Proofs.YtfobjidchipdaaaGreatDoor.Dk

/- Disks, the walk: written, made safe, renamed, removed. -/
namespace Go.Proofs.YtfobjidchipdaaaGreatDoor.Dk
open Go Go.Proofs.YtfobjidchipdaaaGreatDoor.SL Go.Proofs.YtfobjidchipdaaaGreatDoor.G Go.Proofs.YtfobjidchipdaaaGreatDoor.Pa
set_option linter.unusedSimpArgs false
set_option linter.unusedVariables false
set_option maxRecDepth 100000
variable {B : World} {ro σ σ' : AH} {tag tag' : Nat → Nat}
theorem u22 : Tryz.prog.underlying 22 = some (.slice 5) := by kernel_rfl
theorem RowC.del {r r' : Nat} {e : TypeId} {s : Sl} {l : List Value} {b : Nat} (h : RowC tag σ r e s l) (hb : tag b = r') (hr : r ≠ r') : RowC tag (SL.del σ b) r e s l := by
  obtain ⟨c, h, x⟩ := h; exact ⟨c, h.del hb hr, x⟩
theorem FileAt.del {tf : TypeId} {r b c r' : Nat} {f : Fl} (h : FileAt tf tag σ r b f) (hc : tag c = r') (h1 : r + 64 * (2 * b + 2) ≠ r') (h2 : r + 64 * (2 * b + 3) ≠ r') : FileAt tf tag (SL.del σ c) r b f := by
  obtain ⟨s, a, x⟩ := h
  exact ⟨s, a.del hc h1, x.del hc h2⟩
def fapp (fs : Fs) (n d : Str) : Fs := match fs.lookup n with
  | some f => aput fs n ⟨f.b ++ d, f.safe⟩
  | none => aput fs n ⟨d, 0⟩
theorem aput_aput {β : Type} (ps : List (Str × β)) (k : Str) (v w : β) : aput (aput ps k v) k w = aput ps k w := by
  induction ps with
  | nil => simp [aput]
  | cons p ps ih =>
    obtain ⟨k', v'⟩ := p
    by_cases c : k = k'
    · simp [aput, c]
    · simp [aput, c, ih]
theorem app_tail {r T M b : Nat} {cap : Int} {ps : Ps} {n d : Str} {f : Fl} {s : Sl} {Q : Int → AH → Prop} (h : Disk tag σ r T M cap ps) (hr : r < 64) (hr0 : r ≠ 0) (hs : SL.Sep ro σ) (hk : ps.lookup n = some (b, f))
    (hx : SL.Read ro σ s (d.map vU)) (hb : f.b.length + d.length ≤ 140737488355328)
    (hQ : ∀ tag' σ', StepS [r] ro tag σ tag' σ' → Disk tag' σ' r T M cap (aput ps n (b, ⟨f.b ++ d, f.safe⟩)) → Q 0 σ') : j10_disk_Disk_Append B ro s Q (some ⟨b, 0, none⟩) σ := by
  unfold j10_disk_Disk_Append
  obtain ⟨fs, hc, hbt⟩ := (show FileAt 104 tag σ r b f from h.nodes _ (mem_lookup hk))
  obtain ⟨p, hp, hg⟩ := hc.ptr hs (by simp)
  cases hp
  refine ⟨_, rfl, fs, hg 0 _ rfl, ?_⟩
  refine awp_appendC hbt hs hx u22 ty5 rfl (by simp [storable]) (by simp; omega) (by decide) fun s' tag1 σ1 st1 r1 => ?_
  refine ⟨s', rfl, _, rfl, ?_⟩
  have st1' := st1 [r + 64 * (2 * b + 3)] (.inr (by simp))
  show stN ((⟨b, 0, none⟩ : Addr).add (0 * 1)) _ _ _ _
  refine (hc.keep st1' (by simp; omega)).st st1'.sep rfl (by simp) rfl fun σ2 st2 r2 => ?_
  refine hQ tag1 σ2 ((st1'.s (by simp; omega)).trans (st2.s (by simp; omega))) ?_
  have st : Step [r + 64 * (2 * b + 3), r + 64 * (2 * b + 2)] ro tag σ tag1 σ2 := (st1'.mono (by simp)).trans (st2.mono (by simp))
  refine h.write hk st (by simp) ⟨s', r2, ?_⟩
  have := r1.keep st2 (by simp; omega)
  rw [← List.map_append] at this
  exact this
theorem append_ok {r T M : Nat} {cap : Int} {ps : Ps} {n d : Str} {s : Sl} {Q : Int → AH → Prop} (h : Disk tag σ r T M cap ps) (hr : r < 64) (hr0 : r ≠ 0) (hc0 : 0 ≤ cap) (hc1 : cap ≤ 1073741824) (hu : used (pfs ps) < 4611686018427387904) (hsl : s.len = d.length) (hdl : d.length ≤ 4611686018427387904)
    (hx : ∀ tag' σ', StepS [0, r] ro tag σ tag' σ' → SL.Read ro σ' s (d.map vU))
    (h30 : dName n = false → Q 30 σ)
    (h32 : dName n = true → cap < (used (pfs ps) + d.length : Nat) → ∀ tag' σ', Step [0] ro tag σ tag' σ' → Q 32 σ')
    (hok : dName n = true → (used (pfs ps) + d.length : Nat) ≤ cap → ∀ ps' tag' σ', StepS [0, r] ro tag σ tag' σ' → Disk tag' σ' r T M cap ps' → pfs ps' = fapp (pfs ps) n d → Q 0 σ') : c_disk_Disk_Append B ro (some ⟨T, 0, none⟩) (S n) s σ Q := by
  refine disk_Disk_Append_ok fun hs => ?_
  unfold f_disk_Disk_Append
  refine rightName_ok ?_
  by_cases c : dName n = true
  · rw [if_neg (by simpa using c)]
    obtain ⟨htT, hoT⟩ := h.cell.tagOf
    refine lent_block T ?_
    have hl0 := h.cell.lend hs (τ := fun _ => none) (i := 1) (v := vI cap) rfl
    have hl1 := h.cell.lend hs (τ := SL.del σ T) (i := 0) (v := .map (some M)) rfl
    refine ⟨_, rfl, cap, hl0, _, rfl, some M, hl1, ?_⟩
    refine used_ok (tag := tag) (h.map.del (by rw [htT]; omega)) h.keys (fun p hp => (h.nodes p hp).del htT (by omega) (by omega)) hr hr0 hs.lent hu fun tag1 τ st1 => ?_
    intro hdis
    have st2 := st1.back hs hdis hoT
    have h2 := h.keep st2 (by simp; omega)
    have hs2 := st2.sep
    rw [SL.w64_eq (by omega) (by omega), hsl]
    by_cases hsp : cap < (used (pfs ps) + d.length : Nat)
    · rw [if_pos (by omega)]
      exact h32 c hsp _ _ st2
    · rw [if_neg (by omega)]
      refine ⟨_, rfl, _, (h2.ptrs hs2).1, ?_⟩
      refine lk h2.map hs2 ?_
      refine ⟨_, rfl, ?_⟩
      have hfl : ∀ b f, ps.lookup n = some (b, f) → f.b.length ≤ used (pfs ps) := fun b f e => by
        have : szOf ps n = f.b.length := by unfold szOf; rw [e]; rfl
        rw [← used_sz h.keys, ← this]
        have hm : szOf ps n ∈ ((ps.map kvp).map fun p => szOf ps p.1) := by
          rw [List.map_map]; exact List.mem_map.2 ⟨_, mem_lookup e, rfl⟩
        clear this e
        generalize ((ps.map kvp).map fun p => szOf ps p.1) = l at hm
        induction l with
        | nil => cases hm
        | cons x l ih => rcases List.mem_cons.1 hm with h | h
                         · rw [List.sum_cons]; omega
                         · rw [List.sum_cons]; have := ih h; omega
      cases hlk : ps.lookup n with
      | none =>
        rw [if_pos (by simp)]
        refine nw_cellsF (tag := setTag tag1 T (tag T)) (fun b => r + 64 * (2 * b + 2)) hs2 fun b tag3 σ3 hro hb st3 r3 => ?_
        have h3 := h2.keep (st3 []) (by simp)
        have hs3 := (st3 []).sep
        refine ⟨_, rfl, _, (h3.ptrs hs3).1, ?_⟩
        refine awp_update_str h3.map hs3 u37 u9 fun σ4 st4 m4 => ?_
        have h4 : Disk tag3 σ4 r T M cap (aput ps n (b, ⟨[], 0⟩)) := h3.put (fun p hp e => h2.free hb p hp e) st4 (by simp) ⟨⟨none, 0, 0⟩, r3.keep st4 (by simp; omega), (Row.nil _ 5).c⟩ m4
        have s4 : StepS [0, r] ro tag σ tag3 σ4 := (st2.s (by simp)).trans (((st3 []).s (by simp)).trans (st4.s (by simp; omega)))
        refine app_tail h4 hr hr0 st4.sep (by rw [lookup_aput, if_pos rfl]) (hx _ _ s4) (by simp; omega) fun tag5 σ5 st5 h5 => ?_
        rw [aput_aput] at h5
        refine hok c (by omega) _ tag5 σ5 (s4.trans (st5.mono (by simp))) h5 ?_
        rw [pfs_put]
        unfold fapp
        rw [pfs_lookup, hlk]; rfl
      | some x =>
        obtain ⟨b, f⟩ := x
        rw [if_neg (by simp)]
        have := hfl b f hlk
        refine app_tail h2 hr hr0 hs2 hlk (hx _ _ (st2.s (by simp))) (by omega) fun tag5 σ5 st5 h5 => ?_
        refine hok c (by omega) _ tag5 σ5 ((st2.s (by simp)).trans (st5.mono (by simp))) h5 ?_
        rw [pfs_put]
        unfold fapp
        rw [pfs_lookup, hlk]; rfl
  · rw [if_pos (by simpa using c)]
    exact h30 (by simpa using c)
end Go.Proofs.YtfobjidchipdaaaGreatDoor.Dk

/- Disks, the walk: made safe, removed, renamed; a new disk. -/
namespace Go.Proofs.YtfobjidchipdaaaGreatDoor.Dk
open Go Go.Proofs.YtfobjidchipdaaaGreatDoor.SL Go.Proofs.YtfobjidchipdaaaGreatDoor.G Go.Proofs.YtfobjidchipdaaaGreatDoor.Pa
set_option linter.unusedSimpArgs false
set_option linter.unusedVariables false
set_option maxRecDepth 100000
variable {B : World} {ro σ σ' : AH} {tag tag' : Nat → Nat}
def sync1 (fs : Fs) (n : Str) : Fs := match fs.lookup n with
  | some f => aput fs n ⟨f.b, f.b.length⟩
  | none => fs
def fsync (fs : Fs) (ns : List Str) : Fs := ns.foldl sync1 fs
theorem fsync_snoc (fs : Fs) (l : List Str) (n : Str) : fsync fs (l ++ [n]) = sync1 (fsync fs l) n := by unfold fsync; rw [List.foldl_append]; rfl
theorem sync_ok {r T M q : Nat} {cap : Int} {ps : Ps} {ns : List Str} {s : Sl} {Q : Int → AH → Prop} (h : Disk tag σ r T M cap ps) (hr : r < 64) (hr0 : r ≠ 0) (hrow : Row tag σ q 9 s (ns.map Pa.vS)) (hq : q ≠ 0) (hl : ns.length ≤ 4398046511104)
    (hno : (ns.all dName = false ∨ ∃ n ∈ ns, ps.lookup n = none) → ∀ e tag' σ', Step [0] ro tag σ tag' σ' → Q e σ')
    (hok : ns.all dName = true → (∀ n ∈ ns, ps.lookup n ≠ none) → ∀ ps' tag' σ', StepS [0, r] ro tag σ tag' σ' → Disk tag' σ' r T M cap ps' → pfs ps' = fsync (pfs ps) ns → Q 0 σ') : c_disk_Disk_Sync B ro (some ⟨T, 0, none⟩) s σ Q := by
  refine disk_Disk_Sync_ok fun hs => ?_
  unfold f_disk_Disk_Sync
  refine ⟨_, rfl, _, (h.ptrs hs).1, ?_⟩
  refine find_ok (q := q) (ns := ns) (ps := ps) h.map hr hr0 hs hrow hq hl ?_ ?_ ?_
  · intro hb
    refine lfpD.intro ?_
    unfold l6_disk_Disk_Sync
    rw [if_neg (by simp)]
    exact hno (.inl hb) _ tag σ (Step.refl hs)
  · intro ha hm tag1 σ1 st1
    refine lfpD.intro ?_
    unfold l6_disk_Disk_Sync
    rw [if_neg (by simp)]
    exact hno (.inr hm) _ tag1 σ1 st1
  · intro ha bs hbs s' tag1 σ1 st1 r1
    have h1 := h.keep st1 (by simp; omega)
    have hbl : bs.length = ns.length := by have := congrArg List.length hbs; simpa using this.symm
    have hln : s'.len = ns.length := by rw [r1.len, List.length_map, hbl]
    have hat : ∀ j (hj : j < ns.length) (hj' : j < bs.length), ps.lookup ns[j] = some bs[j] := fun j hj hj' => by
      have := congrArg (·[j]?) hbs
      simpa [List.getElem?_map, List.getElem?_eq_getElem hj, List.getElem?_eq_getElem hj'] using this
    suffices ∀ (m j : Nat) (ps' : Ps) (tag2 : Nat → Nat) (σ2 : AH), j + m = ns.length → Disk tag2 σ2 r T M cap ps' → pfs ps' = fsync (pfs ps) (ns.take j) → (∀ n, (ps'.lookup n).map (·.1) = (ps.lookup n).map (·.1)) → StepS [r] ro tag1 σ1 tag2 σ2 → lfpD (l6_disk_Disk_Sync B ro s' 0 Q) (j : Int) σ2 from
      this _ 0 ps tag1 σ1 (Nat.zero_add _) h1 rfl (fun _ => rfl) (StepS.refl st1.sep)
    intro m
    induction m with
    | zero =>
      intro j ps' tag2 σ2 hj hd hps _ st2
      refine lfpD.intro ?_
      unfold l6_disk_Disk_Sync
      rw [if_neg (by omega)]
      unfold j5_disk_Disk_Sync
      rw [List.take_of_length_le (by omega)] at hps
      refine hok ha (fun n hn e => ?_) ps' tag2 σ2 ((st1.s (by simp)).trans (st2.mono (by simp))) hd hps
      obtain ⟨j, hj, rfl⟩ := List.getElem_of_mem hn
      rw [hat j hj (by omega)] at e; cases e
    | succ m ih =>
      intro j ps' tag2 σ2 hj hd hps hlk st2
      have hjl : j < ns.length := by omega
      have hjb : j < bs.length := by omega
      refine lfpD.intro ?_
      unfold l6_disk_Disk_Sync
      rw [if_pos (by omega)]
      have r2 := r1.keepS st2 (by simp; omega)
      obtain ⟨p, hp, hg⟩ := r2.ptr st2.sep (by simp; omega)
      obtain ⟨f, hf⟩ : ∃ f, ps'.lookup ns[j] = some (bs[j].1, f) := by
        have := hlk ns[j]
        rw [hat j hjl hjb] at this
        cases e : ps'.lookup ns[j] with
        | none => rw [e] at this; cases this
        | some x => rw [e] at this; simp at this; exact ⟨x.2, by rw [← this]⟩
      have hbj : (bs.map fun b => ptr b.1)[j]? = some (ptr bs[j].1) := by rw [List.getElem?_map, List.getElem?_eq_getElem hjb]; rfl
      generalize bs[j].1 = b at hf hbj
      refine ⟨p, hp, by omega, by omega, some ⟨b, 0, none⟩, by rw [Int.toNat_natCast]; exact hg j _ hbj, _, rfl, ?_⟩
      obtain ⟨fs, hc, hbt⟩ := (show FileAt 104 tag2 σ2 r b f from hd.nodes _ (mem_lookup hf))
      obtain ⟨p', hp', hg'⟩ := hc.ptr st2.sep (by simp)
      cases hp'
      refine ⟨fs, hg' 0 _ rfl, _, rfl, ?_⟩
      have hfl : fs.len = f.b.length := by rw [hbt.len, List.length_map]
      show stN ((⟨b, 0, none⟩ : Addr).add (1 * 1)) _ _ _ _
      refine hc.st st2.sep rfl (by simp) rfl fun σ3 st3 r3 => ?_
      rw [Pa.inc j (by omega)]
      have hd3 : Disk tag2 σ3 r T M cap (aput ps' ns[j] (b, ⟨f.b, f.b.length⟩)) := hd.write hf st3 (by simp) ⟨fs, by rw [← hfl]; exact r3, hbt.keep st3 (by simp; omega)⟩
      refine ih (j + 1) _ tag2 σ3 (by omega) hd3 ?_ (fun n => ?_) (st2.trans (st3.s (by simp; omega)))
      · rw [pfs_put, hps, List.take_add_one, List.getElem?_eq_getElem hjl]
        rw [show ns.take j ++ (some ns[j]).toList = ns.take j ++ [ns[j]] from rfl, fsync_snoc, ← hps]
        unfold sync1
        rw [pfs_lookup, hf]; rfl
      · rw [lookup_aput]
        split
        · rename_i e; subst e; rw [← hlk ns[j], hf]; rfl
        · exact hlk n
theorem remove_ok {r T M q : Nat} {cap : Int} {ps : Ps} {n : Str} {s : Sl} {Q : Int → AH → Prop} (h : Disk tag σ r T M cap ps) (hr : r < 64) (hr0 : r ≠ 0) (hrow : Row tag σ q 9 s [Pa.vS n]) (hq : q ≠ 0) (hn : dName n = true)
    (hQ : ∀ e tag' σ', StepS [0, r] ro tag σ tag' σ' → Disk tag' σ' r T M cap (adel ps n) → Q e σ') : c_disk_Disk_Remove B ro (some ⟨T, 0, none⟩) s σ Q := by
  refine disk_Disk_Remove_ok fun hs => ?_
  unfold f_disk_Disk_Remove
  refine ⟨_, rfl, _, (h.ptrs hs).1, ?_⟩
  have hln : s.len = 1 := hrow.len
  refine find_ok (q := q) (ns := [n]) (ps := ps) h.map hr hr0 hs hrow hq (by simp) ?_ ?_ ?_
  · intro hb; simp [hn] at hb
  · rintro ha ⟨y, hy, hx⟩ tag1 σ1 st1
    rw [List.mem_singleton.1 hy] at hx
    rw [if_pos (by decide)]
    refine hQ _ tag1 σ1 (st1.s (by simp)) ?_
    rw [adel_no hx]
    exact h.keep st1 (by simp; omega)
  · intro ha bs hbs s' tag1 σ1 st1 r1
    rw [if_neg (by decide)]
    have h1 := h.keep st1 (by simp; omega)
    refine lfpD.intro ?_
    unfold l6_disk_Disk_Remove
    rw [if_pos (by omega)]
    obtain ⟨p, hp, hg⟩ := (hrow.keep st1 (by simpa using hq)).ptr st1.sep (by simp)
    refine ⟨p, hp, by omega, by omega, S n, hg 0 _ rfl, _, rfl, _, (h1.ptrs st1.sep).1, ?_⟩
    refine awp_delete_str h1.map st1.sep u37 u9 fun σ2 st2 m2 => ⟨rfl, ?_⟩
    have h2 : Disk tag1 σ2 r T M cap (adel ps n) := h1.rem st2 (by simp) m2
    refine lfpD.intro ?_
    rw [show IntKind.i64.wrap (0 + 1) = 1 from by decide, if_neg (by omega)]
    exact hQ _ tag1 σ2 ((st1.s (by simp)).trans (st2.s (by simp; omega))) h2
theorem rename_ok {r T M : Nat} {cap : Int} {ps : Ps} {a c : Str} {Q : Int → AH → Prop} (h : Disk tag σ r T M cap ps) (hr : r < 64) (hr0 : r ≠ 0) (ha : dName a = true) (hc : dName c = true)
    (hno : ps.lookup a = none → Q 31 σ) (hok : ∀ b f, ps.lookup a = some (b, f) → ∀ σ', StepS [r] ro tag σ tag σ' → Disk tag σ' r T M cap (aput (adel ps a) c (b, f)) → Q 0 σ') : c_disk_Disk_Rename B ro (some ⟨T, 0, none⟩) (S a) (S c) σ Q := by
  refine disk_Disk_Rename_ok fun hs => ?_
  unfold f_disk_Disk_Rename
  refine rightName_ok ?_
  rw [if_neg (by simp [ha])]
  refine rightName_ok ?_
  unfold j2_disk_Disk_Rename
  rw [if_neg (by simp [hc])]
  refine ⟨_, rfl, _, (h.ptrs hs).1, ?_⟩
  refine lk h.map hs ?_
  refine ⟨_, rfl, ?_⟩
  cases hlk : ps.lookup a with
  | none => rw [if_pos (by simp)]; exact hno hlk
  | some x =>
    obtain ⟨b, f⟩ := x
    rw [if_neg (by simp)]
    refine ⟨_, rfl, _, (h.ptrs hs).1, ?_⟩
    refine awp_delete_str h.map hs u37 u9 fun σ1 st1 m1 => ⟨rfl, ?_⟩
    have h1 : Disk tag σ1 r T M cap (adel ps a) := h.rem st1 (by simp) m1
    refine ⟨_, rfl, _, (h1.ptrs st1.sep).1, ?_⟩
    refine awp_update_str h1.map st1.sep u37 u9 fun σ2 st2 m2 => ?_
    have hf : FileAt 104 tag σ2 r b f := (((h.nodes _ (mem_lookup hlk)).keep st1 (by simp; omega) (by simp; omega)).keep st2 (by simp; omega) (by simp; omega))
    refine hok b f hlk σ2 ((st1.s (by simp; omega)).trans (st2.s (by simp; omega))) (h1.put (fun p hp e => ?_) st2 (by simp) hf m2)
    have hp' := mem_adel h.keys hp
    have := inj_of h.nd hp'.1 (mem_lookup hlk) e
    exact hp'.2 (by rw [this])
theorem new_ok {r : Nat} {cap : Int} {Q : Option Addr → Int → AH → Prop} (hno : (cap < 0 ∨ 1073741824 < cap) → Q none 32 σ)
    (hok : 0 ≤ cap → cap ≤ 1073741824 → ∀ T M tag' σ', (∀ R, Step R ro tag σ tag' σ') → Disk tag' σ' r T M cap [] → Q (some ⟨T, 0, none⟩) 0 σ') : c_disk_New B ro cap σ Q := by
  refine disk_New_ok fun hs => ?_
  unfold f_disk_New
  by_cases c : cap < 0 ∨ 1073741824 < cap
  · rw [if_pos c]; exact hno c
  · rw [if_neg c]
    refine nw_map (tag := tag) (r + 64) hs fun M tag1 σ1 st1 m1 => ?_
    refine nw_cells (tag := tag1) r (st1 []).sep fun T tag2 σ2 st2 r2 => ?_
    exact hok (by omega) (by omega) T M tag2 σ2 (fun R => (st1 R).trans (st2 R)) ⟨List.nodup_nil, List.nodup_nil, r2, m1.keep (st2 []) (by simp), fun p hp => by cases hp⟩
end Go.Proofs.YtfobjidchipdaaaGreatDoor.Dk

/- Disks, the walk: the names in order. -/
namespace Go.Proofs.YtfobjidchipdaaaGreatDoor.Dk
open Go Go.Proofs.YtfobjidchipdaaaGreatDoor.SL Go.Proofs.YtfobjidchipdaaaGreatDoor.G Go.Proofs.YtfobjidchipdaaaGreatDoor.Pa Go.Maps Go.Sort Go.Shelf Go.RowKit
set_option linter.unusedSimpArgs false
set_option linter.unusedVariables false
set_option maxRecDepth 100000
variable {B : World} {ro σ σ' : AH} {tag tag' : Nat → Nat}
abbrev RT : Value → Option (DataW Unit × List MemPlace) := fun _ => some (.nil, [])
/-- a map in memory, as the shelf's contracts want it -/
theorem owns {w : World} {b c : Nat} {m : KV} (hm : MapIs tag σ c b m) (hw : Sees ro σ w) (hs : SL.Sep ro σ) (hnd : (m.map (·.1)).Nodup) (hl : ∀ p ∈ m, p.1.length ≤ 128) (hn : m.length ≤ 4398046511104) :
    ∃ D : DataW Unit, w.ownsMap Tryz.prog 9 RT b m.length D ∧ Maps.size D = m.length ∧ (strKeys D).Perm (m.map (·.1)) := by
  obtain ⟨es, clock, hb, he, hbn⟩ := hm.obj
  have hwb := hw b _ (by unfold SL.rd; rw [hs b _ hb]; exact hb)
  have hsz : es.size = m.length := by have := congrArg List.length he; simpa using this
  have hkey : ∀ (i : Nat) (h1 : i < es.toList.length), ∃ h2 : i < m.length, (es.toList[i]).key = .string (S m[i].1) := fun i h1 => by
    have h2 : i < m.length := by rw [← hsz]; simpa using h1
    refine ⟨h2, ?_⟩
    have h := congrArg (·[i]?) he
    simp only [List.getElem?_map, List.getElem?_eq_getElem h1, List.getElem?_eq_getElem h2, Option.map_some] at h
    exact congrArg Prod.fst (Option.some.inj h)
  have hko : ∀ (i : Nat) (h1 : i < es.toList.length) (h2 : i < m.length), WideElems.rd Tryz.prog 9 RT es.toList[i] = some (.string m[i].1, .nil) := fun i h1 h2 => by
    obtain ⟨_, hk⟩ := hkey i h1
    have hlen := hl _ (List.getElem_mem h2)
    unfold WideElems.rd
    rw [hk]
    have : keyOf Tryz.prog 9 (.string (S m[i].1)) = some (.string m[i].1) := by
      unfold keyOf
      rw [u9]
      show mapKey Tryz.prog 9 (.string (S m[i].1)) = _
      unfold mapKey
      rw [u9]
      show (if (S m[i].1).size ≤ maxLen then _ else _) = _
      rw [if_pos (by simp only [S_size, maxLen]; omega)]; rfl
    rw [this]; rfl
  refine ⟨.map ((es.toList.map (WideElems.rg Tryz.prog 9 RT)).foldr DataW.insert []), ⟨es, clock, hwb, ⟨by rw [hsz]; simp only [maxLen]; omega, ⟨hbn.lt, hbn.nd, ?_⟩, ?_⟩, by omega, rfl⟩, ?_, ?_⟩
  · have : es.toList.map (·.key) = (m.map (·.1)).map fun k => Value.string (S k) := by
      apply List.ext_getElem
      · simp [hsz]
      · intro i h1 h2
        simp only [List.getElem_map]
        obtain ⟨_, h⟩ := hkey i (by simpa using h1)
        exact h
    rw [this]
    refine List.Pairwise.map _ (fun a b hab e => hab ?_) hnd
    simpa [S_inj] using e
  · intro x hx
    obtain ⟨i, hi, rfl⟩ := List.getElem_of_mem hx
    obtain ⟨h2, _⟩ := hkey i hi
    exact ⟨_, hko i hi h2⟩
  · show ((es.toList.map (WideElems.rg Tryz.prog 9 RT)).foldr DataW.insert []).length = m.length
    rw [DataW.length_sorted]; simp [hsz]
  · show (((es.toList.map (WideElems.rg Tryz.prog 9 RT)).foldr DataW.insert []).map fun p => strOf p.1).Perm _
    refine ((WideShapes.sorted_perm _).map _).trans ?_
    rw [List.map_map]
    have : es.toList.map ((fun p : Lit × DataW Unit => strOf p.1) ∘ WideElems.rg Tryz.prog 9 RT) = m.map (·.1) := by
      apply List.ext_getElem
      · simp [hsz]
      · intro i h1 h2
        simp only [List.getElem_map, Function.comp]
        have h3 : i < es.toList.length := by simpa using h1
        obtain ⟨h4, _⟩ := hkey i h3
        unfold WideElems.rg
        rw [hko i h3 h4]; rfl
    rw [this]

theorem keys_ok {M : Nat} {Q : Value → AH → Prop} (hQ : ∀ gb tag' σ', (∀ R, Step R ro tag σ tag' σ') → Row tag' σ' 0 37 ⟨some ⟨gb, 0, none⟩, 1, 1⟩ [.map (some M)] → Q (.func (.func 109) #[] #[.pointer (some ⟨gb, 0, none⟩)]) σ') :
    c_maps_Keys_disk_file B ro (some M) σ Q := by
  refine ACalls.of_calls fun w hw hsep => ?_
  refine (callsIn_wide.1 (Tryz.maps_Keys_82 (some M) w)).mono ?_
  rintro e w' ⟨he, rfl⟩
  obtain ⟨N, tag', hN, hst, hrow⟩ := new_row (tag := tag) (w' := w.alloc (.cells #[.map (some M)] 37)) 0 hw hsep (Nat.le_refl w.heap.size) (heap_alloc_new w _)
  exact ⟨_, N, he, (Below.refl _ w).alloc (Nat.le_refl _) _, hN, _, rfl, hQ _ tag' _ hst (hrow _ _ _ rfl rfl (Nat.le_refl _) rfl)⟩

theorem sorted_ok {gb b c : Nat} {m : KV} {Q : Sl → AH → Prop} (r : Nat) (hg : Row tag σ 0 37 ⟨some ⟨gb, 0, none⟩, 1, 1⟩ [.map (some b)]) (hm : MapIs tag σ c b m) (hnd : (m.map (·.1)).Nodup) (hl : ∀ p ∈ m, p.1.length ≤ 128) (hn : m.length ≤ 4398046511104)
    (hQ : ∀ (s : Sl) (tag' : Nat → Nat) (σ' : AH) (ks : List Str), (∀ R, Step R ro tag σ tag' σ') → ks.Perm (m.map (·.1)) → ks.Pairwise (· ≤ ·) → Row tag' σ' r 9 s (ks.map Pa.vS) → Q s σ') : c_slices_Sorted_string B ro (.func (.func 109) #[] #[.pointer (some ⟨gb, 0, none⟩)]) σ Q := by
  refine ACalls.of_calls fun w hw hsep => ?_
  obtain ⟨D, hown, hsz, hperm⟩ := owns hm hw hsep hnd hl hn
  have hcell : w.cell? ⟨gb, 0, none⟩ = some (.map (some b)) := by
    have h1 := Row.cell1 hg hsep
    unfold acell at h1
    rw [cell?_eq]
    cases hr : SL.rd ro σ gb with
    | none => simp only at h1; rw [hr] at h1; cases h1
    | some o => simp only at h1; rw [hw gb o hr]; rw [hr] at h1; exact h1
  have hlt : gb < w.heap.size := by
    rw [cell?_eq] at hcell
    cases hh : w.heap[gb]? with
    | none => simp only at hcell; rw [hh] at hcell; cases hcell
    | some o => exact lt_of_block hh
  have hseq : SeqGives Fence.wide 2 Tryz.prog 109 #[.pointer (some ⟨gb, 0, none⟩)] encStr (fun ss => ss.Perm (strKeys D)) (Maps.size D) w :=
    AnyZ.keys_gives (ρ := Tryz.keys82_ren) { Tryz.keys82 with } Fence.wide _ trivial rfl (by omega) gb b m.length D w hlt hcell hown
  have hsort := AnyZ.sorted_in Tryz.sorted81 Fence.wide 5 trivial trivial trivial trivial rfl (by omega) (Tryz.sorts81 _) (enters_of Tryz.func108 (by kernel_rfl) rfl) 109 #[.pointer (some ⟨gb, 0, none⟩)] trivial (enters_of Tryz.func109 (by kernel_rfl) rfl) _ _ (by rw [hsz]; simp only [maxLen]; omega) (by rw [hsz]; omega) _ hseq
  refine (callsIn_wide.1 hsort).mono ?_
  rintro e w' ⟨v, ss, he, hS, hrow, hnil, hb⟩
  have hpair : (ss.mergeSort (fun x y => decide (x ≤ y))).Pairwise (· ≤ ·) := by
    have := List.pairwise_mergeSort (le := fun x y : List UInt8 => decide (x ≤ y)) (fun a b c h1 h2 => by simp at *; exact List.le_trans h1 h2) (fun a b => by simp; exact List.le_total a b) ss
    simpa using this
  have hpm : (ss.mergeSort (fun x y => decide (x ≤ y))).Perm (m.map (·.1)) := (List.mergeSort_perm _ _).trans (hS.trans hperm)
  have henc : ∀ l : List (List UInt8), l.map encStr = l.map Pa.vS := fun l => rfl
  rcases hrow with ⟨hlen, ⟨rfl, h0⟩ | ⟨g, cap, cur, rfl, hbase, hgb, r1, r2, r3, r4⟩⟩
  · have h0' : ss = [] := List.eq_nil_of_length_eq_zero h0
    subst h0'
    refine ⟨_, fun _ => none, he, hb, News.none _ _, ⟨none, 0, 0⟩, rfl, ?_⟩
    rw [join_none_right]
    exact hQ _ tag σ _ (fun _ => Step.refl hsep) hpm hpair (by simpa using Row.nil r 9)
  · obtain ⟨N, tag', hN, hst, hrow⟩ := new_row (tag := tag) r hw hsep hbase hgb
    refine ⟨_, N, he, hb, hN, ⟨some ⟨g, 0, none⟩, ss.length, cap⟩, rfl, ?_⟩
    refine hQ _ tag' _ _ hst hpm hpair (hrow _ _ _ (by simp) (by rw [r3, Nat.mul_one]) r1 ?_)
    rw [Nat.mul_one] at r4
    rw [r4]; rfl

theorem kvp_keys (ps : Ps) : (ps.map kvp).map (·.1) = ps.map (·.1) := by rw [List.map_map]; rfl
theorem files_ok {r M q : Nat} {ps : Ps} {Q : Sl → AH → Prop} (hm : MapIs tag σ (r + 64) M (ps.map kvp)) (hnd : (ps.map (·.1)).Nodup) (hl : ∀ p ∈ ps, p.1.length ≤ 128) (hn : ps.length ≤ 4398046511104)
    (hQ : ∀ (s : Sl) (tag' : Nat → Nat) (σ' : AH) (ks : List Str), (∀ R, Step R ro tag σ tag' σ') → ks.Perm (ps.map (·.1)) → ks.Pairwise (· ≤ ·) → Row tag' σ' q 9 s (ks.map Pa.vS) → Q s σ') : c_disk_table_Files B ro (some M) σ Q := by
  refine disk_table_Files_ok fun hs => ?_
  unfold f_disk_table_Files
  refine keys_ok (tag := tag) fun gb tag1 σ1 st1 r1 => ?_
  refine sorted_ok q r1 (hm.keep (st1 []) (by simp)) (by rw [kvp_keys]; exact hnd) (fun p hp => ?_) (by simpa using hn) fun s tag' σ' ks st2 hp hs' hr => ?_
  · obtain ⟨p', hp', rfl⟩ := List.mem_map.1 hp
    exact hl p' hp'
  · rw [kvp_keys] at hp
    exact hQ s tag' σ' ks (fun R => (st1 R).trans (st2 R)) hp hs' hr
end Go.Proofs.YtfobjidchipdaaaGreatDoor.Dk
