/- MuD, MuE, MuF, GL8, MuG, MuH -/
import Derived.Test.YthfpmipeejjogaaGreatDoorXK
/- One change of several, the walk: within, do. -/
namespace Go.Proofs.YthfpmipeejjogaaGreatDoor.Zt
open Go Go.Proofs.YthfpmipeejjogaaGreatDoor.SL Go.Proofs.YthfpmipeejjogaaGreatDoor.G Go.Proofs.YthfpmipeejjogaaGreatDoor.Pa
set_option linter.unusedSimpArgs false
set_option linter.unusedVariables false
variable {B : World} {ro σ σ' : AH} {tag tag' : Nat → Nat}

theorem RowW.keepS {C : List Nat} {r : Nat} {e : TypeId} {w : Nat} {s : Sl} {l : List (List Value)} (h : RowW tag σ r e w s l) (k : StepS C ro tag σ tag' σ') (hr : r % 64 ∉ C) : RowW tag' σ' r e w s l := by
  obtain ⟨R, h1, h2⟩ := k
  exact h.keep h2 fun m => hr (h1 _ m)
theorem Row.cellsAt {r : Nat} {e : TypeId} {b n c : Nat} {l : List Value} (h : Row tag σ r e ⟨some ⟨b, 0, none⟩, n, c⟩ l) (hs : SL.Sep ro σ) : SL.cellsAt ro σ ⟨b, 0, none⟩ 0 l := by
  rcases Nat.eq_zero_or_pos l.length with h0 | h0
  · rw [List.eq_nil_of_length_eq_zero h0]; trivial
  · obtain ⟨p, hp, hg⟩ := h.ptr hs h0
    cases hp
    exact cellsAt_of 0 fun i v hv => by rw [Nat.zero_add]; have := hg i v hv; rwa [Nat.mul_one] at this
theorem Row.readW1 {r w : Nat} {e : TypeId} {b n c : Nat} {l : List Value} (h : Row tag σ r e ⟨some ⟨b, 0, none⟩, n, c⟩ l) (hs : SL.Sep ro σ) (hw : l.length = w) (h0 : 0 < w) : SL.ReadW ro σ w ⟨some ⟨b, 0, none⟩, 1, 1⟩ [l] := by
  obtain ⟨p, hp, hg⟩ := h.ptr hs (by omega)
  cases hp
  refine ⟨rfl, (fun h => by cases h), fun x hx => by rw [List.mem_singleton.1 hx]; exact hw, fun p hp i v hv => ?_⟩
  cases hp
  have := hg i v (by simpa using hv)
  rwa [Nat.mul_one] at this

/-- what is being done, in memory -/
def resV (r : Str × Int) : List Value := [Pa.vS r.1, vI r.2]
def effV (e : Int × Str) : List Value := [vI e.1, Pa.vS e.2]
structure WorkAt (tag : Nat → Nat) (σ : AH) (W T : Nat) (home : Str) (owner qn qb : Int) (res : List (Str × Int)) (eff : List (Int × Str)) : Prop where
  mem : ∃ rs es : Sl, Row tag σ 13 173 ⟨some ⟨W, 0, none⟩, 8, 8⟩ [Sl.v rs, Sl.v es, vI 0, ptr T, Pa.vS home, vI owner, vI qn, vI qb] ∧ RowW tag σ 14 84 2 rs (res.map resV) ∧ RowW tag σ 15 108 2 es (eff.map effV)
theorem WorkAt.keepS {C : List Nat} {W T : Nat} {home : Str} {owner qn qb : Int} {res : List (Str × Int)} {eff : List (Int × Str)} (h : WorkAt tag σ W T home owner qn qb res eff) (k : StepS C ro tag σ tag' σ') (h3 : 13 ∉ C) (h4 : 14 ∉ C) (h5 : 15 ∉ C) : WorkAt tag' σ' W T home owner qn qb res eff := by
  obtain ⟨rs, es, a, b, c⟩ := h.mem
  exact ⟨rs, es, a.keepS k h3, RowW.keepS b k h4, RowW.keepS c k h5⟩
/-- the classes of roles that one change touches -/
abbrev DC : List Nat := [0, 2, 3, 4, 5, 12, 13, 14, 15, 17, 18, 19, 20, 21]

set_option maxRecDepth 100000 in
theorem within_ok {W T : Nat} {home : Str} {owner qn qb : Int} {res : List (Str × Int)} {eff : List (Int × Str)} {o : MOp} {ds : Sl} {Q : Int → AH → Prop} (g : Glob ro) (h : WorkAt tag σ W T home owner qn qb res eff)
    (hQ : ∀ tag' σ', Step [] ro tag σ tag' σ' → Q (withinE home o) σ') : c_multi_work_within B ro (some ⟨W, 0, none⟩) o.kind (S o.path) ds o.ver o.eph o.seq σ Q := by
  refine multi_work_within_ok fun hs => ?_
  unfold f_multi_work_within
  refine nw_cells (tag := tag) 0 hs fun x tag1 σ1 st1 r1 => ?_
  obtain ⟨p, hp, hg⟩ := r1.ptr (st1 []).sep (by simp)
  cases hp
  refine ⟨_, hg 1 _ rfl, ?_⟩
  have kindOf : ∀ tag2 σ2, Step [] ro tag1 σ1 tag2 σ2 → acell ro σ2 ⟨x, 0, none⟩ = some (vI o.kind) := fun tag2 σ2 st2 => by
    obtain ⟨p, hp, hg⟩ := (r1.keep st2 (by simp)).ptr st2.sep (by simp)
    cases hp
    exact hg 0 _ rfl
  have bad : ∀ tag2 σ2 sl e, Step [] ro tag1 σ1 tag2 σ2 → withinE home o = 80 → j6_multi_work_within B ro (some ⟨W, 0, none⟩) x sl e Q true σ2 := fun tag2 σ2 sl e st2 hw => by
    unfold j6_multi_work_within
    rw [if_pos rfl]
    have := hQ tag2 σ2 ((st1 _).trans st2)
    rw [hw] at this; exact this
  have split : ∀ tag2 σ2 sl e, Step [] ro tag1 σ1 tag2 σ2 → (¬ (o.kind < 1 ∨ 4 < o.kind) → j6_multi_work_within B ro (some ⟨W, 0, none⟩) x sl e Q false σ2) →
      ∃ (x15_5 : Int), acell ro σ2 ⟨x, 0, none⟩ = some (.int .i64 x15_5) ∧ if x15_5 < 1 then j6_multi_work_within B ro (some ⟨W, 0, none⟩) x sl e Q true σ2 else ∃ (x19_16 : Int), acell ro σ2 ⟨x, 0, none⟩ = some (.int .i64 x19_16) ∧ j6_multi_work_within B ro (some ⟨W, 0, none⟩) x sl e Q (decide (4 < x19_16)) σ2 := fun tag2 σ2 sl e st2 hgood => by
    have hw80 : (o.kind < 1 ∨ 4 < o.kind) → withinE home o = 80 := fun h => by unfold withinE; rw [if_pos h]
    refine ⟨o.kind, kindOf tag2 σ2 st2, ?_⟩
    by_cases h1 : o.kind < 1
    · rw [if_pos h1]; exact bad tag2 σ2 sl e st2 (hw80 (.inl h1))
    · rw [if_neg h1]
      refine ⟨o.kind, kindOf tag2 σ2 st2, ?_⟩
      by_cases h2 : 4 < o.kind
      · rw [show decide (4 < o.kind) = true from by simpa using h2]
        exact bad tag2 σ2 sl e st2 (hw80 (.inr h2))
      · rw [show decide (4 < o.kind) = false from by simpa using h2]
        exact hgood (by omega)
  refine parts2_ok (tag := tag1) 23 g (st1 []).sep (fun hnone sl tag2 σ2 st2 => ?_) (fun ps hps sl tag2 σ2 st2 r2 => ?_)
  · rw [L_S] at hnone
    refine split tag2 σ2 sl 20 st2 fun hk => ?_
    unfold j6_multi_work_within
    rw [if_neg (by decide), if_pos (by decide)]
    have := hQ tag2 σ2 ((st1 _).trans st2)
    unfold withinE at this
    rw [if_neg hk, hnone] at this; exact this
  · rw [L_S] at hps
    refine split tag2 σ2 sl 0 st2 fun hk => ?_
    have hwe : withinE home o = if ps.head? ≠ some home ∨ (ps.length = 1 ∧ o.kind ≤ 2) then 82 else 0 := by unfold withinE; rw [if_neg hk, hps]
    have fin : ∀ b : Bool, (b = true ↔ (ps.head? ≠ some home ∨ (ps.length = 1 ∧ o.kind ≤ 2))) → j8_multi_work_within B ro Q b σ2 := fun b hb => by
      unfold j8_multi_work_within
      have := hQ tag2 σ2 ((st1 _).trans st2)
      rw [hwe] at this
      cases b with
      | true => rw [if_pos rfl]; rw [if_pos (hb.1 rfl)] at this; exact this
      | false => rw [if_neg (by decide)]; rw [if_neg (fun h => by have := hb.2 h; cases this)] at this; exact this
    have hln : sl.len = ps.length := by rw [r2.len, List.length_map]
    unfold j6_multi_work_within
    rw [if_neg (by decide), if_neg (by decide)]
    by_cases h0 : ps = []
    · subst h0
      rw [if_pos (by rw [hln]; rfl), if_pos trivial]
      exact fin true (by simp)
    · have hpos := List.length_pos_iff.2 h0
      rw [if_neg (by omega)]
      obtain ⟨pp, hpp, _, hget⟩ := Row.sget r2 st2.sep hpos
      have hh : ps.head? = some ps[0] := by rw [List.head?_eq_getElem?, List.getElem?_eq_getElem hpos]
      refine ⟨pp, hpp, by decide, by omega, _, rfl, S ps[0], hget 0 hpos, S home, ?_, ?_⟩
      · obtain ⟨rs, es, a, b, c⟩ := h.mem
        obtain ⟨pw, hpw, hgw⟩ := ((a.keep (st1 []) (by simp)).keep st2 (by simp)).ptr st2.sep (by simp)
        cases hpw
        exact hgw 4 _ rfl
      · by_cases h1 : ps[0] = home
        · rw [if_neg (by rw [h1]; simp)]
          by_cases h2 : ps.length = 1
          · rw [if_pos (by omega)]
            refine ⟨o.kind, kindOf tag2 σ2 st2, fin _ ?_⟩
            rw [hh, h1]
            simp [h2]
          · rw [if_neg (by omega)]
            exact fin false (by rw [hh, h1]; simp [h2])
        · rw [if_pos (by simpa [S_inj] using h1)]
          exact fin true (by rw [hh]; simp [h1])

set_option maxRecDepth 100000 in
theorem do_ok {W T b : Nat} {home : Str} {owner qn qb : Int} {w : Work} {o : MOp} {ds : Sl} {Q : Int → AH → Prop} (g : Glob ro) (h : WorkAt tag σ W T home owner qn qb w.res w.eff) (ht : TreeIs tag σ 12 T w.st) (hi : InvB b w.st) (hb : b ≤ 2147483648)
    (hlen : w.res.length ≤ 1024 ∧ w.eff.length ≤ 1024) (hd : Row tag σ 6 5 ds (o.data.map vU)) (hdl : o.data.length < 4611686018427387904) (hhl : home.length ≤ 4611686018427387903)
    (hbad : (doE home owner qn qb w o).1 ≠ 0 → ∀ tag' σ', StepS DC ro tag σ tag' σ' → Q (doE home owner qn qb w o).1 σ')
    (hok : (doE home owner qn qb w o).1 = 0 → ∀ tag' σ', StepS DC ro tag σ tag' σ' → WorkAt tag' σ' W T home owner qn qb (doE home owner qn qb w o).2.res (doE home owner qn qb w o).2.eff → TreeIs tag' σ' 12 T (doE home owner qn qb w o).2.st → Q 0 σ') :
    c_multi_work_do B ro (some ⟨W, 0, none⟩) o.kind (S o.path) ds o.ver o.eph o.seq σ Q := by
  refine multi_work_do_ok fun hs => ?_
  unfold f_multi_work_do
  refine nw_cells (tag := tag) 16 hs fun x3 tag1 σ1 st1 r1 => ?_
  refine ⟨_, _, _, _, _, _, Row.cellsAt r1 (st1 []).sep, ?_⟩
  have h1 := h.keepS ((st1 []).s (C := []) (by simp)) (by simp) (by simp) (by simp)
  refine within_ok (tag := tag1) g h1 fun tag2 σ2 st2 => ?_
  by_cases hw' : withinE home o ≠ 0
  · rw [if_pos (by simpa using hw')]
    have hde : doE home owner qn qb w o = (withinE home o, w) := by unfold doE; rw [if_pos hw']
    rw [hde] at hbad
    exact hbad hw' tag2 σ2 (((st1 []).s (by simp)).trans (st2.s (by simp)))
  have hw : withinE home o = 0 := by simpa using hw'
  rw [if_neg (by simpa using hw)]
  have r12 := r1.keep st2 (by simp)
  refine nw_cells (tag := tag2) 17 st2.sep fun x6 tag3 σ3 st3 r3 => ?_
  have r13 := r12.keep (st3 []) (by simp)
  obtain ⟨p, hp, hg⟩ := r13.ptr (st3 []).sep (by simp)
  cases hp
  refine ⟨o.kind, hg 0 _ rfl, S o.path, hg 1 _ rfl, ?_⟩
  refine nw_st (tag := tag3) 18 (st3 []).sep rfl (by simp [storable]) fun x8 tag4 σ4 st4 r8 => ?_
  have r14 := r13.keep (st4 []) (by simp)
  have r34 := r3.keep (st4 []) (by simp)
  have stA : StepS DC ro tag σ tag4 σ4 := ((st1 []).s (by simp)).trans ((st2.s (by simp)).trans (((st3 []).s (by simp)).trans ((st4 []).s (by simp))))
  have hW4 := ((h1.keepS (st2.s (C := []) (by simp)) (by simp) (by simp) (by simp)).keepS ((st3 []).s (C := []) (by simp)) (by simp) (by simp) (by simp)).keepS ((st4 []).s (C := []) (by simp)) (by simp) (by simp) (by simp)
  have hT4 := (((ht.keep (st1 []) (by simp)).keep st2 (by simp)).keep (st3 []) (by simp)).keep (st4 []) (by simp)
  obtain ⟨p4, hp4, hg4⟩ := r14.ptr (st4 []).sep (by simp)
  have hd4 := ((((hd.keep (st1 []) (by simp)).keep st2 (by simp)).keep (st3 []) (by simp)).keep (st4 []) (by simp)).read (st4 []).sep
  cases hp4
  generalize hcore : core owner w.st o = c at *
  have hci : InvB (b + 1) c.1 := by rw [← hcore]; exact core_inv hi (by omega)
  -- behind the change: j8
  have fin : ∀ (tag5 : Nat → Nat) (σ5 : AH), StepS DC ro tag σ tag5 σ5 → Row tag5 σ5 16 82 ⟨some ⟨x3, 0, none⟩, 6, 6⟩ [vI o.kind, Pa.vS o.path, Sl.v ds, vI o.ver, .bool o.eph, .bool o.seq] → Row tag5 σ5 17 84 ⟨some ⟨x6, 0, none⟩, 2, 2⟩ (resV (c.2.1, c.2.2.1)) →
      Row tag5 σ5 18 108 ⟨some ⟨x8, 0, none⟩, 2, 2⟩ (effV (o.kind, if o.kind = 1 then c.2.1 else o.path)) → WorkAt tag5 σ5 W T home owner qn qb w.res w.eff → TreeIs tag5 σ5 12 T c.1 → j8_multi_work_do B ro (some ⟨W, 0, none⟩) x3 x6 x8 Q c.2.2.2 σ5 := by
    intro tag5 σ5 st5 h35 h65 h85 hW5 hT5
    unfold j8_multi_work_do
    by_cases he' : c.2.2.2 ≠ 0
    · rw [if_pos (by simpa using he')]
      have hde : doE home owner qn qb w o = (c.2.2.2, { w with st := c.1 }) := by unfold doE; rw [if_neg (by simpa using hw), hcore, if_pos he']
      rw [hde] at hbad
      exact hbad he' tag5 σ5 st5
    have he : c.2.2.2 = 0 := by simpa using he'
    rw [if_neg (by simpa using he)]
    obtain ⟨p5, hp5, hg5⟩ := h35.ptr st5.sep (by simp)
    cases hp5
    have hde : doE home owner qn qb w o = if overE c.1 home qn qb o.kind then (81, { w with st := c.1 }) else (0, ⟨c.1, w.res ++ [(c.2.1, c.2.2.1)], if o.kind = 4 then w.eff else w.eff ++ [(o.kind, if o.kind = 1 then c.2.1 else o.path)]⟩) := by
      unfold doE; rw [if_neg (by simpa using hw), hcore, if_neg (by simpa using he)]
    -- behind the look at the quota: j10
    have app : overE c.1 home qn qb o.kind = false → ∀ (tag6 : Nat → Nat) (σ6 : AH), StepS DC ro tag σ tag6 σ6 → Row tag6 σ6 16 82 ⟨some ⟨x3, 0, none⟩, 6, 6⟩ [vI o.kind, Pa.vS o.path, Sl.v ds, vI o.ver, .bool o.eph, .bool o.seq] → Row tag6 σ6 17 84 ⟨some ⟨x6, 0, none⟩, 2, 2⟩ (resV (c.2.1, c.2.2.1)) →
        Row tag6 σ6 18 108 ⟨some ⟨x8, 0, none⟩, 2, 2⟩ (effV (o.kind, if o.kind = 1 then c.2.1 else o.path)) → WorkAt tag6 σ6 W T home owner qn qb w.res w.eff → TreeIs tag6 σ6 12 T c.1 → j10_multi_work_do B ro (some ⟨W, 0, none⟩) x3 x6 x8 Q σ6 := by
      intro hov tag6 σ6 st6 h36 h66 h86 hW6 hT6
      rw [hov] at hde
      simp only [Bool.false_eq_true, if_false] at hde
      rw [hde] at hok
      simp only at hok
      unfold j10_multi_work_do
      obtain ⟨rs, es, a, bb, cc⟩ := hW6.mem
      obtain ⟨pw, hpw, hgw⟩ := a.ptr st6.sep (by simp)
      cases hpw
      refine ⟨_, rfl, rs, hgw 0 _ rfl, S c.2.1, c.2.2.1, Row.cellsAt h66 st6.sep, ?_⟩
      refine nw_cells (tag := tag6) 0 st6.sep fun y tag7 σ7 st7 r7 => ?_
      refine awp_appendW (l2 := [resV (c.2.1, c.2.2.1)]) (bb.keep (st7 []) (by simp)) (st7 []).sep (Row.readW1 r7 (st7 []).sep rfl (by decide)) (t := 74) (by kernel_rfl) ty84 rfl (by simp [resV, storable]) (by simp; omega) (by decide) fun rs' tag8 σ8 st8 r8 => ?_
      have st8' := st8 [14] (.inr (by simp))
      refine ⟨rs', rfl, ?_⟩
      have a8 := (a.keep (st7 []) (by simp)).keep st8' (by simp)
      have c8 := (cc.keep (st7 []) (by simp)).keep st8' (by simp)
      refine ⟨_, rfl, ?_⟩
      refine a8.st (i := 0) st8'.sep rfl (by simp) rfl fun σ9 st9 r9 => ?_
      have h39 := ((h36.keep (st7 []) (by simp)).keep st8' (by simp)).keep st9 (by simp)
      obtain ⟨p9, hp9, hg9⟩ := h39.ptr st9.sep (by simp)
      cases hp9
      have st69 : StepS DC ro tag6 σ6 tag8 σ9 := ((st7 []).s (by simp)).trans ((st8'.s (by simp)).trans (st9.s (by simp)))
      have hT9 := ((hT6.keep (st7 []) (by simp)).keep st8' (by simp)).keep st9 (by simp)
      refine ⟨o.kind, hg9 0 _ rfl, ?_⟩
      by_cases hk : o.kind = 4
      · rw [if_neg (by simpa using hk)]
        unfold j17_multi_work_do
        refine hok trivial tag8 σ9 (st6.trans st69) ⟨rs', es, r9, ?_, ?_⟩ hT9
        · rw [List.map_append]; exact r8.keep st9 (by simp)
        · rw [if_pos hk]; exact c8.keep st9 (by simp)
      · rw [if_pos (by simpa using hk)]
        obtain ⟨pb, hpb, hgb⟩ := r9.ptr st9.sep (by simp)
        cases hpb
        have h89 := ((h86.keep (st7 []) (by simp)).keep st8' (by simp)).keep st9 (by simp)
        refine ⟨_, rfl, es, hgb 1 _ rfl, o.kind, S (if o.kind = 1 then c.2.1 else o.path), Row.cellsAt h89 st9.sep, ?_⟩
        refine nw_cells (tag := tag8) 0 st9.sep fun z taga σa sta ra => ?_
        refine awp_appendW (l2 := [effV (o.kind, if o.kind = 1 then c.2.1 else o.path)]) ((c8.keep st9 (by simp)).keep (sta []) (by simp)) (sta []).sep (Row.readW1 ra (sta []).sep rfl (by decide)) (t := 75) (by kernel_rfl) ty108 rfl (by simp [effV, storable]) (by simp; omega) (by decide) fun es' tagb σb stb rb => ?_
        have stb' := stb [15] (.inr (by simp))
        refine ⟨es', rfl, _, rfl, ?_⟩
        refine ((r9.keep (sta []) (by simp)).keep stb' (by simp)).st (i := 1) stb'.sep rfl (by simp) rfl fun σc stc rc => ?_
        unfold j17_multi_work_do
        refine hok trivial tagb σc (st6.trans (st69.trans (((sta []).s (by simp)).trans ((stb'.s (by simp)).trans (stc.s (by simp)))))) ⟨rs', es', rc, ?_, ?_⟩ (((hT9.keep (sta []) (by simp)).keep stb' (by simp)).keep stc (by simp))
        · rw [List.map_append]
          exact (((r8.keep st9 (by simp)).keep (sta []) (by simp)).keep stb' (by simp)).keep stc (by simp)
        · rw [if_neg hk, List.map_append]; exact rb.keep stc (by simp)
    -- the look at the quota
    have look : ∀ hk13 : (o.kind = 1 ∨ o.kind = 3), j26_multi_work_do B ro (some ⟨W, 0, none⟩) x3 x6 x8 Q true σ5 := fun hk13 => by
      unfold j26_multi_work_do
      rw [if_pos rfl]
      obtain ⟨rs, es, a, bb, cc⟩ := id hW5.mem
      obtain ⟨pw, hpw, hgw⟩ := a.ptr st5.sep (by simp)
      cases hpw
      refine ⟨_, rfl, _, rfl, some ⟨T, 0, none⟩, hgw 3 _ rfl, S home, hgw 4 _ rfl, ?_⟩
      refine nw_cells (tag := tag5) 22 st5.sep fun y tag6 σ6 st6 r6 => ?_
      obtain ⟨M6, bs6, hA6⟩ := hT5.keep (st6 []) (by simp)
      have hlc := hci.len
      refine usage_ok (q0 := 22) (hs := [home]) g (by decide) (by decide) hA6 hci.inv (by omega) r6 (by decide) (fun x hx => by rw [List.mem_singleton.1 hx]; exact hhl) (by simp) fun tag7 σ7 st7 => ?_
      have hus : usages c.1 [home] = usage c.1 home := by simp [usages]
      rw [hus]
      refine nw_st (tag := tag7) 21 st7.sep rfl (by simp [storable]) fun z tag8 σ8 st8 r8 => ?_
      have st58 : StepS DC ro tag5 σ5 tag8 σ8 := ((st6 []).s (by simp)).trans ((st7.mono (by decide)).trans ((st8 []).s (by simp)))
      have hW8 := ((hW5.keepS ((st6 []).s (C := []) (by simp)) (by simp) (by simp) (by simp)).keepS st7 (by decide) (by decide) (by decide)).keepS ((st8 []).s (C := []) (by simp)) (by simp) (by simp) (by simp)
      have hT8 : TreeIs tag8 σ8 12 T c.1 := ((hT5.keep (st6 []) (by simp)).keepS st7 (by decide) (by decide)).keep (st8 []) (by simp)
      have h38 := ((h35.keep (st6 []) (by simp)).keepS st7 (by decide)).keep (st8 []) (by simp)
      have h68 := ((h65.keep (st6 []) (by simp)).keepS st7 (by decide)).keep (st8 []) (by simp)
      have h88 := ((h85.keep (st6 []) (by simp)).keepS st7 (by decide)).keep (st8 []) (by simp)
      obtain ⟨rs8, es8, a8, _, _⟩ := hW8.mem
      obtain ⟨pw8, hpw8, hgw8⟩ := a8.ptr (st8 []).sep (by simp)
      cases hpw8
      obtain ⟨pz, hpz, hgz⟩ := r8.ptr (st8 []).sep (by simp)
      cases hpz
      have hov : overE c.1 home qn qb o.kind = (decide (qn < ((usage c.1 home).1 : Nat)) || decide (qb < ((usage c.1 home).2 : Nat))) := by
        unfold overE
        rcases hk13 with h | h <;> simp [h]
      have j35 : ∀ bq : Bool, (bq = overE c.1 home qn qb o.kind) → j35_multi_work_do B ro (some ⟨W, 0, none⟩) x3 x6 x8 Q bq σ8 := fun bq hbq => by
        unfold j35_multi_work_do
        cases hbv : bq with
        | true =>
          rw [if_pos rfl]
          rw [hbv] at hbq
          rw [← hbq] at hde
          simp only [if_true] at hde
          rw [hde] at hbad
          exact hbad (by simp) tag8 σ8 (st5.trans st58)
        | false =>
          rw [if_neg (by decide)]
          exact app (by rw [← hbq, hbv]) tag8 σ8 (st5.trans st58) h38 h68 h88 hW8 hT8
      refine ⟨_, rfl, _, hgz 0 _ rfl, _, hgw8 6 _ rfl, ?_⟩
      by_cases hq1 : qn < ((usage c.1 home).1 : Nat)
      · rw [if_pos hq1]
        exact j35 true (by rw [hov]; simp [hq1])
      · rw [if_neg hq1]
        refine ⟨_, rfl, _, hgz 1 _ rfl, qb, hgw8 7 _ rfl, ?_⟩
        exact j35 _ (by rw [hov]; simp [hq1])
    have nolook : ¬ (o.kind = 1 ∨ o.kind = 3) → j26_multi_work_do B ro (some ⟨W, 0, none⟩) x3 x6 x8 Q false σ5 := fun hk => by
      unfold j26_multi_work_do
      rw [if_neg (by decide)]
      refine app ?_ tag5 σ5 st5 h35 h65 h85 hW5 hT5
      unfold overE
      simp only [not_or] at hk
      simp [hk.1, hk.2]
    refine ⟨o.kind, hg5 0 _ rfl, ?_⟩
    by_cases hk1 : o.kind = 1
    · rw [if_pos hk1]; exact look (.inl hk1)
    · rw [if_neg hk1]
      refine ⟨o.kind, hg5 0 _ rfl, ?_⟩
      by_cases hk3 : o.kind = 3
      · rw [show decide (o.kind = 3) = true from by simpa using hk3]; exact look (.inr hk3)
      · rw [show decide (o.kind = 3) = false from by simpa using hk3]; exact nolook (by simp [hk1, hk3])
  obtain ⟨rs4, es4, a4, _, _⟩ := id hW4.mem
  obtain ⟨pw4, hpw4, hgw4⟩ := a4.ptr (st4 []).sep (by simp)
  cases hpw4
  refine ⟨o.kind, hg4 0 _ rfl, ?_⟩
  by_cases k1 : o.kind = 1
  · rw [if_pos k1]
    have hc1 : c = ((create w.st o.path o.data (if o.eph then owner else 0) o.seq).1, (create w.st o.path o.data (if o.eph then owner else 0) o.seq).2.1, 0, (create w.st o.path o.data (if o.eph then owner else 0) o.seq).2.2) := by rw [← hcore]; unfold core; rw [if_pos k1]
    have j45 : j45_multi_work_do B ro (some ⟨W, 0, none⟩) x3 x6 x8 Q (if o.eph then owner else 0) σ4 := by
      unfold j45_multi_work_do
      refine ⟨_, rfl, some ⟨T, 0, none⟩, hgw4 3 _ rfl, _, hg4 1 _ rfl, _, hg4 2 _ rfl, _, hg4 5 _ rfl, ?_⟩
      refine create_ok g (by decide) (by decide) (by decide) hT4 hd4 hdl fun tag5 σ5 st5 hT5 => ?_
      rw [L_S] at hT5 ⊢
      have st5s : StepS DC ro tag4 σ4 tag5 σ5 := st5.s (by simp)
      have r35 := r34.keepC st5 (by decide)
      refine r35.st (i := 0) st5.sep rfl (by simp) rfl fun σ6 st6 r6 => ?_
      obtain ⟨p6, hp6, hg6⟩ := r6.ptr st6.sep (by simp)
      cases hp6
      refine ⟨_, hg6 0 _ rfl, ?_⟩
      refine ((r8.keepC st5 (by decide)).keep st6 (by simp)).st (i := 1) st6.sep rfl (by simp) rfl fun σ7 st7 r7 => ?_
      have hW7 := ((hW4.keepS (st5.s (C := [12]) (by simp)) (by decide) (by decide) (by decide)).keepS (st6.s (C := [17]) (by simp)) (by decide) (by decide) (by decide)).keepS (st7.s (C := [18]) (by simp)) (by decide) (by decide) (by decide)
      have := fin tag5 σ7 (stA.trans (st5s.trans ((st6.s (by simp)).trans (st7.s (by simp))))) (((r14.keepC st5 (by decide)).keep st6 (by simp)).keep st7 (by simp)) (by rw [hc1]; exact r6.keep st7 (by simp)) (by rw [if_pos k1, hc1]; exact r7) hW7 (by rw [hc1]; exact (hT5.keep st6 (by simp)).keep st7 (by simp))
      rw [hc1] at this
      exact this
    refine ⟨o.eph, hg4 4 _ rfl, ?_⟩
    cases he : o.eph with
    | true =>
      rw [if_pos rfl]
      refine ⟨_, rfl, owner, hgw4 5 _ rfl, ?_⟩
      rw [he] at j45; exact j45
    | false =>
      rw [if_neg (by decide)]
      rw [he] at j45; exact j45
  rw [if_neg k1]
  by_cases k2 : o.kind = 2
  · rw [if_pos k2]
    have hc1 : c = ((remove w.st o.path o.ver).1, [], 0, (remove w.st o.path o.ver).2) := by rw [← hcore]; unfold core; rw [if_neg k1, if_pos k2]
    refine ⟨_, rfl, some ⟨T, 0, none⟩, hgw4 3 _ rfl, _, hg4 1 _ rfl, _, hg4 3 _ rfl, ?_⟩
    refine delete_ok g (by decide) (by decide) (by decide) hT4 (by rw [L_S]; exact del_up hi.inv) fun tag5 σ5 st5 hT5 => ?_
    rw [L_S] at hT5 ⊢
    have hW5 := hW4.keepS (st5.s (C := [12]) (by simp)) (by decide) (by decide) (by decide)
    have := fin tag5 σ5 (stA.trans (st5.s (by simp))) (r14.keepC st5 (by decide)) (by rw [hc1]; exact r34.keepC st5 (by decide)) (by rw [if_neg k1]; exact r8.keepC st5 (by decide)) hW5 (by rw [hc1]; exact hT5)
    rw [hc1] at this
    exact this
  rw [if_neg k2]
  by_cases k3 : o.kind = 3
  · rw [if_pos k3]
    have hc1 : c = ((setD w.st o.path o.data o.ver).1, [], (setD w.st o.path o.data o.ver).2.1, (setD w.st o.path o.data o.ver).2.2) := by rw [← hcore]; unfold core; rw [if_neg k1, if_neg k2, if_pos k3]
    refine ⟨_, rfl, some ⟨T, 0, none⟩, hgw4 3 _ rfl, _, hg4 1 _ rfl, _, hg4 2 _ rfl, _, hg4 3 _ rfl, ?_⟩
    refine set_ok g (by decide) (by decide) (by decide) hT4 hd4 hdl fun tag5 σ5 st5 hT5 => ?_
    rw [L_S] at hT5 ⊢
    refine (r34.keepC st5 (by decide)).st (i := 1) st5.sep rfl (by simp) rfl fun σ6 st6 r6 => ?_
    have hW6 := (hW4.keepS (st5.s (C := [12]) (by simp)) (by decide) (by decide) (by decide)).keepS (st6.s (C := [17]) (by simp)) (by decide) (by decide) (by decide)
    have := fin tag5 σ6 (stA.trans ((st5.s (by simp)).trans (st6.s (by simp)))) ((r14.keepC st5 (by decide)).keep st6 (by simp)) (by rw [hc1]; exact r6) (by rw [if_neg k1]; exact (r8.keepC st5 (by decide)).keep st6 (by simp)) hW6 (by rw [hc1]; exact hT5.keep st6 (by simp))
    rw [hc1] at this
    exact this
  rw [if_neg k3]
  have k4 : o.kind = 4 := by
    unfold withinE at hw
    split at hw
    · cases hw
    · omega
  rw [if_pos k4]
  have hc1 : c = (w.st, [], 0, chkE w.st o.path o.ver) := by rw [← hcore]; unfold core; rw [if_neg k1, if_neg k2, if_neg k3]
  have hps : ∃ ps, parts o.path = some ps := by
    unfold withinE at hw
    split at hw
    · cases hw
    · cases e : parts o.path with
      | none => rw [e] at hw; cases hw
      | some ps => exact ⟨ps, rfl⟩
  obtain ⟨ps, hps⟩ := hps
  refine nw_cells (tag := tag4) 19 (st4 []).sep fun x10 tag5 σ5 st5 r5 => ?_
  have hT5 := hT4.keep (st5 []) (by simp)
  have hW5 := hW4.keepS ((st5 []).s (C := []) (by simp)) (by simp) (by simp) (by simp)
  have r145 := r14.keep (st5 []) (by simp)
  obtain ⟨rs5, es5, a5, _, _⟩ := id hW5.mem
  obtain ⟨pw5, hpw5, hgw5⟩ := a5.ptr (st5 []).sep (by simp)
  cases hpw5
  obtain ⟨p5, hp5, hg5⟩ := r145.ptr (st5 []).sep (by simp)
  cases hp5
  refine ⟨_, rfl, some ⟨T, 0, none⟩, hgw5 3 _ rfl, _, hg5 1 _ rfl, ?_⟩
  obtain ⟨M5, bs5, hA5⟩ := hT5
  have endz : ∀ (tag6 : Nat → Nat) (σ6 : AH) (e : Int), StepC 0 ro tag5 σ5 tag6 σ6 → ∀ v1 v2 v3 v4 : Int, (e = 0 → (∃ n, w.st.lookup o.path = some n ∧ v1 = n.ver)) → (e ≠ 0 → chkE w.st o.path o.ver = e) →
      stN ⟨x10, 0, none⟩ (fun σ =>
        if e = 0 then
         ∃ (x97_83 : Int), acell ro σ ((⟨x3, 0, none⟩ : Addr).add 3) = some (.int .i64 x97_83) ∧
         j77_multi_work_do B ro (some ⟨W, 0, none⟩) x3 x6 x8 x10 e Q (!(decide (x97_83 = (-1)))) σ
        else
        j77_multi_work_do B ro (some ⟨W, 0, none⟩) x3 x6 x8 x10 e Q false σ) [.int .i64 v1, .int .i64 v2, .int .i64 v3, .int .i64 v4] 0 σ6 := by
    intro tag6 σ6 e st6 v1 v2 v3 v4 he0 hen
    refine (r5.keepC st6 (by decide)).stAll st6.sep (by simp) (by simp [storable]) fun σ7 st7 r7 => ?_
    have st57 : StepS DC ro tag4 σ4 tag6 σ7 := ((st5 []).s (by simp)).trans ((st6.s (by simp)).trans (st7.s (by simp)))
    have r147 := (r145.keepC st6 (by decide)).keep st7 (by simp)
    have hW7 := (hW5.keepS (st6.s (C := [0]) (by simp)) (by decide) (by decide) (by decide)).keepS (st7.s (C := [19]) (by simp)) (by decide) (by decide) (by decide)
    have hT7 : TreeIs tag6 σ7 12 T w.st := ⟨M5, bs5, (hA5.keepC st6 (by decide) (by decide)).keep st7 (by simp)⟩
    obtain ⟨p7, hp7, hg7⟩ := r147.ptr st7.sep (by simp)
    cases hp7
    obtain ⟨pa, hpa, hga⟩ := r7.ptr st7.sep (by simp)
    cases hpa
    have f8 : chkE w.st o.path o.ver = c.2.2.2 := by rw [hc1]
    have goal : ∀ e', e' = chkE w.st o.path o.ver → j8_multi_work_do B ro (some ⟨W, 0, none⟩) x3 x6 x8 Q e' σ7 := fun e' he' => by
      rw [he', f8]
      exact fin tag6 σ7 (stA.trans st57) r147 (by rw [hc1]; exact ((r34.keep (st5 []) (by simp)).keepC st6 (by decide)).keep st7 (by simp)) (by rw [if_neg k1]; exact ((r8.keep (st5 []) (by simp)).keepC st6 (by decide)).keep st7 (by simp)) hW7 (by rw [hc1]; exact hT7)
    by_cases hz : e = 0
    · rw [if_pos hz]
      obtain ⟨n, hn, hv1⟩ := he0 hz
      have hchk : chkE w.st o.path o.ver = if o.ver ≠ -1 ∧ o.ver ≠ n.ver then 72 else 0 := by unfold chkE; rw [hn]
      refine ⟨o.ver, hg7 3 _ rfl, ?_⟩
      unfold j77_multi_work_do
      by_cases hm : o.ver = -1
      · rw [show (!decide (o.ver = -1)) = false from by simp [hm], if_neg (by decide)]
        unfold j79_multi_work_do
        rw [if_neg (by decide)]
        exact goal e (by rw [hchk, if_neg (by simp [hm]), hz])
      · rw [show (!decide (o.ver = -1)) = true from by simp [hm], if_pos rfl]
        refine ⟨o.ver, hg7 3 _ rfl, v1, hga 0 _ rfl, ?_⟩
        unfold j79_multi_work_do
        by_cases hv : o.ver = v1
        · rw [show (!decide (o.ver = v1)) = false from by simp [hv], if_neg (by decide)]
          exact goal e (by rw [hchk, if_neg (by rw [← hv1]; simp [hv]), hz])
        · rw [show (!decide (o.ver = v1)) = true from by simp [hv], if_pos rfl]
          exact goal 72 (by rw [hchk, if_pos ⟨hm, by rw [← hv1]; exact hv⟩])
    · rw [if_neg hz]
      unfold j77_multi_work_do
      rw [if_neg (by decide)]
      unfold j79_multi_work_do
      rw [if_neg (by decide)]
      exact goal e (hen hz).symm
  refine get_ok g (by decide) (by decide) (by decide) hA5 (fun p n h => hi.inv.data p n h) (fun hb => by rw [L_S, hps] at hb; cases hb) (fun _ _ hmiss tag6 σ6 st6 => ?_) (fun n hn s tag6 σ6 st6 hr6 => ?_)
  · rw [L_S] at hmiss
    exact endz tag6 σ6 70 st6 0 0 0 0 (fun h => by cases h) (fun _ => by unfold chkE; rw [hmiss])
  · rw [L_S] at hn
    exact endz tag6 σ6 0 st6 n.ver n.ctr n.own n.kids (fun _ => ⟨n, hn, rfl⟩) (fun h => absurd rfl h)
end Go.Proofs.YthfpmipeejjogaaGreatDoor.Zt

/- Several changes as one: the pure part, and the roles of a copy that takes the place of a tree. -/
namespace Go.Proofs.YthfpmipeejjogaaGreatDoor.Zt
open Go Go.Proofs.YthfpmipeejjogaaGreatDoor.SL Go.Proofs.YthfpmipeejjogaaGreatDoor.G Go.Proofs.YthfpmipeejjogaaGreatDoor.Pa
set_option linter.unusedSimpArgs false
set_option linter.unusedVariables false
variable {B : World} {ro σ σ' : AH} {tag tag' : Nat → Nat}

/-- the changes one behind the other: the place of the bad one and its error, or what is done -/
def applyL (home : Str) (owner qn qb : Int) : List MOp → Nat → Work → (Nat × Int) ⊕ Work
  | [], _, w => .inr w
  | o :: os, i, w => if (doE home owner qn qb w o).1 ≠ 0 then .inl (i, (doE home owner qn qb w o).1) else applyL home owner qn qb os (i + 1) (doE home owner qn qb w o).2
structure Done where
  st : St
  res : List (Str × Int)
  eff : List (Int × Str)
  bad : Int
  err : Int
def doneOf (st : St) : (Nat × Int) ⊕ Work → Done
  | .inl (i, e) => ⟨st, [], [], i, e⟩
  | .inr w => ⟨w.st, w.res, w.eff, -1, 0⟩
def applyE (st : St) (home : Str) (owner qn qb : Int) (ops : List MOp) : Done :=
  if ops.length = 0 ∨ 16 < ops.length then ⟨st, [], [], 0, 80⟩
  else if owner < 1 ∨ 4611686018427387903 < owner then ⟨st, [], [], 0, 10⟩
  else doneOf st (applyL home owner qn qb ops 0 ⟨srt st, [], []⟩)
theorem applyL_inv {home : Str} {owner qn qb : Int} : ∀ {os : List MOp} {i b : Nat} {w w' : Work}, applyL home owner qn qb os i w = .inr w' → InvB b w.st → b + os.length ≤ 4398046511103 → InvB (b + os.length) w'.st := by
  intro os
  induction os with
  | nil => intro i b w w' h hi _; cases h; exact hi
  | cons o os ih =>
    intro i b w w' h hi hb
    simp only [List.length_cons] at hb ⊢
    unfold applyL at h
    split at h
    · cases h
    · have := ih h (doE_inv hi (by omega)) (by omega)
      rw [show b + (os.length + 1) = b + 1 + os.length by omega]; exact this
theorem invB_srt {b : Nat} {st : St} (h : InvB b st) : InvB b (srt st) := by
  have hp := (srt_perm st).symm
  have hl := lookup_perm hp h.inv.keys
  exact ⟨inv_perm hp h.inv, fun k n hk => h.ver k n (by rw [hl]; exact hk), fun k n hk => h.own k n (by rw [hl]; exact hk), fun n hk => h.rt n (by rw [hl]; exact hk), by rw [(srt_perm st).length_eq]; exact h.len⟩
theorem applyE_inv {b : Nat} {st : St} {home : Str} {owner qn qb : Int} {ops : List MOp} (h : InvB b st) (hb : b ≤ 4398046511000) : InvB (b + 16) (applyE st home owner qn qb ops).st := by
  unfold applyE
  split
  · exact h.mono (by omega)
  · rename_i hl
    split
    · exact h.mono (by omega)
    · cases e : applyL home owner qn qb ops 0 ⟨srt st, [], []⟩ with
      | inl x => exact h.mono (by omega)
      | inr w => exact (applyL_inv e (invB_srt h) (by omega)).mono (by omega)

/-! other roles for the same blocks -/
theorem Row.retag {tg : Nat → Nat} {r r' : Nat} {e : TypeId} {s : Sl} {l : List Value} (h : Row tag σ r e s l) (hr : ∀ c, tag c = r → σ c ≠ none → tg c = r') : Row tg σ r' e s l := by
  rcases h with h | ⟨b, cs, ha, ht, hb, hx⟩
  · exact .inl h
  · exact .inr ⟨b, cs, ha, hr b ht (by rw [hb]; simp), hb, hx⟩
theorem RowW.retag {tg : Nat → Nat} {r r' : Nat} {e : TypeId} {w : Nat} {s : Sl} {l : List (List Value)} (h : RowW tag σ r e w s l) (hr : ∀ c, tag c = r → σ c ≠ none → tg c = r') : RowW tg σ r' e w s l := by
  rcases h with h | ⟨b, cs, ha, ht, hb, hx⟩
  · exact .inl h
  · exact .inr ⟨b, cs, ha, hr b ht (by rw [hb]; simp), hb, hx⟩
theorem MapIs.retag {tg : Nat → Nat} {r r' b : Nat} {m : KV} (h : MapIs tag σ r b m) (hr : ∀ c, tag c = r → σ c ≠ none → tg c = r') : MapIs tg σ r' b m := by
  obtain ⟨es, k, hb, hx⟩ := h.obj
  exact ⟨hr b h.tg (by rw [hb]; simp), es, k, hb, hx⟩
theorem TreeIs.retag {tg : Nat → Nat} {r T : Nat} {st : St} (h : TreeIs tag σ r T st) (hr : ∀ c, tag c % 64 = r % 64 ∨ tag c = 6 → σ c ≠ none → tg c = tag c) : TreeIs tg σ r T st := by
  obtain ⟨M, bs, h⟩ := h
  refine ⟨M, bs, h.keys, h.len, h.nd, Row.retag h.cell fun c hc hn => ?_, MapIs.retag h.map fun c hc hn => ?_, fun i b p hb hp => ?_⟩
  · rw [hr c (.inl (by rw [hc])) hn, hc]
  · rw [hr c (.inl (by rw [hc]; omega)) hn, hc]
  · obtain ⟨s, h1, h2⟩ := h.nodes i b p hb hp
    exact ⟨s, Row.retag h1 fun c hc hn => by rw [hr c (.inl (by rw [hc]; omega)) hn, hc], Row.retag h2 fun c hc hn => by rw [hr c (.inr hc) hn, hc]⟩
end Go.Proofs.YthfpmipeejjogaaGreatDoor.Zt

/- Several changes as one, the walk: Apply. -/
namespace Go.Proofs.YthfpmipeejjogaaGreatDoor.Zt
open Go Go.Proofs.YthfpmipeejjogaaGreatDoor.SL Go.Proofs.YthfpmipeejjogaaGreatDoor.G Go.Proofs.YthfpmipeejjogaaGreatDoor.Pa
set_option linter.unusedSimpArgs false
set_option linter.unusedVariables false
variable {B : World} {ro σ σ' : AH} {tag tag' : Nat → Nat}

def opV (o : MOp) (d : Sl) : List Value := [vI o.kind, Pa.vS o.path, Sl.v d, vI o.ver, .bool o.eph, .bool o.seq]
/-- ops in memory: a row of the role q, the bytes of each in rows of data -/
def OpsAt (tag : Nat → Nat) (σ : AH) (q : Nat) (s : Sl) (ops : List MOp) : Prop :=
  ∃ ds : List Sl, ds.length = ops.length ∧ RowW tag σ q 82 6 s (List.zipWith opV ops ds) ∧ ∀ (i : Nat) (o : MOp) (d : Sl), ops[i]? = some o → ds[i]? = some d → Row tag σ 6 5 d (o.data.map vU)
theorem OpsAt.keepS {C : List Nat} {q : Nat} {s : Sl} {ops : List MOp} (h : OpsAt tag σ q s ops) (k : StepS C ro tag σ tag' σ') (hq : q % 64 ∉ C) (h6 : 6 ∉ C) : OpsAt tag' σ' q s ops := by
  obtain ⟨ds, h1, h2, h3⟩ := h
  exact ⟨ds, h1, RowW.keepS h2 k hq, fun i o d ho hd => (h3 i o d ho hd).keepS k h6⟩
theorem OpsAt.len {q : Nat} {s : Sl} {ops : List MOp} (h : OpsAt tag σ q s ops) : s.len = ops.length := by
  obtain ⟨ds, h1, h2, h3⟩ := h
  rw [h2.len, List.length_zipWith, h1, Nat.min_self]
theorem OpsAt.retag {tg : Nat → Nat} {q : Nat} {s : Sl} {ops : List MOp} (h : OpsAt tag σ q s ops) (hr : ∀ c, tag c = q ∨ tag c = 6 → σ c ≠ none → tg c = tag c) : OpsAt tg σ q s ops := by
  obtain ⟨ds, h1, h2, h3⟩ := h
  exact ⟨ds, h1, RowW.retag h2 fun c hc hn => by rw [hr c (.inl hc) hn, hc], fun i o d ho hd => Row.retag (h3 i o d ho hd) fun c hc hn => by rw [hr c (.inr hc) hn, hc]⟩
/-- the classes of roles that Apply touches, beside the tree's own -/
abbrev DA : List Nat := [0, 1, 2, 3, 4, 5, 12, 13, 14, 15, 17, 18, 19, 20, 21, 25, 26, 27, 30, 31]
theorem dc_da : ∀ c ∈ DC, c ∈ DA := by decide
theorem stA_cells {r : Nat} {e : TypeId} {b n c : Nat} {l vs : List Value} {K : AH → Prop} (h : Row tag σ r e ⟨some ⟨b, 0, none⟩, n, c⟩ l) (hs : SL.Sep ro σ) (hl : vs.length = l.length) (hv : ∀ v ∈ vs, storable v = true)
    (hK : ∀ σ', Step [r] ro tag σ tag σ' → Row tag σ' r e ⟨some ⟨b, 0, none⟩, n, c⟩ vs → SL.cellsAt ro σ' ⟨b, 0, none⟩ 0 vs → K σ') : stN ⟨b, 0, none⟩ K vs 0 σ :=
  h.stAll hs hl hv fun σ' st r' => hK σ' st r' (Row.cellsAt r' st.sep)

set_option maxRecDepth 100000 in
set_option maxHeartbeats 1000000 in
theorem apply_ok {r T b q : Nat} {st : St} {home : Str} {owner qn qb : Int} {ops : List MOp} {s : Sl} {Q : Sl → Sl → Int → Int → AH → Prop} (g : Glob ro) (hr : r < 64) (hrD : r ∉ DA) (hr6 : r ≠ 6) (hr63 : r ≠ 63) (hq : q % 64 ∉ DA) (hq63 : q ≠ 63) (hT : TreeIs tag σ r T st) (hi : InvB b st) (hb : b ≤ 1073741824)
    (hops : OpsAt tag σ q s ops) (hdl : ∀ o ∈ ops, o.data.length < 4611686018427387904) (hhl : home.length ≤ 4611686018427387903)
    (hQ : ∀ (rs es : Sl) (tag' : Nat → Nat) (σ' : AH), StepS (r :: DA) ro tag σ tag' σ' → TreeIs tag' σ' r T (applyE st home owner qn qb ops).st → RowW tag' σ' 14 84 2 rs ((applyE st home owner qn qb ops).res.map resV) → RowW tag' σ' 15 108 2 es ((applyE st home owner qn qb ops).eff.map effV) →
      Q rs es (applyE st home owner qn qb ops).bad (applyE st home owner qn qb ops).err σ') :
    c_multi_Apply B ro (some ⟨T, 0, none⟩) (S home) owner qn qb s σ Q := by
  refine multi_Apply_ok fun hs => ?_
  unfold f_multi_Apply
  have hsl := hops.len
  -- roles of the start: nothing is of the copy's class
  let tag0 : Nat → Nat := fun c => if σ c ≠ none ∧ tag c % 64 = 12 then 63 else tag c
  have t0 : ∀ c, tag c % 64 ≠ 12 → tag0 c = tag c := fun c h => by simp only [tag0]; rw [if_neg (fun h' => h h'.2)]
  have hT0 : TreeIs tag0 σ r T st := hT.retag fun c hc _ => t0 c (by
    rcases hc with h | h
    · intro h'; simp only [List.mem_cons, not_or] at hrD; omega
    · omega)
  have hops0 : OpsAt tag0 σ q s ops := hops.retag fun c hc _ => t0 c (by
    rcases hc with h | h
    · intro h'; simp only [List.mem_cons, not_or] at hq; rw [h] at h'; omega
    · omega)
  have old12 : ∀ c, σ c ≠ none → tag0 c % 64 ≠ 12 := fun c hc h => by
    simp only [tag0] at h
    split at h
    · simp at h
    · rename_i hn; exact hn ⟨hc, h⟩
  -- the end: roles for what lies there
  have conv : ∀ (tagE : Nat → Nat) (σE : AH), StepS (r :: DA) ro tag0 σ tagE σE → ∀ tagF : Nat → Nat, (∀ c, tagF c = if σ c ≠ none then tag c else if tagE c % 64 = 12 then tagE c - 12 + r else tagE c) →
      StepS (r :: DA) ro tag σ tagF σE ∧ (∀ c, σE c ≠ none → tagE c % 64 ≠ 12 → tagE c ≠ 63 → tagF c = tagE c) ∧ (∀ c, tagE c % 64 = 12 → tagF c = tagE c - 12 + r) := fun tagE σE stE tagF hF => by
    obtain ⟨R, hR, stR⟩ := stE
    have holdE : ∀ c, σ c ≠ none → tagE c = tag0 c := fun c hc => by
      cases h : σ c with
      | none => exact absurd h hc
      | some o => exact (stR.old c o h).1
    refine ⟨⟨R, hR, ⟨fun c o hc hn => ?_, fun c o hc => ?_, stR.sep⟩⟩, fun c hcE h12 h63 => ?_, fun c h12 => ?_⟩
    · have hne : σ c ≠ none := by rw [hc]; simp
      refine ⟨by rw [hF, if_pos hne], ?_⟩
      by_cases h : tag c % 64 = 12
      · have e : tag0 c = 63 := by simp only [tag0]; rw [if_pos ⟨hne, h⟩]
        refine (stR.keep c o hc ?_).2
        rw [e]
        intro hm
        have := hR 63 hm
        simp only [List.mem_cons, not_or] at this
        rcases this with h | h
        · omega
        · revert h; decide
      · exact (stR.keep c o hc (by rw [t0 c h]; exact hn)).2
    · have hne : σ c ≠ none := by rw [hc]; simp
      exact ⟨by rw [hF, if_pos hne], (stR.old c o hc).2⟩
    · by_cases hne : σ c ≠ none
      · rw [hF, if_pos hne]
        have e := holdE c hne
        by_cases h : tag c % 64 = 12
        · have e2 : tag0 c = 63 := by simp only [tag0]; rw [if_pos ⟨hne, h⟩]
          exact absurd (e.trans e2) h63
        · rw [e, t0 c h]
      · rw [hF, if_neg hne, if_neg h12]
    · have hne : ¬ σ c ≠ none := fun hne => old12 c hne (by rw [← holdE c hne]; exact h12)
      rw [hF, if_neg hne, if_pos h12]
  -- what is answered at once
  have quick : ∀ (e bad : Int) (tag1 : Nat → Nat) (σ1 : AH) (x10 : Nat), applyE st home owner qn qb ops = ⟨st, [], [], bad, e⟩ → StepS (r :: DA) ro tag0 σ tag1 σ1 → TreeIs tag1 σ1 r T st → Row tag1 σ1 26 77 ⟨some ⟨x10, 0, none⟩, 3, 3⟩ [Sl.v ⟨none, 0, 0⟩, Sl.v ⟨none, 0, 0⟩, vI 0] →
      stN ⟨x10, 0, none⟩ (fun σ => ∃ (x10_3a : Sl) (x10_3b : Sl) (x10_3c : Int), SL.cellsAt ro σ ⟨x10, 0, none⟩ 0 [Sl.v x10_3a, Sl.v x10_3b, .int .i64 x10_3c] ∧ Q x10_3a x10_3b x10_3c e σ) [Sl.v (⟨none, 0, 0⟩ : Sl), Sl.v (⟨none, 0, 0⟩ : Sl), .int .i64 bad] 0 σ1 := by
    intro e bad tag1 σ1 x10 hE st1 hT1 r1
    refine stA_cells r1 st1.sep (by simp) (by simp [storable, Sl.v]) fun σ2 st2 r2 c2 => ?_
    refine ⟨⟨none, 0, 0⟩, ⟨none, 0, 0⟩, bad, c2, ?_⟩
    obtain ⟨k1, k2, _⟩ := conv tag1 σ2 (st1.trans (st2.s (by simp))) _ fun c => rfl
    rw [hE] at hQ
    refine hQ ⟨none, 0, 0⟩ ⟨none, 0, 0⟩ _ σ2 k1 ?_ (RowW.nil _ _ _) (RowW.nil _ _ _)
    refine (hT1.keep st2 (by simp only [List.mem_cons, not_or] at hrD; simp; omega)).retag fun c hc hn => ?_
    refine k2 c hn ?_ ?_
    · simp only [List.mem_cons, not_or] at hrD
      rcases hc with h | h <;> omega
    · rcases hc with h | h
      · intro h'; rw [h'] at h; omega
      · omega
  refine nw_cells (tag := tag0) 25 hs fun x8 tag1 σ1 st1 r1 => ?_
  refine nw_cells (tag := tag1) 26 (st1 []).sep fun x10 tag2 σ2 st2 r2 => ?_
  have st02 : StepS (r :: DA) ro tag0 σ tag2 σ2 := ((st1 []).s (by simp)).trans ((st2 []).s (by simp))
  have hT2 := (hT0.keep (st1 []) (by simp)).keep (st2 []) (by simp)
  have hops2 := (hops0.keepS ((st1 []).s (C := []) (by simp)) (by simp) (by simp)).keepS ((st2 []).s (C := []) (by simp)) (by simp) (by simp)
  by_cases c1 : ops.length = 0 ∨ 16 < ops.length
  · rw [if_pos (by omega)]
    exact quick 80 0 tag2 σ2 x10 (by unfold applyE; rw [if_pos c1]) st02 hT2 r2
  rw [if_neg (by omega)]
  by_cases c2 : owner < 1 ∨ 4611686018427387903 < owner
  · rw [if_pos c2]
    exact quick 10 0 tag2 σ2 x10 (by unfold applyE; rw [if_neg c1, if_pos c2]) st02 hT2 r2
  rw [if_neg c2]
  obtain ⟨R0, hR0⟩ : ∃ R0, applyL home owner qn qb ops 0 ⟨srt st, [], []⟩ = R0 := ⟨_, rfl⟩
  have hAE : applyE st home owner qn qb ops = doneOf st R0 := by unfold applyE; rw [if_neg c1, if_neg c2, hR0]
  have hrD' := hrD
  simp only [List.mem_cons, List.not_mem_nil, or_false, not_or] at hrD'
  have hlen := hi.len
  obtain ⟨M2, bs2, hA2⟩ := hT2
  refine encode_ok hr (by omega) (by omega) (by omega) (by omega) hA2 hi.inv.small (by omega) fun se tag3 σ3 st3 r3 => ?_
  have hRr : ∀ x ∈ [30, 94, 1], x % 64 ≠ r % 64 ∧ x ≠ 6 := fun x hx => by
    simp only [List.mem_cons, List.not_mem_nil, or_false] at hx; omega
  have hT3 : TreeIs tag3 σ3 r T st := ⟨M2, bs2, hA2.keep st3 hRr⟩
  have hel := encS_len hi (by omega)
  have hdec := dec_encS (hi.inv3 (by omega)) (by omega)
  refine decode_ok (tag := tag3) (r := 12) g (by decide) (by decide) (by decide) (by decide) (r3.read st3.sep) (by omega) (fun hn => by rw [hdec] at hn; cases hn) fun st' hst' U tag4 σ4 st4 h4 => ?_
  rw [hdec] at hst'
  obtain rfl := Option.some.inj hst'
  have st3s : StepS (r :: DA) ro tag2 σ2 tag3 σ3 := st3.s (by simp)
  have st4s : StepS (r :: DA) ro tag3 σ3 tag4 σ4 := st4.mono (by simp)
  have hT4 := hT3.keepS st4 (by simp; omega) (by decide)
  have hops4 := (hops2.keepS (st3.s (C := [30, 1]) (by decide)) (by simp only [List.mem_cons, not_or] at hq ⊢; simp; omega) (by decide)).keepS st4 (by simp only [List.mem_cons, not_or] at hq ⊢; simp; omega) (by decide)
  have r84 := ((r1.keep (st2 []) (by simp)).keep st3 (by decide)).keepS st4 (by decide)
  have r104 := (r2.keep st3 (by decide)).keepS st4 (by decide)
  refine ⟨qn, qb, Row.cellsAt r84 st4.sep, ?_⟩
  refine nw_cells (tag := tag4) 13 st4.sep fun W tag5 σ5 st5 r5 => ?_
  have hW5 : WorkAt tag5 σ5 W U home owner qn qb [] [] := ⟨⟨none, 0, 0⟩, ⟨none, 0, 0⟩, r5, RowW.nil _ _ _, RowW.nil _ _ _⟩
  suffices ∀ (m j : Nat) (w : Work) (tag6 : Nat → Nat) (σ6 : AH), j + m = ops.length → applyL home owner qn qb (ops.drop j) j w = R0 → InvB (b + j) w.st → w.res.length ≤ j ∧ w.eff.length ≤ j → StepS (r :: DA) ro tag0 σ tag6 σ6 → WorkAt tag6 σ6 W U home owner qn qb w.res w.eff → TreeIs tag6 σ6 12 U w.st → TreeIs tag6 σ6 r T st → OpsAt tag6 σ6 q s ops →
      Row tag6 σ6 26 77 ⟨some ⟨x10, 0, none⟩, 3, 3⟩ [Sl.v ⟨none, 0, 0⟩, Sl.v ⟨none, 0, 0⟩, vI 0] → lfpD (l16_multi_Apply B ro (some ⟨T, 0, none⟩) s x10 (some ⟨U, 0, none⟩) W Q) (j : Int) σ6 from
    this _ 0 ⟨srt st, [], []⟩ tag5 σ5 (Nat.zero_add _) hR0 (invB_srt hi) ⟨by simp, by simp⟩ (st02.trans (st3s.trans (st4s.trans ((st5 []).s (by simp))))) hW5 (h4.keep (st5 []) (by simp)) (hT4.keep (st5 []) (by simp)) (hops4.keepS ((st5 []).s (C := []) (by simp)) (by simp) (by simp)) (r104.keep (st5 []) (by simp))
  intro m
  induction m with
  | zero =>
    intro j w tag6 σ6 hj hap hi6 hl6 st6 hW6 hU6 hT6 hops6 r106
    refine lfpD.intro ?_
    unfold l16_multi_Apply
    rw [if_neg (by omega)]
    rw [List.drop_of_length_le (by omega)] at hap
    have hAE' : applyE st home owner qn qb ops = ⟨w.st, w.res, w.eff, -1, 0⟩ := by rw [hAE, ← hap]; rfl
    unfold j10_multi_Apply
    obtain ⟨M6, bs6, hA6⟩ := hT6
    obtain ⟨MU, bsU, hAU⟩ := hU6
    refine ⟨_, rfl, some MU, Row.cellsAt hAU.cell st6.sep, _, rfl, ?_⟩
    refine stA_cells hA6.cell st6.sep (by simp) (by simp [storable]) fun σ7 st7 r7 _ => ?_
    obtain ⟨rs, es, a, bb, cc⟩ := hW6.mem
    have hr13 : ∀ x : Nat, x ∈ DA → x ∉ [r] := fun x hx h => by
      rw [List.mem_singleton] at h; rw [h] at hx; exact hrD hx
    refine (a.keep st7 (hr13 13 (by decide))).st (i := 2) st7.sep rfl (by simp) rfl fun σ8 st8 r8 => ?_
    obtain ⟨pw, hpw, hgw⟩ := r8.ptr st8.sep (by simp)
    cases hpw
    refine ⟨rs, es, -1, cellsAt_of 0 fun i v hv => ?_, ?_⟩
    · rw [Nat.zero_add]
      rcases i with _ | _ | _ | i
      · cases hv; exact hgw 0 _ rfl
      · cases hv; exact hgw 1 _ rfl
      · cases hv; exact hgw 2 _ rfl
      · cases hv
    have r108 := (r106.keep st7 (hr13 26 (by decide))).keep st8 (by simp)
    refine stA_cells r108 st8.sep (by simp) (by simp [storable, Sl.v]) fun σ9 st9 r9 c9 => ?_
    refine ⟨rs, es, -1, c9, ?_⟩
    have st69 : StepS (r :: DA) ro tag0 σ tag6 σ9 := st6.trans ((st7.s (by simp; omega)).trans ((st8.s (by simp)).trans (st9.s (by simp))))
    obtain ⟨k1, k2, k3⟩ := conv tag6 σ9 st69 _ fun c => rfl
    rw [hAE'] at hQ
    refine hQ rs es _ σ9 k1 ?_ ?_ ?_
    · -- the tree that has taken the place
      have u7 := hAU.keep st7 (by simp; omega)
      have u8 := u7.keep st8 (by simp)
      have u9 := u8.keep st9 (by simp)
      have c79 := (r7.keep st8 (by simp; omega)).keep st9 (by simp; omega)
      refine ⟨MU, bsU, u9.keys, u9.len, u9.nd, Row.retag c79 fun c hc hn => ?_, MapIs.retag u9.map fun c hc hn => ?_, fun i c p hc hp => ?_⟩
      · rw [k2 c hn (by rw [hc]; omega) (by omega), hc]
      · rw [k3 c (by rw [hc]), hc]; omega
      · obtain ⟨ds, n1, n2⟩ := u9.nodes i c p hc hp
        refine ⟨ds, Row.retag n1 fun c' hc' hn => ?_, Row.retag n2 fun c' hc' hn => ?_⟩
        · rw [k3 c' (by rw [hc'] <;> omega), hc'] <;> omega
        · rw [k2 c' hn (by rw [hc']; decide) (by omega), hc']
    · have := ((bb.keep st7 (hr13 14 (by decide))).keep st8 (by simp)).keep st9 (by simp)
      exact RowW.retag this fun c hc hn => by rw [k2 c hn (by rw [hc]; decide) (by omega), hc]
    · have := ((cc.keep st7 (hr13 15 (by decide))).keep st8 (by simp)).keep st9 (by simp)
      exact RowW.retag this fun c hc hn => by rw [k2 c hn (by rw [hc]; decide) (by omega), hc]
  | succ m ih =>
    intro j w tag6 σ6 hj hap hi6 hl6 st6 hW6 hU6 hT6 hops6 r106
    have hjl : j < ops.length := by omega
    obtain ⟨ds, d1, d2, d3⟩ := id hops6
    have hjd : j < ds.length := by omega
    have hz : (List.zipWith opV ops ds)[j]? = some (opV ops[j] ds[j]) := by
      rw [List.getElem?_zipWith, List.getElem?_eq_getElem hjl, List.getElem?_eq_getElem hjd]; try rfl
    have hdj := d3 j ops[j] ds[j] (List.getElem?_eq_getElem hjl) (List.getElem?_eq_getElem hjd)
    have hdlj := hdl _ (List.getElem_mem hjl)
    obtain ⟨bq, hbq, _, hget⟩ := d2.get st6.sep hz
    have hdrop : ops.drop j = ops[j] :: ops.drop (j + 1) := List.drop_eq_getElem_cons hjl
    refine lfpD.intro ?_
    unfold l16_multi_Apply
    rw [if_pos (by omega)]
    refine ⟨_, hbq, by omega, by omega, ops[j].kind, S ops[j].path, ds[j], ops[j].ver, ops[j].eph, ops[j].seq, cellsAt_of 0 fun i v hv => ?_, ?_⟩
    · rw [Int.toNat_natCast, add_add, add_add, Nat.zero_add, Nat.zero_add]
      exact hget i v hv
    refine nw_st (tag := tag6) 27 st6.sep rfl (by simp [storable, Sl.v]) fun x16 tag7 σ7 st7 r7 => ?_
    refine ⟨ops[j].kind, S ops[j].path, ds[j], ops[j].ver, ops[j].eph, ops[j].seq, Row.cellsAt r7 (st7 []).sep, ?_⟩
    have k7 : ∀ C : List Nat, StepS C ro tag6 σ6 tag7 σ7 := fun C => (st7 []).s (by simp)
    have hq' := hq
    simp only [List.mem_cons, List.not_mem_nil, or_false, not_or] at hq'
    rw [hdrop] at hap
    unfold applyL at hap
    refine do_ok (tag := tag7) (b := b + j) (w := w) g (hW6.keepS (k7 []) (by simp) (by simp) (by simp)) (hU6.keep (st7 []) (by simp)) hi6 (by omega) ⟨by omega, by omega⟩ (hdj.keep (st7 []) (by simp)) hdlj hhl (fun he tag8 σ8 st8 => ?_) fun he tag8 σ8 st8 hW8 hU8 => ?_
    · rw [if_pos (by simpa using he)]
      rw [if_pos he] at hap
      have hAE' : applyE st home owner qn qb ops = ⟨st, [], [], (j : Nat), (doE home owner qn qb w ops[j]).1⟩ := by rw [hAE, ← hap]; rfl
      refine quick _ (j : Nat) tag8 σ8 x10 hAE' (st6.trans ((k7 _).trans (st8.mono (fun c hc => List.mem_cons_of_mem _ (dc_da c hc))))) ((hT6.keep (st7 []) (by simp)).keepS st8 (by simp; omega) (by decide)) ((r106.keep (st7 []) (by simp)).keepS st8 (by decide))
    · rw [if_neg (by simp)]
      rw [if_neg (by simpa using he)] at hap
      rw [Pa.inc j (by omega)]
      have hdl' := doE_len (home := home) (owner := owner) (qn := qn) (qb := qb) (w := w) (o := ops[j])
      have hi7 : InvB (b + (j + 1)) (doE home owner qn qb w ops[j]).2.st := by
        have hbj : b + j ≤ 4398046511103 := by omega
        have := doE_inv (home := home) (owner := owner) (qn := qn) (qb := qb) (o := ops[j]) hi6 hbj
        exact this
      refine ih (j + 1) _ tag8 σ8 (by omega) hap hi7 ⟨by omega, by omega⟩ (st6.trans ((k7 _).trans (st8.mono (fun c hc => List.mem_cons_of_mem _ (dc_da c hc))))) hW8 hU8 ((hT6.keep (st7 []) (by simp)).keepS st8 (by simp; omega) (by decide)) ((hops6.keepS (k7 []) (by simp) (by simp)).keepS st8 (by simp; omega) (by decide)) ((r106.keep (st7 []) (by simp)).keepS st8 (by decide))
end Go.Proofs.YthfpmipeejjogaaGreatDoor.Zt

/- Functions as predicate transformers, and the proofs that the code does what they tell: printed by wip/tools/gen.py. -/
namespace Go.Proofs.YthfpmipeejjogaaGreatDoor.G
open Go Go.Proofs.YthfpmipeejjogaaGreatDoor.SL
set_option linter.unusedVariables false
set_option linter.unusedSimpArgs false

def j12_law08_MultiBounds (B : World) (ro : AH) (Q : Bool → AH → Prop) (σ : AH) : Prop :=
 c_law08_awake B ro σ fun x66_13 σ =>
 Q x66_13 σ

def j30_law08_MultiBounds (B : World) (ro : AH) (a0 : ByteArray) (a2 : Sl) (x4_1 : Nat) (x14_3 : Option Addr) (x36_15 : Int) (Q : Bool → AH → Prop) (Y14 : (Int) → AH → Prop) (x64_31 : Bool) (σ : AH) : Prop :=
 if x64_31 = true then
  Q false σ
 else
 Y14 (IntKind.i64.wrap (x36_15 + 1)) σ

def l14_law08_MultiBounds (B : World) (ro : AH) (a0 : ByteArray) (a2 : Sl) (x4_1 : Nat) (x14_3 : Option Addr) (Q : Bool → AH → Prop) : (Int) → AH → ((Int) → AH → Prop) → Prop := fun x36_15 σ Y14 =>
 if x36_15 < (a2.len : Int) then
  ∃ p38_16 : Addr, a2.a = some p38_16 ∧ (0 : Int) ≤ x36_15 ∧ x36_15 < (a2.len : Int) ∧
  ∃ (x39_17a : ByteArray) (x39_17b : Int) (x39_17c : Int) (x39_17d : Int) (x39_17e : Sl) (x39_17f : Bool), cellsAt ro σ (p38_16.add (Int.toNat x36_15 * 6)) 0 [.string x39_17a, .int .i64 x39_17b, .int .i64 x39_17c, .int .i64 x39_17d, Sl.v x39_17e, .bool x39_17f] ∧
  nw ro σ (.cells #[.string ByteArray.empty, .int .i64 0, .int .i64 0, .int .i64 0, Sl.v (⟨none, 0, 0⟩ : Sl), .bool false] 72) fun x10_18 σ =>
  stN ⟨x10_18, 0, none⟩ (fun σ =>
   lent σ fun ψ σ =>
    ∃ (x43_19 : Int), acell (join ro ψ) (fun _ => none) ((⟨x10_18, 0, none⟩ : Addr).add 1) = some (.int .i64 x43_19) ∧
    ∃ (x44_20a : Int) (x44_20b : Int), cellsAt (join ro ψ) (fun _ => none) ⟨x4_1, 0, none⟩ 0 [.int .i64 x44_20a, .int .i64 x44_20b] ∧
    ∃ (x46_21 : Sl), acell (join ro ψ) σ ((⟨x10_18, 0, none⟩ : Addr).add 4) = some (Sl.v x46_21) ∧
    c_law08_copied B (join ro ψ) x46_21 σ fun x47_22 σ =>
    c_multi_Apply B (join ro ψ) x14_3 a0 x43_19 x44_20a x44_20b x47_22 σ fun x48_23a x48_23b x48_23c x48_24 σ =>
    (Disj ψ σ → (fun σ => 
     nw ro σ (.cells #[.string a0] 9) fun x51_25 σ =>
     c_multi_Usage B ro x14_3 (⟨some ⟨x51_25, 0, none⟩, 1, 1⟩ : Sl) σ fun x52_26a x52_26b σ =>
     nw ro σ (.cells #[.int .i64 0, .int .i64 0] 69) fun x11_27 σ =>
     stN ⟨x11_27, 0, none⟩ (fun σ =>
      ∃ (x54_28 : Int), acell ro σ ⟨x11_27, 0, none⟩ = some (.int .i64 x54_28) ∧
      ∃ (x56_29 : Int), acell ro σ ⟨x4_1, 0, none⟩ = some (.int .i64 x56_29) ∧
      if x56_29 < x54_28 then
       j30_law08_MultiBounds B ro a0 a2 x4_1 x14_3 x36_15 Q Y14 true σ
      else
      ∃ (x60_32 : Int), acell ro σ ((⟨x11_27, 0, none⟩ : Addr).add 1) = some (.int .i64 x60_32) ∧
      ∃ (x62_33 : Int), acell ro σ ((⟨x4_1, 0, none⟩ : Addr).add 1) = some (.int .i64 x62_33) ∧
      j30_law08_MultiBounds B ro a0 a2 x4_1 x14_3 x36_15 Q Y14 (decide (x62_33 < x60_32)) σ) [.int .i64 x52_26a, .int .i64 x52_26b] 0 σ) (join ψ σ))) [.string x39_17a, .int .i64 x39_17b, .int .i64 x39_17c, .int .i64 x39_17d, Sl.v x39_17e, .bool x39_17f] 0 σ
 else
 j12_law08_MultiBounds B ro Q σ

def j9_law08_MultiBounds (B : World) (ro : AH) (a0 : ByteArray) (a2 : Sl) (x4_1 : Nat) (x14_3 : Option Addr) (Q : Bool → AH → Prop) (x32_10 : Bool) (σ : AH) : Prop :=
 if x32_10 = true then
  c_law08_awake B ro σ fun x33_11 σ =>
  Q x33_11 σ
 else
 lfpD (l14_law08_MultiBounds B ro a0 a2 x4_1 x14_3 Q ) (0) σ

def f_law08_MultiBounds (B : World) (ro : AH) (a0 : ByteArray) (a1_0 : Int) (a1_1 : Int) (a2 : Sl) (σ : AH) (Q : Bool → AH → Prop) : Prop :=
 nw ro σ (.cells #[.int .i64 a1_0, .int .i64 a1_1] 69) fun x4_1 σ =>
 nw ro σ (.cells #[.string a0] 9) fun x13_2 σ =>
 c_law08_start B ro (⟨some ⟨x13_2, 0, none⟩, 1, 1⟩ : Sl) σ fun x14_3 σ =>
 if x14_3 = none then
  Q false σ
 else
 nw ro σ (.cells #[.string a0] 9) fun x19_4 σ =>
 c_multi_Usage B ro x14_3 (⟨some ⟨x19_4, 0, none⟩, 1, 1⟩ : Sl) σ fun x20_5a x20_5b σ =>
 nw ro σ (.cells #[.int .i64 0, .int .i64 0] 69) fun x8_6 σ =>
 stN ⟨x8_6, 0, none⟩ (fun σ =>
  ∃ (x22_7 : Int), acell ro σ ⟨x8_6, 0, none⟩ = some (.int .i64 x22_7) ∧
  ∃ (x24_8 : Int), acell ro σ ⟨x4_1, 0, none⟩ = some (.int .i64 x24_8) ∧
  if x24_8 < x22_7 then
   j9_law08_MultiBounds B ro a0 a2 x4_1 x14_3 Q true σ
  else
  ∃ (x28_34 : Int), acell ro σ ((⟨x8_6, 0, none⟩ : Addr).add 1) = some (.int .i64 x28_34) ∧
  ∃ (x30_35 : Int), acell ro σ ((⟨x4_1, 0, none⟩ : Addr).add 1) = some (.int .i64 x30_35) ∧
  j9_law08_MultiBounds B ro a0 a2 x4_1 x14_3 Q (decide (x30_35 < x28_34)) σ) [.int .i64 x20_5a, .int .i64 x20_5b] 0 σ

set_option maxRecDepth 100000 in
set_option maxHeartbeats 4000000 in
theorem law08_MultiBounds_ok {B : World} {ro : AH} {a0 : ByteArray} {a1_0 : Int} {a1_1 : Int} {a2 : Sl} {σ : AH} {Q : Bool → AH → Prop} (h : Sep ro σ → f_law08_MultiBounds B ro a0 a1_0 a1_1 a2 σ Q) : c_law08_MultiBounds B ro a0 a1_0 a1_1 a2 σ Q := by
  refine ACalls.of_sep fun hsep => ?_
  replace h := h hsep
  refine ACalls.of_body (args := [.string a0, .agg #[.int .i64 a1_0, .int .i64 a1_1], Sl.v a2]) Tryz.func9 rfl (by rw [Tryz.ntmps9]; simp) ?_
  rw [Tryz.ntmps9]
  unfold f_law08_MultiBounds at h
  refine AW.seq ?_
  refine AW.reg ?_
  refine Ls rfl rfl (X_new (A_box rfl rfl) fun x4_1 g1 g2 => ?_)
  replace h := h x4_1 g1 g2
  refine Lp (V_asg rfl rfl) rfl rfl ?_
  refine Lnil ?_
  refine thenN ?_
  refine AW.seq ?_
  refine AW.reg ?_
  refine Lp (V_move rfl rfl) rfl rfl ?_
  refine Ls rfl rfl (X_new (A_bsl (vs := [(0, .string a0)]) (cs := #[.string a0]) rfl Tryz.underlying25 ty9 (by decide) rfl rfl) fun x13_2 g1 g2 => ?_)
  replace h := h x13_2 g1 g2
  refine Ls rfl rfl (X_call rfl Tryz.func35 rfl rfl rfl (ACalls.mono h ?_))
  rintro v σ ⟨x14_3, rfl, h⟩
  refine Lp (V_asg rfl rfl) rfl rfl ?_
  refine Lnil ?_
  refine thenN ?_
  refine AW.seq ?_
  refine AW.seq ?_
  refine AW.reg ?_
  refine Lp (V_move rfl rfl) rfl rfl ?_
  refine Lp (V_eqP rfl Tryz.underlying23 rfl rfl) rfl rfl ?_
  refine Lnil ?_
  refine thenN ?_
  refine AW.iff rfl isNone_iff h (fun h => ?_) (fun h => ?_)
  · refine AW.seq ?_
    refine AW.reg ?_
    refine Lp (V_asg rfl rfl) rfl rfl ?_
    refine Lnil ?_
    refine thenN ?_
    refine AW.ret ?_
    refine thenR ?_
    exact bR1 Tryz.results9 rfl ⟨_, rfl, h⟩
  refine AW.skip ?_
  refine thenN ?_
  refine AW.seq ?_
  refine AW.seq ?_
  refine AW.reg ?_
  refine Lp (V_move rfl rfl) rfl rfl ?_
  refine Lp (V_move rfl rfl) rfl rfl ?_
  refine Ls rfl rfl (X_new (A_bsl (vs := [(0, .string a0)]) (cs := #[.string a0]) rfl Tryz.underlying25 ty9 (by decide) rfl rfl) fun x19_4 g1 g2 => ?_)
  replace h := h x19_4 g1 g2
  refine Ls rfl rfl (X_call rfl Tryz.func39 rfl rfl rfl (ACalls.mono h ?_))
  rintro v σ ⟨x20_5a, x20_5b, rfl, h⟩
  refine Ls rfl rfl (X_new (A_alloc rfl ty69) fun x8_6 g1 g2 => ?_)
  replace h := h x8_6 g1 g2
  refine Ls rfl rfl (X_st rfl ty69 rfl rfl rfl rfl (stN_mono h fun σ h => ?_))
  refine Lnil ?_
  refine thenN ?_
  refine AW.seq ?_
  refine AW.reg ?_
  refine Lp (V_fld rfl Tryz.underlying69 rfl ty3 (by decide) rfl) rfl rfl ?_
  obtain ⟨x22_7, hc, h⟩ := h
  refine Ls rfl rfl (X_ld rfl Tryz.underlying3 rfl rfl hc ?_)
  refine Lp (V_fld rfl Tryz.underlying69 rfl ty3 (by decide) rfl) rfl rfl ?_
  obtain ⟨x24_8, hc, h⟩ := h
  refine Ls rfl rfl (X_ld rfl Tryz.underlying3 rfl rfl hc ?_)
  refine Lp (V_gtr rfl rfl rfl) rfl rfl ?_
  refine Lp (V_move rfl rfl) rfl rfl ?_
  refine LsplitJ 6 (decide (x24_8 < x22_7)) decide_eq_true_iff h (fun fr σ => ∃ (x32_10 : Bool), FrLe [(0, .string a0), (2, Sl.v a2), (4, .pointer (some ⟨x4_1, 0, none⟩)), (7, .pointer x14_3), (32, .bool x32_10)] fr ∧ j9_law08_MultiBounds B ro a0 a2 x4_1 x14_3 Q x32_10 σ) ?_ ?_ ?_
  · intro h e5 hk5
    refine Ln rfl rfl rfl rfl (.inl (by rw [e5]; rfl)) ?_
    refine Ln rfl rfl rfl rfl (.inl (by rw [e5]; rfl)) ?_
    refine Ln rfl rfl rfl rfl (.inl (by rw [e5]; rfl)) ?_
    refine Ln rfl rfl rfl rfl (.inl (by rw [e5]; rfl)) ?_
    refine Ln rfl rfl rfl rfl (.inl (by rw [e5]; rfl)) ?_
    refine Lp (V_pickT rfl (evb e5) rfl) rfl rfl ?_
    exact hk5 _ _ ⟨_, (FrLe.cons rfl (FrLe.cons rfl (FrLe.cons rfl (FrLe.cons rfl (FrLe.cons rfl (FrLe.nil _)))))), h⟩
  · intro h e5 hk5
    refine Lypb (V_fld rfl Tryz.underlying69 rfl ty3 (by decide) rfl) rfl rfl rfl rfl e5 ?_
    obtain ⟨x28_34, hc, h⟩ := h
    refine Lyb rfl rfl rfl rfl e5 (X_ld rfl Tryz.underlying3 rfl rfl hc ?_)
    refine Lypb (V_fld rfl Tryz.underlying69 rfl ty3 (by decide) rfl) rfl rfl rfl rfl e5 ?_
    obtain ⟨x30_35, hc, h⟩ := h
    refine Lyb rfl rfl rfl rfl e5 (X_ld rfl Tryz.underlying3 rfl rfl hc ?_)
    refine Lypb (V_gtr rfl rfl rfl) rfl rfl rfl rfl e5 ?_
    refine Lp (V_pickF rfl (evb e5) rfl) rfl rfl ?_
    exact hk5 _ _ ⟨_, (FrLe.cons rfl (FrLe.cons rfl (FrLe.cons rfl (FrLe.cons rfl (FrLe.cons rfl (FrLe.nil _)))))), h⟩
  rintro fr σ ⟨x32_10, hl, h⟩
  unfold j9_law08_MultiBounds at h
  refine Lfr hl ?_
  refine Lnil ?_
  refine thenN ?_
  refine AW.iff rfl Iff.rfl h (fun h => ?_) (fun h => ?_)
  · refine AW.seq ?_
    refine AW.reg ?_
    refine Ls rfl rfl (X_call rfl Tryz.func38 rfl rfl rfl (ACalls.mono h ?_))
    rintro v σ ⟨x33_11, rfl, h⟩
    refine Lp (V_asg rfl rfl) rfl rfl ?_
    refine Lnil ?_
    refine thenN ?_
    refine AW.ret ?_
    refine thenR ?_
    exact bR1 Tryz.results9 rfl ⟨_, rfl, h⟩
  refine AW.skip ?_
  refine thenN ?_
  refine AW.seqJ (fun fr σ => FrLe [] fr ∧ j12_law08_MultiBounds B ro Q σ) ?_ ?_
  · rintro fr σ ⟨hl, h⟩
    refine AW.weaken ?_ hl (HLe.refl _)
    unfold j12_law08_MultiBounds at h
    refine AW.seq ?_
    refine AW.reg ?_
    refine Ls rfl rfl (X_call rfl Tryz.func38 rfl rfl rfl (ACalls.mono h ?_))
    rintro v σ ⟨x66_13, rfl, h⟩
    refine Lp (V_asg rfl rfl) rfl rfl ?_
    refine Lnil ?_
    refine thenN ?_
    refine AW.ret ?_
    exact bR1 Tryz.results9 rfl ⟨_, rfl, h⟩
  refine AW.seq ?_
  refine AW.reg ?_
  refine Lp (V_move rfl rfl) rfl rfl ?_
  refine Lp (V_lenL rfl rfl Tryz.underlying67 rfl rfl) rfl rfl ?_
  refine Lp (V_move rfl rfl) rfl rfl ?_
  refine Lnil ?_
  refine thenN ?_
  refine AW.block ?_
  refine ARound.loop (fr' := [(0, .string a0), (4, .pointer (some ⟨x4_1, 0, none⟩)), (7, .pointer x14_3), (34, Sl.v a2), (35, .int .i64 (a2.len : Int)), (36, .int .i64 0)]) ?_ (FrLe.cons rfl (FrLe.cons rfl (FrLe.cons rfl (FrLe.cons rfl (FrLe.cons rfl (FrLe.cons rfl (FrLe.nil _)))))))
  refine h (fun x36_15 σ => ARound _ _ _ _ _ _ [(0, .string a0), (4, .pointer (some ⟨x4_1, 0, none⟩)), (7, .pointer x14_3), (34, Sl.v a2), (35, .int .i64 (a2.len : Int)), (36, .int .i64 x36_15)] σ) ?_
  rintro x36_15 σ Y14 hY14 h
  show AW _ _ _ _ _ _ _ _
  unfold l14_law08_MultiBounds at h
  refine AW.seq ?_
  refine AW.reg ?_
  refine Lp (V_lss rfl rfl rfl) rfl rfl ?_
  refine Lnil ?_
  refine thenN ?_
  refine AW.seq ?_
  refine AW.iff rfl decide_eq_true_iff h (fun h => ?_) (fun h => ?_)
  rotate_left
  · refine AW.exit ?_
    refine thenE ?_
    refine thenE ?_
    refine blockE ?_
    refine thenN ?_
    exact ⟨(FrLe.nil _), h⟩
  refine AW.skip ?_
  refine thenN ?_
  refine AW.seq ?_
  refine AW.block ?_
  refine AW.seq ?_
  refine AW.reg ?_
  obtain ⟨p38_16, ha, h0, h1, h⟩ := h
  refine Lp (V_ixA rfl Tryz.underlying67 ty72 (ixL rfl ha) rfl h0 h1) rfl rfl ?_
  obtain ⟨x39_17a, x39_17b, x39_17c, x39_17d, x39_17e, x39_17f, hc, h⟩ := h
  refine Ls rfl rfl (X_lda rfl Tryz.underlying72 rfl ty72 rfl hc ?_)
  refine Ls rfl rfl (X_new (A_alloc rfl ty72) fun x10_18 g1 g2 => ?_)
  replace h := h x10_18 g1 g2
  refine Ls rfl rfl (X_st rfl ty72 rfl rfl rfl rfl (stN_mono h fun σ h => ?_))
  refine Lnil ?_
  refine thenN ?_
  refine AW.seq ?_
  refine AW.drawnL (fun i => ([0, 0, 0, 0, 0, 0, 3, 2, 2] : List Nat).getD i 2) [(6, 7), (6, 8)] [0, 1, 2, 3, 4, 5, 6, 7, 8] Tryz.mixed h (by decide +kernel) ?_
  clear h
  intro ψ σ h
  refine Dp rfl rfl rfl rfl (V_move rfl rfl) ?_
  refine Dp rfl rfl rfl rfl (V_move rfl rfl) ?_
  refine Dp rfl rfl rfl rfl (V_fld rfl Tryz.underlying72 rfl ty3 (by decide) rfl) ?_
  obtain ⟨x43_19, hc, h⟩ := h
  refine Dp rfl rfl rfl rfl (V_ld rfl Tryz.underlying3 rfl rfl hc) ?_
  obtain ⟨x44_20a, x44_20b, hc, h⟩ := h
  refine Dp rfl rfl rfl rfl (V_lda rfl Tryz.underlying69 rfl ty69 rfl hc) ?_
  refine Dp rfl rfl rfl rfl (V_fld rfl Tryz.underlying72 rfl ty70 (by decide) rfl) ?_
  obtain ⟨x46_21, hc, h⟩ := h
  refine Dr rfl rfl rfl rfl (R_ld rfl Tryz.underlying70 rfl rfl hc) ?_
  refine Dg rfl rfl rfl rfl (X_call rfl Tryz.func37 rfl rfl rfl (ACalls.mono h ?_))
  rintro v σ ⟨x47_22, rfl, h⟩
  refine Dg rfl rfl rfl rfl (X_call rfl Tryz.func36 rfl rfl rfl (ACalls.mono h ?_))
  rintro v σ ⟨x48_23a, x48_23b, x48_23c, x48_24, rfl, h⟩
  refine ⟨_, FrEq.refl _, fun hdj => ?_⟩
  replace h := h hdj
  refine thenN ?_
  refine AW.seq ?_
  refine AW.reg ?_
  refine Lp (V_move rfl rfl) rfl rfl ?_
  refine Lp (V_move rfl rfl) rfl rfl ?_
  refine Ls rfl rfl (X_new (A_bsl (vs := [(0, .string a0)]) (cs := #[.string a0]) rfl Tryz.underlying25 ty9 (by decide) rfl rfl) fun x51_25 g1 g2 => ?_)
  replace h := h x51_25 g1 g2
  refine Ls rfl rfl (X_call rfl Tryz.func39 rfl rfl rfl (ACalls.mono h ?_))
  rintro v σ ⟨x52_26a, x52_26b, rfl, h⟩
  refine Ls rfl rfl (X_new (A_alloc rfl ty69) fun x11_27 g1 g2 => ?_)
  replace h := h x11_27 g1 g2
  refine Ls rfl rfl (X_st rfl ty69 rfl rfl rfl rfl (stN_mono h fun σ h => ?_))
  refine Lnil ?_
  refine thenN ?_
  refine AW.seq ?_
  refine AW.reg ?_
  refine Lp (V_fld rfl Tryz.underlying69 rfl ty3 (by decide) rfl) rfl rfl ?_
  obtain ⟨x54_28, hc, h⟩ := h
  refine Ls rfl rfl (X_ld rfl Tryz.underlying3 rfl rfl hc ?_)
  refine Lp (V_fld rfl Tryz.underlying69 rfl ty3 (by decide) rfl) rfl rfl ?_
  obtain ⟨x56_29, hc, h⟩ := h
  refine Ls rfl rfl (X_ld rfl Tryz.underlying3 rfl rfl hc ?_)
  refine Lp (V_gtr rfl rfl rfl) rfl rfl ?_
  refine Lp (V_move rfl rfl) rfl rfl ?_
  refine LsplitJ 6 (decide (x56_29 < x54_28)) decide_eq_true_iff h (fun fr σ => ∃ (x64_31 : Bool), FrLe [(0, .string a0), (4, .pointer (some ⟨x4_1, 0, none⟩)), (7, .pointer x14_3), (34, Sl.v a2), (35, .int .i64 (a2.len : Int)), (36, .int .i64 x36_15), (64, .bool x64_31)] fr ∧ j30_law08_MultiBounds B ro a0 a2 x4_1 x14_3 x36_15 Q Y14 x64_31 σ) ?_ ?_ ?_
  · intro h e5 hk5
    refine Ln rfl rfl rfl rfl (.inl (by rw [e5]; rfl)) ?_
    refine Ln rfl rfl rfl rfl (.inl (by rw [e5]; rfl)) ?_
    refine Ln rfl rfl rfl rfl (.inl (by rw [e5]; rfl)) ?_
    refine Ln rfl rfl rfl rfl (.inl (by rw [e5]; rfl)) ?_
    refine Ln rfl rfl rfl rfl (.inl (by rw [e5]; rfl)) ?_
    refine Lp (V_pickT rfl (evb e5) rfl) rfl rfl ?_
    exact hk5 _ _ ⟨_, (FrLe.cons rfl (FrLe.cons rfl (FrLe.cons rfl (FrLe.cons rfl (FrLe.cons rfl (FrLe.cons rfl (FrLe.cons rfl (FrLe.nil _)))))))), h⟩
  · intro h e5 hk5
    refine Lypb (V_fld rfl Tryz.underlying69 rfl ty3 (by decide) rfl) rfl rfl rfl rfl e5 ?_
    obtain ⟨x60_32, hc, h⟩ := h
    refine Lyb rfl rfl rfl rfl e5 (X_ld rfl Tryz.underlying3 rfl rfl hc ?_)
    refine Lypb (V_fld rfl Tryz.underlying69 rfl ty3 (by decide) rfl) rfl rfl rfl rfl e5 ?_
    obtain ⟨x62_33, hc, h⟩ := h
    refine Lyb rfl rfl rfl rfl e5 (X_ld rfl Tryz.underlying3 rfl rfl hc ?_)
    refine Lypb (V_gtr rfl rfl rfl) rfl rfl rfl rfl e5 ?_
    refine Lp (V_pickF rfl (evb e5) rfl) rfl rfl ?_
    exact hk5 _ _ ⟨_, (FrLe.cons rfl (FrLe.cons rfl (FrLe.cons rfl (FrLe.cons rfl (FrLe.cons rfl (FrLe.cons rfl (FrLe.cons rfl (FrLe.nil _)))))))), h⟩
  rintro fr σ ⟨x64_31, hl, h⟩
  unfold j30_law08_MultiBounds at h
  refine Lfr hl ?_
  refine Lnil ?_
  refine thenN ?_
  refine AW.iff rfl Iff.rfl h (fun h => ?_) (fun h => ?_)
  · refine AW.seq ?_
    refine AW.reg ?_
    refine Lp (V_asg rfl rfl) rfl rfl ?_
    refine Lnil ?_
    refine thenN ?_
    refine AW.ret ?_
    refine blockR ?_
    refine thenR ?_
    refine thenR ?_
    refine blockR ?_
    refine thenR ?_
    exact bR1 Tryz.results9 rfl ⟨_, rfl, h⟩
  refine AW.skip ?_
  refine blockN ?_
  refine thenN ?_
  refine AW.reg ?_
  refine Lp (V_add rfl rfl rfl) rfl rfl ?_
  refine Lp (V_move rfl rfl) rfl rfl ?_
  refine Lnil ?_
  refine thenN ?_
  refine ARound.head (fr' := [(0, .string a0), (4, .pointer (some ⟨x4_1, 0, none⟩)), (7, .pointer x14_3), (34, Sl.v a2), (35, .int .i64 (a2.len : Int)), (36, .int .i64 (IntKind.i64.wrap (x36_15 + 1)))]) ?_ (FrLe.cons rfl (FrLe.cons rfl (FrLe.cons rfl (FrLe.cons rfl (FrLe.cons rfl (FrLe.cons rfl (FrLe.nil _)))))))
  exact hY14 _ _ h

def j2_law08_start (B : World) (ro : AH) (x6_1 : Option Addr) (Q : Option Addr → AH → Prop) (σ : AH) : Prop :=
 Q x6_1 σ

def l3_law08_start (B : World) (ro : AH) (a0 : Sl) (x6_1 : Option Addr) (Q : Option Addr → AH → Prop) : (Int) → AH → ((Int) → AH → Prop) → Prop := fun x11_4 σ Y3 =>
 if x11_4 < (a0.len : Int) then
  ∃ p13_5 : Addr, a0.a = some p13_5 ∧ (0 : Int) ≤ x11_4 ∧ x11_4 < (a0.len : Int) ∧
  ∃ (x14_6 : ByteArray), acell ro σ (p13_5.add (Int.toNat x11_4 * 1)) = some (.string x14_6) ∧
  (⟨#[47]⟩ : ByteArray).size + x14_6.size ≤ 9223372036854775807 ∧
  c_ztree_Tree_Create B ro x6_1 ((⟨#[47]⟩ : ByteArray) ++ x14_6) (⟨none, 0, 0⟩ : Sl) 0 false σ fun x18_7 x18_8 σ =>
  Y3 (IntKind.i64.wrap (x11_4 + 1)) σ
 else
 j2_law08_start B ro x6_1 Q σ

def f_law08_start (B : World) (ro : AH) (a0 : Sl) (σ : AH) (Q : Option Addr → AH → Prop) : Prop :=
 c_ztree_New B ro σ fun x6_1 σ =>
 if x6_1 = none then
  Q none σ
 else
 lfpD (l3_law08_start B ro a0 x6_1 Q ) (0) σ

set_option maxRecDepth 100000 in
set_option maxHeartbeats 4000000 in
theorem law08_start_ok {B : World} {ro : AH} {a0 : Sl} {σ : AH} {Q : Option Addr → AH → Prop} (h : Sep ro σ → f_law08_start B ro a0 σ Q) : c_law08_start B ro a0 σ Q := by
  refine ACalls.of_sep fun hsep => ?_
  replace h := h hsep
  refine ACalls.of_body (args := [Sl.v a0]) Tryz.func35 rfl (by rw [Tryz.ntmps35]; simp) ?_
  rw [Tryz.ntmps35]
  unfold f_law08_start at h
  refine AW.seq ?_
  refine AW.reg ?_
  refine Lp (V_asg rfl rfl) rfl rfl ?_
  refine Lnil ?_
  refine thenN ?_
  refine AW.seq ?_
  refine AW.reg ?_
  refine Ls rfl rfl (X_call rfl Tryz.func30 rfl rfl rfl (ACalls.mono h ?_))
  rintro v σ ⟨x6_1, rfl, h⟩
  refine Lp (V_asg rfl rfl) rfl rfl ?_
  refine Lnil ?_
  refine thenN ?_
  refine AW.seq ?_
  refine AW.seq ?_
  refine AW.reg ?_
  refine Lp (V_move rfl rfl) rfl rfl ?_
  refine Lp (V_eqP rfl Tryz.underlying23 rfl rfl) rfl rfl ?_
  refine Lnil ?_
  refine thenN ?_
  refine AW.iff rfl isNone_iff h (fun h => ?_) (fun h => ?_)
  · refine AW.seq ?_
    refine AW.reg ?_
    refine Lp (V_asg rfl rfl) rfl rfl ?_
    refine Lnil ?_
    refine thenN ?_
    refine AW.ret ?_
    refine thenR ?_
    exact bR1 Tryz.results35 rfl ⟨_, rfl, h⟩
  refine AW.skip ?_
  refine thenN ?_
  refine AW.seqJ (fun fr σ => FrLe [(3, .pointer x6_1)] fr ∧ j2_law08_start B ro x6_1 Q σ) ?_ ?_
  · rintro fr σ ⟨hl, h⟩
    refine AW.weaken ?_ hl (HLe.refl _)
    unfold j2_law08_start at h
    refine AW.seq ?_
    refine AW.reg ?_
    refine Lp (V_move rfl rfl) rfl rfl ?_
    refine Lp (V_asg rfl rfl) rfl rfl ?_
    refine Lnil ?_
    refine thenN ?_
    refine AW.ret ?_
    exact bR1 Tryz.results35 rfl ⟨_, rfl, h⟩
  refine AW.seq ?_
  refine AW.reg ?_
  refine Lp (V_move rfl rfl) rfl rfl ?_
  refine Lp (V_lenL rfl rfl Tryz.underlying25 rfl rfl) rfl rfl ?_
  refine Lp (V_move rfl rfl) rfl rfl ?_
  refine Lnil ?_
  refine thenN ?_
  refine AW.block ?_
  refine ARound.loop (fr' := [(3, .pointer x6_1), (9, Sl.v a0), (10, .int .i64 (a0.len : Int)), (11, .int .i64 0)]) ?_ (FrLe.cons rfl (FrLe.cons rfl (FrLe.cons rfl (FrLe.cons rfl (FrLe.nil _)))))
  refine h (fun x11_4 σ => ARound _ _ _ _ _ _ [(3, .pointer x6_1), (9, Sl.v a0), (10, .int .i64 (a0.len : Int)), (11, .int .i64 x11_4)] σ) ?_
  rintro x11_4 σ Y3 hY3 h
  show AW _ _ _ _ _ _ _ _
  unfold l3_law08_start at h
  refine AW.seq ?_
  refine AW.reg ?_
  refine Lp (V_lss rfl rfl rfl) rfl rfl ?_
  refine Lnil ?_
  refine thenN ?_
  refine AW.seq ?_
  refine AW.iff rfl decide_eq_true_iff h (fun h => ?_) (fun h => ?_)
  rotate_left
  · refine AW.exit ?_
    refine thenE ?_
    refine thenE ?_
    refine blockE ?_
    refine thenN ?_
    exact ⟨(FrLe.cons rfl (FrLe.nil _)), h⟩
  refine AW.skip ?_
  refine thenN ?_
  refine AW.seq ?_
  refine AW.block ?_
  refine AW.seq ?_
  refine AW.reg ?_
  obtain ⟨p13_5, ha, h0, h1, h⟩ := h
  refine Lp (V_ixA rfl Tryz.underlying25 ty9 (ixL rfl ha) rfl h0 h1) rfl rfl ?_
  obtain ⟨x14_6, hc, h⟩ := h
  refine Ls rfl rfl (X_ld rfl Tryz.underlying9 rfl rfl hc ?_)
  refine Lp (V_asg rfl rfl) rfl rfl ?_
  refine Lnil ?_
  refine thenN ?_
  refine AW.reg ?_
  refine Lp (V_move rfl rfl) rfl rfl ?_
  refine Lp (V_move rfl rfl) rfl rfl ?_
  obtain ⟨hc, h⟩ := h
  refine Lp (V_cat rfl rfl rfl hc) rfl rfl ?_
  refine Ls rfl rfl (X_call rfl Tryz.func22 rfl rfl rfl (ACalls.mono h ?_))
  rintro v σ ⟨x18_7, x18_8, rfl, h⟩
  refine Lnil ?_
  refine blockN ?_
  refine thenN ?_
  refine AW.reg ?_
  refine Lp (V_add rfl rfl rfl) rfl rfl ?_
  refine Lp (V_move rfl rfl) rfl rfl ?_
  refine Lnil ?_
  refine thenN ?_
  refine ARound.head (fr' := [(3, .pointer x6_1), (9, Sl.v a0), (10, .int .i64 (a0.len : Int)), (11, .int .i64 (IntKind.i64.wrap (x11_4 + 1)))]) ?_ (FrLe.cons rfl (FrLe.cons rfl (FrLe.cons rfl (FrLe.cons rfl (FrLe.nil _)))))
  exact hY3 _ _ h

def j1_law08_copied (B : World) (ro : AH) (Q : Sl → AH → Prop) (x3_2 : Sl) (σ : AH) : Prop :=
 Q x3_2 σ

def l3_law08_copied (B : World) (ro : AH) (a0 : Sl) (Q : Sl → AH → Prop) : (Sl × Int) → AH → ((Sl × Int) → AH → Prop) → Prop := fun ⟨x3_4, x8_5⟩ σ Y3 =>
 if x8_5 < (a0.len : Int) then
  ∃ p10_6 : Addr, a0.a = some p10_6 ∧ (0 : Int) ≤ x8_5 ∧ x8_5 < (a0.len : Int) ∧
  ∃ (x11_7a : Int) (x11_7b : ByteArray) (x11_7c : Sl) (x11_7d : Int) (x11_7e : Bool) (x11_7f : Bool), cellsAt ro σ (p10_6.add (Int.toNat x8_5 * 6)) 0 [.int .i64 x11_7a, .string x11_7b, Sl.v x11_7c, .int .i64 x11_7d, .bool x11_7e, .bool x11_7f] ∧
  nw ro σ (.cells #[.int .i64 0, .string ByteArray.empty, Sl.v (⟨none, 0, 0⟩ : Sl), .int .i64 0, .bool false, .bool false] 82) fun x5_8 σ =>
  stN ⟨x5_8, 0, none⟩ (fun σ =>
   ∃ (x13_9 : Sl), acell ro σ ((⟨x5_8, 0, none⟩ : Addr).add 2) = some (Sl.v x13_9) ∧
   c_ref01_Copy B ro x13_9 σ fun x14_10 σ =>
   stN ((⟨x5_8, 0, none⟩ : Addr).add 2) (fun σ =>
    ∃ (x17_11a : Int) (x17_11b : ByteArray) (x17_11c : Sl) (x17_11d : Int) (x17_11e : Bool) (x17_11f : Bool), cellsAt ro σ ⟨x5_8, 0, none⟩ 0 [.int .i64 x17_11a, .string x17_11b, Sl.v x17_11c, .int .i64 x17_11d, .bool x17_11e, .bool x17_11f] ∧
    nw ro σ (.cells #[.int .i64 x17_11a, .string x17_11b, Sl.v x17_11c, .int .i64 x17_11d, .bool x17_11e, .bool x17_11f] 82) fun x18_12 σ =>
    awp Tryz.prog ro (Builtin.append_ #[70, 70] 70 #[Sl.v x3_4, Sl.v (⟨some ⟨x18_12, 0, none⟩, 1, 1⟩ : Sl)]) (fun v σ => ∃ (x19_13 : Sl), v = Sl.v x19_13 ∧
     Y3 (x19_13, IntKind.i64.wrap (x8_5 + 1)) σ) σ) [Sl.v x14_10] 0 σ) [.int .i64 x11_7a, .string x11_7b, Sl.v x11_7c, .int .i64 x11_7d, .bool x11_7e, .bool x11_7f] 0 σ
 else
 j1_law08_copied B ro Q x3_4 σ

def f_law08_copied (B : World) (ro : AH) (a0 : Sl) (σ : AH) (Q : Sl → AH → Prop) : Prop :=
 lfpD (l3_law08_copied B ro a0 Q ) ((⟨none, 0, 0⟩ : Sl), 0) σ

set_option maxRecDepth 100000 in
set_option maxHeartbeats 4000000 in
theorem law08_copied_ok {B : World} {ro : AH} {a0 : Sl} {σ : AH} {Q : Sl → AH → Prop} (h : Sep ro σ → f_law08_copied B ro a0 σ Q) : c_law08_copied B ro a0 σ Q := by
  refine ACalls.of_sep fun hsep => ?_
  replace h := h hsep
  refine ACalls.of_body (args := [Sl.v a0]) Tryz.func37 rfl (by rw [Tryz.ntmps37]; simp) ?_
  rw [Tryz.ntmps37]
  unfold f_law08_copied at h
  refine AW.seq ?_
  refine AW.reg ?_
  refine Lp (V_asg rfl rfl) rfl rfl ?_
  refine Lnil ?_
  refine thenN ?_
  refine AW.seq ?_
  refine AW.reg ?_
  refine Lp (V_asg rfl rfl) rfl rfl ?_
  refine Lnil ?_
  refine thenN ?_
  refine AW.seqJ (fun fr σ => ∃ (x3_2 : Sl), FrLe [(3, Sl.v x3_2)] fr ∧ j1_law08_copied B ro Q x3_2 σ) ?_ ?_
  · rintro fr σ ⟨x3_2, hl, h⟩
    refine AW.weaken ?_ hl (HLe.refl _)
    unfold j1_law08_copied at h
    refine AW.seq ?_
    refine AW.reg ?_
    refine Lp (V_move rfl rfl) rfl rfl ?_
    refine Lp (V_asg rfl rfl) rfl rfl ?_
    refine Lnil ?_
    refine thenN ?_
    refine AW.ret ?_
    exact bR1 Tryz.results37 rfl ⟨_, rfl, h⟩
  refine AW.seq ?_
  refine AW.reg ?_
  refine Lp (V_move rfl rfl) rfl rfl ?_
  refine Lp (V_lenL rfl rfl Tryz.underlying70 rfl rfl) rfl rfl ?_
  refine Lp (V_move rfl rfl) rfl rfl ?_
  refine Lnil ?_
  refine thenN ?_
  refine AW.block ?_
  refine ARound.loop (fr' := [(6, Sl.v a0), (7, .int .i64 (a0.len : Int)), (3, Sl.v (⟨none, 0, 0⟩ : Sl)), (8, .int .i64 0)]) ?_ (FrLe.cons rfl (FrLe.cons rfl (FrLe.cons rfl (FrLe.cons rfl (FrLe.nil _)))))
  refine h (fun ⟨x3_4, x8_5⟩ σ => ARound _ _ _ _ _ _ [(6, Sl.v a0), (7, .int .i64 (a0.len : Int)), (3, Sl.v x3_4), (8, .int .i64 x8_5)] σ) ?_
  rintro ⟨x3_4, x8_5⟩ σ Y3 hY3 h
  show AW _ _ _ _ _ _ _ _
  unfold l3_law08_copied at h
  dsimp only at h
  refine AW.seq ?_
  refine AW.reg ?_
  refine Lp (V_lss rfl rfl rfl) rfl rfl ?_
  refine Lnil ?_
  refine thenN ?_
  refine AW.seq ?_
  refine AW.iff rfl decide_eq_true_iff h (fun h => ?_) (fun h => ?_)
  rotate_left
  · refine AW.exit ?_
    refine thenE ?_
    refine thenE ?_
    refine blockE ?_
    refine thenN ?_
    exact ⟨_, (FrLe.cons rfl (FrLe.nil _)), h⟩
  refine AW.skip ?_
  refine thenN ?_
  refine AW.seq ?_
  refine AW.block ?_
  refine AW.seq ?_
  refine AW.reg ?_
  obtain ⟨p10_6, ha, h0, h1, h⟩ := h
  refine Lp (V_ixA rfl Tryz.underlying70 ty82 (ixL rfl ha) rfl h0 h1) rfl rfl ?_
  obtain ⟨x11_7a, x11_7b, x11_7c, x11_7d, x11_7e, x11_7f, hc, h⟩ := h
  refine Ls rfl rfl (X_lda rfl Tryz.underlying82 rfl ty82 rfl hc ?_)
  refine Ls rfl rfl (X_new (A_alloc rfl ty82) fun x5_8 g1 g2 => ?_)
  replace h := h x5_8 g1 g2
  refine Ls rfl rfl (X_st rfl ty82 rfl rfl rfl rfl (stN_mono h fun σ h => ?_))
  refine Lnil ?_
  refine thenN ?_
  refine AW.seq ?_
  refine AW.reg ?_
  refine Lp (V_fld rfl Tryz.underlying82 rfl ty30 (by decide) rfl) rfl rfl ?_
  obtain ⟨x13_9, hc, h⟩ := h
  refine Ls rfl rfl (X_ld rfl Tryz.underlying30 rfl rfl hc ?_)
  refine Ls rfl rfl (X_call rfl Tryz.func23 rfl rfl rfl (ACalls.mono h ?_))
  rintro v σ ⟨x14_10, rfl, h⟩
  refine Lp (V_fld rfl Tryz.underlying82 rfl ty30 (by decide) rfl) rfl rfl ?_
  refine Ls rfl rfl (X_st rfl ty30 rfl rfl rfl rfl (stN_mono h fun σ h => ?_))
  refine Lnil ?_
  refine thenN ?_
  refine AW.reg ?_
  refine Lp (V_move rfl rfl) rfl rfl ?_
  obtain ⟨x17_11a, x17_11b, x17_11c, x17_11d, x17_11e, x17_11f, hc, h⟩ := h
  refine Ls rfl rfl (X_lda rfl Tryz.underlying82 rfl ty82 rfl hc ?_)
  refine Ls rfl rfl (X_new (A_bsl (vs := [(0, .agg #[.int .i64 x17_11a, .string x17_11b, Sl.v x17_11c, .int .i64 x17_11d, .bool x17_11e, .bool x17_11f])]) (cs := #[.int .i64 x17_11a, .string x17_11b, Sl.v x17_11c, .int .i64 x17_11d, .bool x17_11e, .bool x17_11f]) rfl Tryz.underlying70 ty82 (by decide) rfl rfl) fun x18_12 g1 g2 => ?_)
  replace h := h x18_12 g1 g2
  refine Ls rfl rfl (X_bi (s := Builtin.append_ #[70, 70] 70 #[Sl.v x3_4, Sl.v (⟨some ⟨x18_12, 0, none⟩, 1, 1⟩ : Sl)]) rfl rfl (fun _ => rfl) (awp_mono _ h ?_))
  rintro v σ ⟨x19_13, rfl, h⟩
  refine Lp (V_asg rfl rfl) rfl rfl ?_
  refine Lnil ?_
  refine blockN ?_
  refine thenN ?_
  refine AW.reg ?_
  refine Lp (V_add rfl rfl rfl) rfl rfl ?_
  refine Lp (V_move rfl rfl) rfl rfl ?_
  refine Lnil ?_
  refine thenN ?_
  refine ARound.head (fr' := [(6, Sl.v a0), (7, .int .i64 (a0.len : Int)), (3, Sl.v x19_13), (8, .int .i64 (IntKind.i64.wrap (x8_5 + 1)))]) ?_ (FrLe.cons rfl (FrLe.cons rfl (FrLe.cons rfl (FrLe.cons rfl (FrLe.nil _)))))
  exact hY3 _ _ h

def j13_law08_awake (B : World) (ro : AH) (Q : Bool → AH → Prop) (x41_14 : Bool) (σ : AH) : Prop :=
 Q x41_14 σ

def j11_law08_awake (B : World) (ro : AH) (x5_2 : Option Addr) (Q : Bool → AH → Prop) (x36_12 : Bool) (σ : AH) : Prop :=
 if x36_12 = true then
  c_ztree_Tree_Size B ro x5_2 σ fun x39_15 σ =>
  j13_law08_awake B ro Q (decide (x39_15 = 3)) σ
 else
 j13_law08_awake B ro Q false σ

def j9_law08_awake (B : World) (ro : AH) (x2_6 : Nat) (x5_2 : Option Addr) (Q : Bool → AH → Prop) (x28_10 : Bool) (σ : AH) : Prop :=
 if x28_10 = true then
  ∃ (x31_16 : Sl), acell ro σ ⟨x2_6, 0, none⟩ = some (Sl.v x31_16) ∧
  ∃ p32_17 : Addr, x31_16.a = some p32_17 ∧ (0 : Int) ≤ 0 ∧ 0 < (x31_16.len : Int) ∧
  ∃ (x34_18 : ByteArray), acell ro σ (p32_17.add (Int.toNat 0 * 2)) = some (.string x34_18) ∧
  j11_law08_awake B ro x5_2 Q (decide (x34_18 = (⟨#[47, 97, 47, 120]⟩ : ByteArray))) σ
 else
 j11_law08_awake B ro x5_2 Q false σ

def j7_law08_awake (B : World) (ro : AH) (x2_6 : Nat) (x5_2 : Option Addr) (Q : Bool → AH → Prop) (x22_8 : Bool) (σ : AH) : Prop :=
 if x22_8 = true then
  ∃ (x25_19 : Sl), acell ro σ ⟨x2_6, 0, none⟩ = some (Sl.v x25_19) ∧
  j9_law08_awake B ro x2_6 x5_2 Q (decide ((x25_19.len : Int) = 1)) σ
 else
 j9_law08_awake B ro x2_6 x5_2 Q false σ

def f_law08_awake (B : World) (ro : AH) (σ : AH) (Q : Bool → AH → Prop) : Prop :=
 nw ro σ (.cells #[.string (⟨#[97]⟩ : ByteArray)] 9) fun x4_1 σ =>
 c_law08_start B ro (⟨some ⟨x4_1, 0, none⟩, 1, 1⟩ : Sl) σ fun x5_2 σ =>
 if x5_2 = none then
  Q false σ
 else
 nw ro σ (.cells #[.int .i64 1, .string (⟨#[47, 97, 47, 120]⟩ : ByteArray), Sl.v (⟨none, 0, 0⟩ : Sl), .int .i64 0, .bool false, .bool false] 82) fun x12_3 σ =>
 c_multi_Apply B ro x5_2 (⟨#[97]⟩ : ByteArray) 5 9 99 (⟨some ⟨x12_3, 0, none⟩, 1, 1⟩ : Sl) σ fun x13_4a x13_4b x13_4c x13_5 σ =>
 nw ro σ (.cells #[Sl.v (⟨none, 0, 0⟩ : Sl), Sl.v (⟨none, 0, 0⟩ : Sl), .int .i64 0] 77) fun x2_6 σ =>
 stN ⟨x2_6, 0, none⟩ (fun σ =>
  if x13_5 = 0 then
   ∃ (x20_20 : Int), acell ro σ ((⟨x2_6, 0, none⟩ : Addr).add 2) = some (.int .i64 x20_20) ∧
   j7_law08_awake B ro x2_6 x5_2 Q (decide (x20_20 = (-1))) σ
  else
  j7_law08_awake B ro x2_6 x5_2 Q false σ) [Sl.v x13_4a, Sl.v x13_4b, .int .i64 x13_4c] 0 σ

set_option maxRecDepth 100000 in
set_option maxHeartbeats 4000000 in
theorem law08_awake_ok {B : World} {ro : AH} {σ : AH} {Q : Bool → AH → Prop} (h : Sep ro σ → f_law08_awake B ro σ Q) : c_law08_awake B ro σ Q := by
  refine ACalls.of_sep fun hsep => ?_
  replace h := h hsep
  refine ACalls.of_body (args := []) Tryz.func38 rfl (by rw [Tryz.ntmps38]; simp) ?_
  rw [Tryz.ntmps38]
  unfold f_law08_awake at h
  refine AW.seq ?_
  refine AW.reg ?_
  refine Lp (V_asg rfl rfl) rfl rfl ?_
  refine Lnil ?_
  refine thenN ?_
  refine AW.seq ?_
  refine AW.reg ?_
  refine Ls rfl rfl (X_new (A_bsl (vs := [(0, .string (⟨#[97]⟩ : ByteArray))]) (cs := #[.string (⟨#[97]⟩ : ByteArray)]) rfl Tryz.underlying25 ty9 (by decide) rfl rfl) fun x4_1 g1 g2 => ?_)
  replace h := h x4_1 g1 g2
  refine Ls rfl rfl (X_call rfl Tryz.func35 rfl rfl rfl (ACalls.mono h ?_))
  rintro v σ ⟨x5_2, rfl, h⟩
  refine Lp (V_asg rfl rfl) rfl rfl ?_
  refine Lnil ?_
  refine thenN ?_
  refine AW.seq ?_
  refine AW.seq ?_
  refine AW.reg ?_
  refine Lp (V_move rfl rfl) rfl rfl ?_
  refine Lp (V_eqP rfl Tryz.underlying23 rfl rfl) rfl rfl ?_
  refine Lnil ?_
  refine thenN ?_
  refine AW.iff rfl isNone_iff h (fun h => ?_) (fun h => ?_)
  · refine AW.seq ?_
    refine AW.reg ?_
    refine Lp (V_asg rfl rfl) rfl rfl ?_
    refine Lnil ?_
    refine thenN ?_
    refine AW.ret ?_
    refine thenR ?_
    exact bR1 Tryz.results38 rfl ⟨_, rfl, h⟩
  refine AW.skip ?_
  refine thenN ?_
  refine AW.seq ?_
  refine AW.reg ?_
  refine Lp (V_move rfl rfl) rfl rfl ?_
  refine Lp (V_bld (vs := [(0, .int .i64 9), (1, .int .i64 99)]) (cs := #[.int .i64 9, .int .i64 99]) rfl Tryz.underlying69 ty69 pl69 rfl rfl) rfl rfl ?_
  refine Lp (V_bld (vs := [(0, .int .i64 1), (1, .string (⟨#[47, 97, 47, 120]⟩ : ByteArray))]) (cs := #[.int .i64 1, .string (⟨#[47, 97, 47, 120]⟩ : ByteArray), Sl.v (⟨none, 0, 0⟩ : Sl), .int .i64 0, .bool false, .bool false]) rfl Tryz.underlying82 ty82 pl82 rfl rfl) rfl rfl ?_
  refine Ls rfl rfl (X_new (A_bsl (vs := [(0, .agg #[.int .i64 1, .string (⟨#[47, 97, 47, 120]⟩ : ByteArray), Sl.v (⟨none, 0, 0⟩ : Sl), .int .i64 0, .bool false, .bool false])]) (cs := #[.int .i64 1, .string (⟨#[47, 97, 47, 120]⟩ : ByteArray), Sl.v (⟨none, 0, 0⟩ : Sl), .int .i64 0, .bool false, .bool false]) rfl Tryz.underlying70 ty82 (by decide) rfl rfl) fun x12_3 g1 g2 => ?_)
  replace h := h x12_3 g1 g2
  refine Ls rfl rfl (X_call rfl Tryz.func36 rfl rfl rfl (ACalls.mono h ?_))
  rintro v σ ⟨x13_4a, x13_4b, x13_4c, x13_5, rfl, h⟩
  refine Lp (V_move rfl rfl) rfl rfl ?_
  refine Lp (V_ext rfl rfl rfl) rfl rfl ?_
  refine Lp (V_ext rfl rfl rfl) rfl rfl ?_
  refine Ls rfl rfl (X_new (A_alloc rfl ty77) fun x2_6 g1 g2 => ?_)
  replace h := h x2_6 g1 g2
  refine Ls rfl rfl (X_st rfl ty77 rfl rfl rfl rfl (stN_mono h fun σ h => ?_))
  refine Lp (V_asg rfl rfl) rfl rfl ?_
  refine Lnil ?_
  refine thenN ?_
  refine AW.seq ?_
  refine AW.reg ?_
  refine Lp (V_move rfl rfl) rfl rfl ?_
  refine Lp (V_eql rfl rfl rfl) rfl rfl ?_
  refine Lp (V_move rfl rfl) rfl rfl ?_
  refine LsplitJ 4 (decide (x13_5 = 0)) decide_eq_true_iff h (fun fr σ => ∃ (x22_8 : Bool), FrLe [(1, .pointer x5_2), (2, .pointer (some ⟨x2_6, 0, none⟩)), (22, .bool x22_8)] fr ∧ j7_law08_awake B ro x2_6 x5_2 Q x22_8 σ) ?_ ?_ ?_
  · intro h e2 hk2
    refine Lypb (V_fld rfl Tryz.underlying77 rfl ty3 (by decide) rfl) rfl rfl rfl rfl e2 ?_
    obtain ⟨x20_20, hc, h⟩ := h
    refine Lyb rfl rfl rfl rfl e2 (X_ld rfl Tryz.underlying3 rfl rfl hc ?_)
    refine Lypb (V_eql rfl rfl rfl) rfl rfl rfl rfl e2 ?_
    refine Lp (V_pickT rfl (evb e2) rfl) rfl rfl ?_
    exact hk2 _ _ ⟨_, (FrLe.cons rfl (FrLe.cons rfl (FrLe.cons rfl (FrLe.nil _)))), h⟩
  · intro h e2 hk2
    refine Ln rfl rfl rfl rfl (.inl (by rw [e2]; rfl)) ?_
    refine Ln rfl rfl rfl rfl (.inl (by rw [e2]; rfl)) ?_
    refine Ln rfl rfl rfl rfl (.inl (by rw [e2]; rfl)) ?_
    refine Lp (V_pickF rfl (evb e2) rfl) rfl rfl ?_
    exact hk2 _ _ ⟨_, (FrLe.cons rfl (FrLe.cons rfl (FrLe.cons rfl (FrLe.nil _)))), h⟩
  rintro fr σ ⟨x22_8, hl, h⟩
  unfold j7_law08_awake at h
  refine Lfr hl ?_
  refine Lp (V_move rfl rfl) rfl rfl ?_
  refine LsplitJ 5 x22_8 Iff.rfl h (fun fr σ => ∃ (x28_10 : Bool), FrLe [(1, .pointer x5_2), (2, .pointer (some ⟨x2_6, 0, none⟩)), (28, .bool x28_10)] fr ∧ j9_law08_awake B ro x2_6 x5_2 Q x28_10 σ) ?_ ?_ ?_
  · intro h e7 hk7
    refine Lypb (V_fld rfl Tryz.underlying77 rfl ty74 (by decide) rfl) rfl rfl rfl rfl e7 ?_
    obtain ⟨x25_19, hc, h⟩ := h
    refine Lyb rfl rfl rfl rfl e7 (X_ld rfl Tryz.underlying74 rfl rfl hc ?_)
    refine Lypb (V_lenL rfl rfl Tryz.underlying74 rfl rfl) rfl rfl rfl rfl e7 ?_
    refine Lypb (V_eql rfl rfl rfl) rfl rfl rfl rfl e7 ?_
    refine Lp (V_pickT rfl (evb e7) rfl) rfl rfl ?_
    exact hk7 _ _ ⟨_, (FrLe.cons rfl (FrLe.cons rfl (FrLe.cons rfl (FrLe.nil _)))), h⟩
  · intro h e7 hk7
    refine Ln rfl rfl rfl rfl (.inl (by rw [e7]; rfl)) ?_
    refine Ln rfl rfl rfl rfl (.inl (by rw [e7]; rfl)) ?_
    refine Ln rfl rfl rfl rfl (.inl (by rw [e7]; rfl)) ?_
    refine Ln rfl rfl rfl rfl (.inl (by rw [e7]; rfl)) ?_
    refine Lp (V_pickF rfl (evb e7) rfl) rfl rfl ?_
    exact hk7 _ _ ⟨_, (FrLe.cons rfl (FrLe.cons rfl (FrLe.cons rfl (FrLe.nil _)))), h⟩
  rintro fr σ ⟨x28_10, hl, h⟩
  unfold j9_law08_awake at h
  refine Lfr hl ?_
  refine Lp (V_move rfl rfl) rfl rfl ?_
  refine LsplitJ 7 x28_10 Iff.rfl h (fun fr σ => ∃ (x36_12 : Bool), FrLe [(1, .pointer x5_2), (36, .bool x36_12)] fr ∧ j11_law08_awake B ro x5_2 Q x36_12 σ) ?_ ?_ ?_
  · intro h e13 hk13
    refine Lypb (V_fld rfl Tryz.underlying77 rfl ty74 (by decide) rfl) rfl rfl rfl rfl e13 ?_
    obtain ⟨x31_16, hc, h⟩ := h
    refine Lyb rfl rfl rfl rfl e13 (X_ld rfl Tryz.underlying74 rfl rfl hc ?_)
    obtain ⟨p32_17, ha, h0, h1, h⟩ := h
    refine Lypb (V_ixA rfl Tryz.underlying74 ty84 (ixL rfl ha) rfl h0 h1) rfl rfl rfl rfl e13 ?_
    refine Lypb (V_fld rfl Tryz.underlying84 rfl ty9 (by decide) rfl) rfl rfl rfl rfl e13 ?_
    obtain ⟨x34_18, hc, h⟩ := h
    refine Lyb rfl rfl rfl rfl e13 (X_ld rfl Tryz.underlying9 rfl rfl hc ?_)
    refine Lypb (V_eqlS rfl rfl rfl) rfl rfl rfl rfl e13 ?_
    refine Lp (V_pickT rfl (evb e13) rfl) rfl rfl ?_
    exact hk13 _ _ ⟨_, (FrLe.cons rfl (FrLe.cons rfl (FrLe.nil _))), h⟩
  · intro h e13 hk13
    refine Ln rfl rfl rfl rfl (.inl (by rw [e13]; rfl)) ?_
    refine Ln rfl rfl rfl rfl (.inl (by rw [e13]; rfl)) ?_
    refine Ln rfl rfl rfl rfl (.inl (by rw [e13]; rfl)) ?_
    refine Ln rfl rfl rfl rfl (.inl (by rw [e13]; rfl)) ?_
    refine Ln rfl rfl rfl rfl (.inl (by rw [e13]; rfl)) ?_
    refine Ln rfl rfl rfl rfl (.inl (by rw [e13]; rfl)) ?_
    refine Lp (V_pickF rfl (evb e13) rfl) rfl rfl ?_
    exact hk13 _ _ ⟨_, (FrLe.cons rfl (FrLe.cons rfl (FrLe.nil _))), h⟩
  rintro fr σ ⟨x36_12, hl, h⟩
  unfold j11_law08_awake at h
  refine Lfr hl ?_
  refine Lp (V_move rfl rfl) rfl rfl ?_
  refine LsplitJ 4 x36_12 Iff.rfl h (fun fr σ => ∃ (x41_14 : Bool), FrLe [(41, .bool x41_14)] fr ∧ j13_law08_awake B ro Q x41_14 σ) ?_ ?_ ?_
  · intro h e21 hk21
    refine Lypb (V_move rfl rfl) rfl rfl rfl rfl e21 ?_
    refine Lyb rfl rfl rfl rfl e21 (X_call rfl Tryz.func16 rfl rfl rfl (ACalls.mono h ?_))
    rintro v σ ⟨x39_15, rfl, h⟩
    refine Lypb (V_eql rfl rfl rfl) rfl rfl rfl rfl e21 ?_
    refine Lp (V_pickT rfl (evb e21) rfl) rfl rfl ?_
    exact hk21 _ _ ⟨_, (FrLe.cons rfl (FrLe.nil _)), h⟩
  · intro h e21 hk21
    refine Ln rfl rfl rfl rfl (.inl (by rw [e21]; rfl)) ?_
    refine Ln rfl rfl rfl rfl (.inl (by rw [e21]; rfl)) ?_
    refine Ln rfl rfl rfl rfl (.inl (by rw [e21]; rfl)) ?_
    refine Lp (V_pickF rfl (evb e21) rfl) rfl rfl ?_
    exact hk21 _ _ ⟨_, (FrLe.cons rfl (FrLe.nil _)), h⟩
  rintro fr σ ⟨x41_14, hl, h⟩
  unfold j13_law08_awake at h
  refine Lfr hl ?_
  refine Lp (V_asg rfl rfl) rfl rfl ?_
  refine Lnil ?_
  refine thenN ?_
  refine AW.ret ?_
  exact bR1 Tryz.results38 rfl ⟨_, rfl, h⟩

end Go.Proofs.YthfpmipeejjogaaGreatDoor.G

/- Trees with homes, copies of ops, and the law's own example. -/
namespace Go.Proofs.YthfpmipeejjogaaGreatDoor.Zt
open Go Go.Proofs.YthfpmipeejjogaaGreatDoor.SL Go.Proofs.YthfpmipeejjogaaGreatDoor.G Go.Proofs.YthfpmipeejjogaaGreatDoor.Pa
set_option linter.unusedSimpArgs false
set_option linter.unusedVariables false
variable {B : World} {ro σ σ' : AH} {tag tag' : Nat → Nat}

def startE (hs : List Str) : St := hs.foldl (fun st h => (create st (47 :: h) [] 0 false).1) St.new
theorem invB_start : ∀ (hs : List Str), hs.length ≤ 1073741824 → InvB hs.length (startE hs) := by
  intro hs hl
  have key : ∀ (l : List Str) (b : Nat) (st : St), InvB b st → b + l.length ≤ 1073741824 → InvB (b + l.length) (l.foldl (fun st h => (create st (47 :: h) [] 0 false).1) st) := by
    intro l
    induction l with
    | nil => intro b st h _; exact h
    | cons x l ih =>
      intro b st h hb
      simp only [List.length_cons] at hb ⊢
      have h1 := ih (b + 1) _ (invB_create (p := 47 :: x) (d := []) (o := 0) (seq := false) h (by omega)) (by omega)
      rw [List.foldl_cons, show b + (l.length + 1) = b + 1 + l.length by omega]
      exact h1
  have := key hs 0 St.new invB_new (by omega)
  rw [Nat.zero_add] at this; exact this
set_option maxRecDepth 100000 in
theorem start_ok {a0 : Sl} {hs : List Str} {Q : Option Addr → AH → Prop} (r : Nat) (g : Glob ro) (hr : r < 64) (hr6 : r ≠ 6) (hr0 : r ≠ 0) (hrd : ∀ tag' σ', StepC r ro tag σ tag' σ' → SL.Read ro σ' a0 (hs.map Pa.vS)) (hl : hs.length ≤ 1073741824) (hhl : ∀ h ∈ hs, h.length ≤ 4611686018427387903)
    (hQ : ∀ T tag' σ', StepC r ro tag σ tag' σ' → TreeIs tag' σ' r T (startE hs) → InvB hs.length (startE hs) → Q (some ⟨T, 0, none⟩) σ') : c_law08_start B ro a0 σ Q := by
  refine law08_start_ok fun hsep => ?_
  unfold f_law08_start
  refine new_ok (tag := tag) r hr hr6 fun T tag1 σ1 st1 h1 => ?_
  rw [if_neg (by simp)]
  have hln : a0.len = hs.length := by rw [(hrd tag1 σ1 st1).1, List.length_map]
  suffices ∀ m j tag2 σ2, j + m = hs.length → StepC r ro tag σ tag2 σ2 → TreeIs tag2 σ2 r T (startE (hs.take j)) → lfpD (l3_law08_start B ro a0 (some ⟨T, 0, none⟩) Q) (j : Int) σ2 from
    this _ 0 tag1 σ1 (Nat.zero_add _) st1 h1
  intro m
  induction m with
  | zero =>
    intro j tag2 σ2 hj st2 h2
    refine lfpD.intro ?_
    unfold l3_law08_start
    rw [if_neg (by omega)]
    unfold j2_law08_start
    rw [List.take_of_length_le (by omega)] at h2
    exact hQ T tag2 σ2 st2 h2 (invB_start hs hl)
  | succ m ih =>
    intro j tag2 σ2 hj st2 h2
    have hjl : j < hs.length := by omega
    have rd := hrd tag2 σ2 st2
    obtain ⟨p, hp⟩ : ∃ p, a0.a = some p := by
      cases e : a0.a with
      | none => have := rd.2.1 e; simp at this; rw [this] at hjl; simp at hjl
      | some p => exact ⟨p, rfl⟩
    have hcell := rd.2.2 p hp j (Pa.vS hs[j]) (by rw [List.getElem?_map, List.getElem?_eq_getElem hjl]; rfl)
    have hxl := hhl _ (List.getElem_mem hjl)
    refine lfpD.intro ?_
    unfold l3_law08_start
    rw [if_pos (by omega)]
    refine ⟨p, hp, by omega, by omega, S hs[j], by rw [Int.toNat_natCast, Nat.mul_one]; exact hcell, ?_⟩
    refine ⟨by rw [show (⟨#[47]⟩ : ByteArray).size = 1 from rfl, show (S hs[j]).size = hs[j].length from by rw [← L_len, L_S]]; omega, ?_⟩
    have hcat : (⟨#[47]⟩ : ByteArray) ++ S hs[j] = S (47 :: hs[j]) := by
      rw [show (⟨#[47]⟩ : ByteArray) = S [47] from rfl, S_append]; rfl
    rw [hcat]
    refine create_ok (d := []) g hr hr6 hr0 h2 ⟨rfl, fun _ => rfl, fun p h => by cases h⟩ (by decide) fun tag3 σ3 st3 h3 => ?_
    rw [L_S] at h3
    rw [Pa.inc j (by omega)]
    refine ih (j + 1) tag3 σ3 (by omega) (st2.trans st3) ?_
    have e : startE (hs.take (j + 1)) = (create (startE (hs.take j)) (47 :: hs[j]) [] 0 false).1 := by
      unfold startE
      rw [List.take_add_one, List.getElem?_eq_getElem hjl, List.foldl_append]; rfl
    rw [e]; exact h3

/-- ops as they came in -/
def OpsR (ro : AH) (s : Sl) (ops : List MOp) : Prop := s.len = ops.length ∧ ∀ j o, ops[j]? = some o → ∃ q ds, s.a = some q ∧ (∀ σ, SL.cellsAt ro σ (q.add (j * 6)) 0 (opV o ds)) ∧ SL.Read ro (fun _ => none) ds (o.data.map vU) ∧ o.data.length ≤ 140737488351232
theorem OpsR.data {s : Sl} {ops : List MOp} (h : OpsR ro s ops) : ∀ o ∈ ops, o.data.length < 4611686018427387904 := fun o ho => by
  obtain ⟨j, hj, rfl⟩ := List.getElem_of_mem ho
  obtain ⟨_, _, _, _, _, h5⟩ := h.2 j _ (List.getElem?_eq_getElem hj)
  omega
set_option maxRecDepth 100000 in
theorem copied_ok {a0 : Sl} {ops : List MOp} {Q : Sl → AH → Prop} (hO : OpsR ro a0 ops) (hl : ops.length ≤ 2199023255488) (hQ : ∀ s tag' σ', StepS [0, 24, 28] ro tag σ tag' σ' → OpsAt tag' σ' 24 s ops → Q s σ') : c_law08_copied B ro a0 σ Q := by
  refine law08_copied_ok fun hsep => ?_
  unfold f_law08_copied
  have hln := hO.1
  suffices ∀ m j s tag2 σ2, j + m = ops.length → StepS [0, 24, 28] ro tag σ tag2 σ2 → OpsAt tag2 σ2 24 s (ops.take j) → lfpD (l3_law08_copied B ro a0 Q) (s, (j : Int)) σ2 from
    this _ 0 ⟨none, 0, 0⟩ tag σ (Nat.zero_add _) (StepS.refl hsep) ⟨[], rfl, RowW.nil _ _ _, fun i o d h => by cases h⟩
  intro m
  induction m with
  | zero =>
    intro j s tag2 σ2 hj st2 h2
    refine lfpD.intro ?_
    unfold l3_law08_copied
    simp only
    rw [if_neg (by omega)]
    unfold j1_law08_copied
    rw [List.take_of_length_le (by omega)] at h2
    exact hQ s tag2 σ2 st2 h2
  | succ m ih =>
    intro j s tag2 σ2 hj st2 h2
    have hjl : j < ops.length := by omega
    obtain ⟨q, ds, hq, hc, hrd, hdl⟩ := hO.2 j ops[j] (List.getElem?_eq_getElem hjl)
    refine lfpD.intro ?_
    unfold l3_law08_copied
    simp only
    rw [if_pos (by omega)]
    refine ⟨q, hq, by omega, by omega, ops[j].kind, S ops[j].path, ds, ops[j].ver, ops[j].eph, ops[j].seq, by rw [Int.toNat_natCast]; exact hc σ2, ?_⟩
    refine nw_st (tag := tag2) 28 st2.sep rfl (by simp [storable, Sl.v]) fun x tag3 σ3 st3 r3 => ?_
    obtain ⟨p3, hp3, hg3⟩ := r3.ptr (st3 []).sep (by simp)
    cases hp3
    refine ⟨ds, hg3 2 _ rfl, ?_⟩
    refine copy_ok (tag := tag3) (hrd.keep) (st3 []).sep (by simp; omega) (by simp [storable]) fun s' tag4 σ4 st4 r4 => ?_
    refine (r3.keep (st4 []) (by simp)).st (i := 2) (st4 []).sep rfl (by simp) rfl fun σ5 st5 r5 => ?_
    refine ⟨ops[j].kind, S ops[j].path, s', ops[j].ver, ops[j].eph, ops[j].seq, Row.cellsAt r5 st5.sep, ?_⟩
    refine nw_cells (tag := tag4) 0 st5.sep fun y tag6 σ6 st6 r6 => ?_
    have st26 : StepS [0, 24, 28] ro tag2 σ2 tag6 σ6 := ((st3 []).s (by simp)).trans (((st4 []).s (by simp)).trans ((st5.s (by simp)).trans ((st6 []).s (by simp))))
    have k26 : StepS [28] ro tag2 σ2 tag6 σ6 := ((st3 []).s (by simp)).trans (((st4 []).s (by simp)).trans ((st5.s (by simp)).trans ((st6 []).s (by simp))))
    obtain ⟨dd, d1, d2, d3⟩ := h2.keepS k26 (by decide) (by decide)
    have hlz : (List.zipWith opV (ops.take j) dd).length = j := by rw [List.length_zipWith, d1, Nat.min_self, List.length_take]; omega
    refine awp_appendW (l2 := [opV ops[j] s']) d2 (st6 []).sep (Row.readW1 r6 (st6 []).sep rfl (by decide)) (t := 70) (by kernel_rfl) ty82 rfl (by simp [opV, storable, Sl.v]) (by rw [hlz]; simp; omega) (by decide) fun sn tag7 σ7 st7 r7 => ?_
    have st7' := st7 [24] (.inr (by simp))
    refine ⟨sn, rfl, ?_⟩
    rw [Pa.inc j (by omega)]
    refine ih (j + 1) sn tag7 σ7 (by omega) (st2.trans (st26.trans (st7'.s (by simp)))) ?_
    have etk : ops.take (j + 1) = ops.take j ++ [ops[j]] := by rw [List.take_add_one, List.getElem?_eq_getElem hjl]; rfl
    rw [etk]
    refine ⟨dd ++ [s'], by rw [List.length_append, List.length_append, d1]; rfl, ?_, fun i o d ho hd => ?_⟩
    · rw [List.zipWith_append d1.symm]; exact r7
    · rcases Nat.lt_or_ge i (ops.take j).length with h | h
      · rw [List.getElem?_append_left h] at ho
        rw [List.getElem?_append_left (by omega)] at hd
        exact (d3 i o d ho hd).keep st7' (by simp)
      · rw [List.getElem?_append_right h] at ho
        rw [List.getElem?_append_right (by omega), d1] at hd
        cases hz : i - (ops.take j).length with
        | zero =>
          rw [hz] at ho hd
          cases ho; cases hd
          exact ((r4.keep st5 (by simp)).keep (st6 []) (by simp)).keep st7' (by simp)
        | succ k => rw [hz] at ho; cases ho

def awakeSt : St := [([47], ⟨0, 1, 0, 1, []⟩), ([47, 97], ⟨0, 0, 0, 0, []⟩)]
set_option maxRecDepth 100000 in
theorem awake_start : startE [[97]] = awakeSt := by rfl
theorem awake_srt : srt awakeSt = awakeSt := by
  refine (srt_of ?_ (List.Perm.refl _)).symm
  unfold Srt awakeSt
  simp [List.pairwise_cons]
def awakeOp : MOp := ⟨1, [47, 97, 47, 120], [], 0, false, false⟩
theorem awake_apply : (applyE (startE [[97]]) [97] 5 9 99 [awakeOp]).err = 0 ∧ (applyE (startE [[97]]) [97] 5 9 99 [awakeOp]).bad = -1 ∧ (applyE (startE [[97]]) [97] 5 9 99 [awakeOp]).res = [([47, 97, 47, 120], 0)] ∧ (applyE (startE [[97]]) [97] 5 9 99 [awakeOp]).st.length = 3 := by
  rw [awake_start]
  unfold applyE
  rw [if_neg (by decide), if_neg (by decide), awake_srt]
  refine ⟨by decide, by decide, by decide, by decide⟩
set_option maxRecDepth 100000 in
theorem awake8_ok {Q : Bool → AH → Prop} (g : Glob ro) (hQ : ∀ σ, SL.Sep ro σ → Q true σ) : c_law08_awake B ro σ Q := by
  refine law08_awake_ok fun hs => ?_
  unfold f_law08_awake
  refine nw_cells (tag := fun _ => 0) 22 hs fun x4 tag1 σ1 st1 r1 => ?_
  have e97 : (⟨#[97]⟩ : ByteArray) = S [97] := rfl
  refine start_ok (tag := tag1) (hs := [[97]]) 10 g (by decide) (by decide) (by decide) (fun tag2 σ2 st2 => (r1.keepC st2 (by decide)).read st2.sep) (by decide) (by simp) fun T tag2 σ2 st2 h2 hi => ?_
  rw [if_neg (by simp)]
  refine nw_cells (tag := tag2) 24 st2.sep fun x12 tag3 σ3 st3 r3 => ?_
  have hops : OpsAt tag3 σ3 24 ⟨some ⟨x12, 0, none⟩, 1, 1⟩ [awakeOp] := by
    refine ⟨[⟨none, 0, 0⟩], rfl, ?_, fun i o d ho hd => ?_⟩
    · rcases r3 with ⟨h, _⟩ | ⟨b, cs, ha, htg, hbk, hln, hcp, hle, hg⟩
      · cases h
      · cases ha
        refine .inr ⟨x12, cs, rfl, htg, hbk, rfl, by simpa using hcp.symm, by simp, by simp [opV], fun i v hv => ?_⟩
        have hv' : [vI 1, Pa.vS [47, 97, 47, 120], Sl.v ⟨none, 0, 0⟩, vI 0, Value.bool false, Value.bool false][i]? = some v := by simpa [opV, awakeOp] using hv
        have hi6 : i < 6 := by
          rcases Nat.lt_or_ge i 6 with h | h
          · exact h
          · rw [List.getElem?_eq_none (by simpa using h)] at hv'; cases hv'
        rw [hg i (by simpa using hi6)]; exact hv'
    · rcases i with _ | i
      · cases ho; cases hd; exact Row.nil _ _
      · cases ho
  have hap := awake_apply
  rw [e97]
  refine apply_ok (b := 1) (q := 24) g (by decide) (by decide) (by decide) (by decide) (by decide) (by decide) (h2.keep (st3 []) (by simp)) hi (by decide) hops (fun o ho => by rw [List.mem_singleton.1 ho]; decide) (by decide) fun rs es tag4 σ4 st4 h4 r4 _ => ?_
  obtain ⟨a1, a2, a3, a4⟩ := hap
  rw [a3] at r4
  refine nw_st (tag := tag4) 22 st4.sep rfl (by simp [storable, Sl.v]) fun x2 tag5 σ5 st5 r5 => ?_
  have r45 := r4.keep (st5 []) (by simp)
  obtain ⟨p5, hp5, hg5⟩ := r5.ptr (st5 []).sep (by simp)
  cases hp5
  rw [a1, if_pos rfl]
  refine ⟨_, hg5 2 _ rfl, ?_⟩
  rw [a2, show decide ((-1 : Int) = -1) = true from rfl]
  unfold j7_law08_awake
  rw [if_pos rfl]
  refine ⟨rs, hg5 0 _ rfl, ?_⟩
  rw [show decide ((rs.len : Int) = 1) = true from by rw [r45.len]; rfl]
  unfold j9_law08_awake
  rw [if_pos rfl]
  obtain ⟨b, hb, _, hget⟩ := r45.get (st5 []).sep (j := 0) rfl
  refine ⟨rs, hg5 0 _ rfl, _, hb, by decide, by rw [r45.len]; decide, S [47, 97, 47, 120], hget 0 _ rfl, ?_⟩
  rw [show decide (S [47, 97, 47, 120] = (⟨#[47, 97, 47, 120]⟩ : ByteArray)) = true from by decide]
  unfold j11_law08_awake
  rw [if_pos rfl]
  obtain ⟨M, bs, hA⟩ := h4.keep (st5 []) (by simp)
  refine size_ok hA ?_
  unfold j13_law08_awake
  rw [a4]
  exact hQ σ5 (st5 []).sep
end Go.Proofs.YthfpmipeejjogaaGreatDoor.Zt

/- Usage stays within its quota; two blocks lent; scripts while blocks are lent. -/
namespace Go.Proofs.YthfpmipeejjogaaGreatDoor.SL
open Go
variable {ro σ σ' : AH} {tag tag' : Nat → Nat}
theorem join_assoc (a b c : AH) : join a (join b c) = join (join a b) c := by
  funext x; unfold join; cases a x <;> rfl
theorem lent_two (a b : Nat) {K : AH → AH → Prop} (h : K (join (one σ a) (one (del σ a) b)) (del (del σ a) b)) : lent σ K := by
  refine ⟨_, _, fun c o hc => ?_, ?_, h⟩
  · unfold join one del at hc; unfold del
    by_cases e : c = a
    · simp [e]
    · by_cases e' : c = b
      · simp [e']
      · simp [e, e'] at hc
  · funext c; unfold join one del
    by_cases e : c = a
    · subst e
      cases h : σ c <;> simp
    · by_cases e' : c = b
      · subst e'; cases h : σ c <;> simp [e]
      · simp [e, e']
theorem acell_ro {ψ τ : AH} {a : Addr} {v : Value} (h : acell ro (fun _ => none) a = some v) : acell (join ro ψ) τ a = some v := by
  unfold acell rd at h ⊢
  cases e : ro a.block with
  | none => rw [e] at h; simp [cellOf] at h
  | some o => rw [e] at h; rw [join_left e]; exact h
theorem cellsAt_ro {ψ τ : AH} {a : Addr} : ∀ {l : List Value} {i : Nat}, cellsAt ro (fun _ => none) a i l → cellsAt (join ro ψ) τ a i l
  | [], _, _ => trivial
  | _ :: _, _, h => ⟨acell_ro h.1, cellsAt_ro h.2⟩
theorem Read.ro' {ψ : AH} {s : Sl} {l : List Value} (h : Read ro (fun _ => none) s l) : Read (join ro ψ) (fun _ => none) s l :=
  ⟨h.1, h.2.1, fun p hp i v hv => acell_ro (h.2.2 p hp i v hv)⟩
theorem StepS.back {C : List Nat} {b : Nat} {τ : AH} (h : StepS C (join ro (one σ b)) tag (del σ b) tag' τ) (hs : Sep ro σ) (hd : Disj (one σ b) τ) (hb : ∃ o, σ b = some o) : StepS C ro tag σ (setTag tag' b (tag b)) (join (one σ b) τ) := by
  obtain ⟨R, h1, h2⟩ := h
  exact ⟨R, h1, h2.back hs hd hb⟩
theorem del_some {a b : Nat} {o : Obj} (h : σ b = some o) (hne : b ≠ a) : del σ a b = some o := by unfold del; rw [if_neg hne]; exact h
theorem disj_l {a b c : AH} (h : Disj (join a b) c) : Disj a c := fun x o hx => h x o (by unfold join; rw [hx])
theorem disj_r {a b : Nat} {τ : AH} (h : Disj (join (one σ a) (one (del σ a) b)) τ) : Disj (one (del σ a) b) τ := fun x o hx => h x o (by
  unfold join one del at *
  by_cases e : x = a
  · subst e
    split at hx
    · simp at hx
    · cases hx
  · simp only [e, if_false]; simp only [e, if_false] at hx; exact hx)
theorem disj_j {a b : Nat} {τ : AH} (h : Disj (join (one σ a) (one (del σ a) b)) τ) (hne : a ≠ b) : Disj (one σ a) (join (one (del σ a) b) τ) := fun x o hx => by
  have h1 := disj_l h x o hx
  unfold join one del
  unfold one at hx
  split at hx
  · rename_i e; subst e; simp only [hne, if_false]; exact h1
  · cases hx
end Go.Proofs.YthfpmipeejjogaaGreatDoor.SL
namespace Go.Proofs.YthfpmipeejjogaaGreatDoor.Zt
open Go Go.Proofs.YthfpmipeejjogaaGreatDoor.SL Go.Proofs.YthfpmipeejjogaaGreatDoor.G Go.Proofs.YthfpmipeejjogaaGreatDoor.Pa
set_option linter.unusedSimpArgs false
set_option linter.unusedVariables false
variable {B : World} {ro σ σ' : AH} {tag tag' : Nat → Nat}

/-! usage -/
def bnd (st : St) (home : Str) (qn qb : Int) : Prop := ((usage st home).1 : Int) ≤ qn ∧ ((usage st home).2 : Int) ≤ qb
theorem usage_cons (p : Str × Nd) (r : St) (h : Str) : usage (p :: r) h = ((usage r h).1 + (if homeOf p.1 = some h then 1 else 0), uw h p + (usage r h).2) := by
  unfold usage
  rw [List.countP_cons, List.map_cons, List.sum_cons]
  simp
theorem usage_modN {u h : Str} {f : Nd → Nd} (hf : ∀ n, (f n).data = n.data) : ∀ st, usage (modN st u f) h = usage st h
  | [] => rfl
  | p :: r => by
    have ih := usage_modN (u := u) (h := h) hf r
    show usage ((if p.1 = u then (p.1, f p.2) else p) :: modN r u f) h = _
    rw [usage_cons, usage_cons, ih]
    have e1 : uw h (if p.1 = u then (p.1, f p.2) else p) = uw h p := by
      split
      · unfold uw; rw [hf]
      · rfl
    have e2 : (if p.1 = u then (p.1, f p.2) else p).1 = p.1 := by split <;> rfl
    rw [e1, e2]
theorem usage_delK {h k : Str} : ∀ st, (usage (delK st k) h).1 ≤ (usage st h).1 ∧ (usage (delK st k) h).2 ≤ (usage st h).2
  | [] => ⟨Nat.le_refl _, Nat.le_refl _⟩
  | (k', n) :: r => by
    have ih := usage_delK (h := h) (k := k) r
    unfold delK
    split
    · rw [usage_cons]; exact ⟨by simp, by simp⟩
    · rw [usage_cons, usage_cons]; exact ⟨by simp only; omega, by simp only; omega⟩
theorem bnd_remove {st : St} {home p : Str} {qn qb v : Int} (h : bnd st home qn qb) : bnd (remove st p v).1 home qn qb := by
  unfold remove
  split
  · exact h
  · split
    · exact h
    · split
      · exact h
      · split
        · exact h
        · split
          · exact h
          · rename_i u hu
            obtain ⟨a, b⟩ := usage_delK (h := home) (k := p) (modN st u less)
            rw [usage_modN (f := less) (fun n => rfl) st] at a b
            obtain ⟨c, d⟩ := h
            unfold bnd
            simp only
            exact ⟨by omega, by omega⟩
theorem bnd_do {home : Str} {owner qn qb : Int} {w : Work} {o : MOp} (h : bnd w.st home qn qb) (he : (doE home owner qn qb w o).1 = 0) : bnd (doE home owner qn qb w o).2.st home qn qb := by
  unfold doE at he ⊢
  split at he
  · rename_i hc; exact absurd he hc
  · rename_i hw
    rw [if_neg hw]
    split at he
    · rename_i hc; exact absurd he hc
    · rename_i hc
      rw [if_neg hc]
      split at he
      · cases he
      · rename_i ho
        rw [if_neg ho]
        simp only
        simp only [Classical.not_not] at hw
        have hk : 1 ≤ o.kind ∧ o.kind ≤ 4 := by
          unfold withinE at hw
          split at hw
          · cases hw
          · omega
        unfold overE at ho
        by_cases k13 : o.kind = 1 ∨ o.kind = 3
        · have : (decide (o.kind = 1) || decide (o.kind = 3)) = true := by rcases k13 with k | k <;> simp [k]
          rw [this] at ho
          simp only [Bool.true_and, Bool.or_eq_true, decide_eq_true_eq, not_or] at ho
          exact ⟨by omega, by omega⟩
        · unfold core
          rw [if_neg (by omega)]
          by_cases k2 : o.kind = 2
          · rw [if_pos k2]; exact bnd_remove h
          · rw [if_neg k2, if_neg (by omega)]; exact h
theorem bnd_applyL {home : Str} {owner qn qb : Int} : ∀ {os : List MOp} {i : Nat} {w w' : Work}, applyL home owner qn qb os i w = .inr w' → bnd w.st home qn qb → bnd w'.st home qn qb := by
  intro os
  induction os with
  | nil => intro i w w' h hb; cases h; exact hb
  | cons o os ih =>
    intro i w w' h hb
    unfold applyL at h
    split at h
    · cases h
    · rename_i hc
      exact ih h (bnd_do hb (by simpa using hc))
theorem bnd_apply {st : St} {home : Str} {owner qn qb : Int} {ops : List MOp} (h : bnd st home qn qb) : bnd (applyE st home owner qn qb ops).st home qn qb := by
  unfold applyE
  split
  · exact h
  · split
    · exact h
    · cases e : applyL home owner qn qb ops 0 ⟨srt st, [], []⟩ with
      | inl x => exact h
      | inr w =>
        refine bnd_applyL e ?_
        unfold bnd
        simp only
        rw [usage_perm (srt_perm st)]
        exact h

/-! scripts -/
theorem OpsR.ro' {ψ : AH} {s : Sl} {ops : List MOp} (h : OpsR ro s ops) : OpsR (join ro ψ) s ops := by
  refine ⟨h.1, fun j o ho => ?_⟩
  obtain ⟨q, ds, h1, h2, h3, h4⟩ := h.2 j o ho
  exact ⟨q, ds, h1, fun σ => cellsAt_ro (h2 _), h3.ro', h4⟩
structure Txn where
  home : Str
  owner : Int
  qn : Int
  qb : Int
  ops : List MOp
  sweep : Bool
/-- a transaction as it came in, its values -/
def txV (t : Txn) (s : Sl) : List Value := [.string (S t.home), .int .i64 t.owner, .int .i64 t.qn, .int .i64 t.qb, Sl.v s, .bool t.sweep]
def TxsR (ro : AH) (s : Sl) (txs : List Txn) : Prop := s.len = txs.length ∧ ∀ j t, txs[j]? = some t → ∃ q os, s.a = some q ∧ (∀ σ, SL.cellsAt ro σ (q.add (j * 6)) 0 (txV t os)) ∧ t.home.length ≤ reachBytes ∧ OpsR ro os t.ops ∧ t.ops.length ≤ 2199023255488
/-- a tree, with one block of another role lent -/
theorem TreeIs.del' {r T b x : Nat} {st : St} (h : TreeIs tag σ r T st) (hb : tag b = x) (hx : x < 64) (hr : r < 64) (hxr : x ≠ r) (hx6 : x ≠ 6) : TreeIs tag (SL.del σ b) r T st := by
  obtain ⟨M, bs, h⟩ := h
  refine ⟨M, bs, h.keys, h.len, h.nd, h.cell.del hb (Ne.symm hxr), h.map.del (by rw [hb]; omega), fun i c p hc hp => ?_⟩
  obtain ⟨s, h1, h2⟩ := h.nodes i c p hc hp
  exact ⟨s, h1.del hb (by omega), h2.del hb (by omega)⟩
end Go.Proofs.YthfpmipeejjogaaGreatDoor.Zt
