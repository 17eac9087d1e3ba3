/- RfF, SwA, R7H, R7I, SwB, SwC, ZtR, MuR, MuQ, R7L, R7Q, R7S, R7T, R8B, R8D, R8E, R7W, R8G, SwD -/
import Derived.Test.YthfpmipeejjogaaGreatDoorXN
/- multi.Sweep: what it does to a tree, the whole. -/
namespace Go.Proofs.YthfpmipeejjogaaGreatDoor.SL
open Go
variable {B : World} {ro σ σ' : AH} {tag tag' : Nat → Nat}
/-- What is no cells and is new is let go. -/
def prn (σ0 σ : AH) : AH := fun b => match σ b with
  | some o => if o.isCells = true ∨ (σ0 b).isSome = true then some o else none
  | none => none
theorem prn_le (σ0 σ : AH) : HLe (prn σ0 σ) σ := fun b o h => by
  unfold prn at h
  split at h
  · rename_i x e
    split at h
    · cases h; exact e
    · cases h
  · cases h
theorem prn_cells {σ0 : AH} {b : Nat} {c : Array Value} {e : TypeId} {fz : Nat × Nat} (h : σ b = some (.cells c e fz)) : prn σ0 σ b = some (.cells c e fz) := by
  unfold prn; rw [h]; simp [Obj.isCells]
theorem prn_old {σ0 : AH} {b : Nat} {o o0 : Obj} (h0 : σ0 b = some o0) (h : σ b = some o) : prn σ0 σ b = some o := by
  unfold prn; rw [h, h0]; simp
theorem prn_nc {σ0 : AH} {b : Nat} {o : Obj} (h : prn σ0 σ b = some o) (hc : o.isCells = false) : ∃ o', σ0 b = some o' := by
  unfold prn at h
  split at h
  · split at h
    · rename_i hx
      cases h
      rw [hc] at hx
      rcases hx with hx | hx
      · cases hx
      · exact Option.isSome_iff_exists.1 hx
    · cases h
  · cases h
theorem Row.prn {σ0 : AH} {r : Nat} {e : TypeId} {s : Sl} {l : List Value} (h : Row tag σ r e s l) : Row tag (prn σ0 σ) r e s l := by
  rcases h with h | ⟨b, cs, ha, ht, hs, hx⟩
  · exact .inl h
  · exact .inr ⟨b, cs, ha, ht, prn_cells hs, hx⟩
theorem RowW.prn {σ0 : AH} {r w : Nat} {e : TypeId} {s : Sl} {l : List (List Value)} (h : RowW tag σ r e w s l) : RowW tag (prn σ0 σ) r e w s l := by
  rcases h with h | ⟨b, cs, ha, ht, hs, hx⟩
  · exact .inl h
  · exact .inr ⟨b, cs, ha, ht, prn_cells hs, hx⟩
theorem StepS.prn {C : List Nat} (h : StepS C ro tag σ tag' σ') : StepS C ro tag σ tag' (prn σ σ') := by
  obtain ⟨R, h1, h2⟩ := h
  refine ⟨R, h1, fun b o hb hn => ?_, fun b o hb => ?_, fun b o hb => h2.sep b o (prn_le _ _ b o hb)⟩
  · obtain ⟨t, e⟩ := h2.keep b o hb hn
    exact ⟨t, prn_old hb e⟩
  · obtain ⟨t, o', e⟩ := h2.old b o hb
    exact ⟨t, o', prn_old hb e⟩
end Go.Proofs.YthfpmipeejjogaaGreatDoor.SL
namespace Go.Proofs.YthfpmipeejjogaaGreatDoor.Zt
open Go Go.Proofs.YthfpmipeejjogaaGreatDoor.SL Go.Proofs.YthfpmipeejjogaaGreatDoor.G Go.Proofs.YthfpmipeejjogaaGreatDoor.Pa
set_option linter.unusedSimpArgs false
set_option linter.unusedVariables false
variable {B : World} {ro σ σ' : AH} {tag tag' : Nat → Nat}

theorem TreeAt.prn {σ0 : AH} {r T M : Nat} {bs : List Nat} {st : St} {o0 : Obj} (h : TreeAt tag σ r T M bs st) (h0 : σ0 M = some o0) : TreeAt tag (SL.prn σ0 σ) r T M bs st := by
  refine ⟨h.keys, h.len, h.nd, h.cell.prn, ?_, fun i b p hb hp => ?_⟩
  · obtain ⟨es, c, hb, hx⟩ := h.map.obj
    exact ⟨h.map.tg, es, c, prn_old h0 hb, hx⟩
  · obtain ⟨s, h1, h2⟩ := h.nodes i b p hb hp
    exact ⟨s, h1.prn, h2.prn⟩

/-- One path of a sweep: the tree and what is told of. -/
def swept (home : Str) (a : St × List Str) (p : Str) : St × List Str :=
  if (homeOf p).getD [] = home ∧ (remove a.1 p (-1)).2 = 0 then ((remove a.1 p (-1)).1, a.2 ++ [p]) else a
/-- The paths of owners, the last one first. -/
def ownedK (st : St) (ws : List Int) : List Str := (((srt st).map (·.1)).filter fun k => isOwned st ws k).reverse
def sweepE (st : St) (home : Str) (ws : List Int) : St × List Str := (ownedK st ws).foldl (swept home) (st, [])
def effD (p : Str) : List Value := effV (2, p)
theorem swept_inv {home : Str} {a : St × List Str} {p : Str} {b : Nat} (h : InvB b a.1) (hb : b ≤ 4398046511103) : InvB (b + 1) (swept home a p).1 := by
  unfold swept
  split
  · exact invB_remove h hb
  · exact h.mono (by omega)
theorem swept_len {home : Str} {a : St × List Str} {p : Str} : (swept home a p).2.length ≤ a.2.length + 1 := by
  unfold swept
  split
  · simp
  · simp
theorem sweptL_inv {home : Str} : ∀ (ks : List Str) {a : St × List Str} {b : Nat}, InvB b a.1 → b + ks.length ≤ 4398046511103 → InvB (b + ks.length) (ks.foldl (swept home) a).1 ∧ (ks.foldl (swept home) a).2.length ≤ a.2.length + ks.length := by
  intro ks
  induction ks with
  | nil => intro a b h _; exact ⟨h, Nat.le_refl _⟩
  | cons k ks ih =>
    intro a b h hb
    simp only [List.length_cons] at hb
    obtain ⟨h1, h2⟩ := ih (a := swept home a k) (swept_inv h (by omega)) (by omega)
    have := swept_len (home := home) (a := a) (p := k)
    simp only [List.foldl_cons, List.length_cons]
    exact ⟨by rw [show b + (ks.length + 1) = b + 1 + ks.length by omega]; exact h1, by omega⟩
theorem bk_rev (zs : List ByteArray) : (Back.upto (Back.bk zs) zs.length).map (·.2) = zs.reverse := by
  apply List.ext_getElem
  · simp [Back.upto]
  · intro i h1 h2
    simp at h2
    have : zs.length - 1 - i < zs.length := by omega
    simp [Back.upto, Back.bk, List.getElem?_eq_getElem this]

set_option maxRecDepth 100000 in
set_option maxHeartbeats 1000000 in
theorem sweep_ok {r T b q q2 : Nat} {st : St} {home : Str} {ws : List Int} {a2 : Sl} {Q : Sl → AH → Prop} (g : Glob ro) (hr : r < 64) (hr0 : r ≠ 0) (hr6 : r ≠ 6) (hq : q < 64) (hq2 : q2 < 64) (hqs : q ∉ [0, 6, r]) (hq2s : q2 ∉ [0, 6, r, q])
    (h : TreeIs tag σ r T st) (hi : InvB b st) (hb : b ≤ 1073741824) (hw : SL.Read ro (fun _ => none) a2 (ws.map vI)) (hwl : ws.length ≤ 4611686018427387903)
    (hQ : ∀ es tag' σ', StepS [0, r, q, q2] ro tag σ tag' σ' → TreeIs tag' σ' r T (sweepE st home ws).1 → RowW tag' σ' (q2 + 256) 108 2 es ((sweepE st home ws).2.map effD) → Q es σ') :
    c_multi_Sweep B ro (some ⟨T, 0, none⟩) (S home) a2 σ Q := by
  refine multi_Sweep_ok fun hs => ?_
  simp only [List.mem_cons, List.not_mem_nil, or_false, not_or] at hqs hq2s
  have hlen := hi.len
  unfold sweepF
  refine nw_cells (tag := tag) q2 hs fun b3 tag1 σ1 st1 r3 => ?_
  refine nw_cells (tag := tag1) (q2 + 64) (st1 []).sep fun b4 tag2 σ2 st2 r4 => ?_
  refine nw_cells (tag := tag2) (q2 + 128) (st2 []).sep fun b7 tag3 σ3 st3 r7 => ?_
  have r3' := (r3.keep (st2 []) (by simp)).keep (st3 []) (by simp)
  refine ⟨some ⟨T, 0, none⟩, Row.cell1 r3' (st3 []).sep, ?_⟩
  have hT3 := ((h.keep (st1 []) (by simp)).keep (st2 []) (by simp)).keep (st3 []) (by simp)
  have hsm := hi.inv.small
  refine owned_ok (tag := tag3) (q := q) hr hr0 hq (by omega) (by omega) hT3 (fun p hp => (hsm p hp).1) (by omega) hw hwl fun s tag4 σ4 ks st4 hpm hsr rs => ?_
  have st04 : StepS [0, r, q, q2] ro tag σ tag4 σ4 := (((st1 []).s (by simp)).trans ((st2 []).s (by simp))).trans (((st3 []).s (by simp)).trans (st4.mono (by simp)))
  refine nw_cells (tag := tag4) (q + 64) st4.sep fun bb tag5 σ5 st5 rb => ?_
  obtain ⟨M, bs, hA⟩ := (hT3.keepS st4 (by simp; omega) (by simp; omega)).keep (st5 []) (by simp)
  have r35 := (r3'.keepS st4 (by simp; omega)).keep (st5 []) (by simp)
  have r45 := ((r4.keep (st3 []) (by simp)).keepS st4 (by simp; omega)).keep (st5 []) (by simp)
  have r75 := (r7.keepS st4 (by simp; omega)).keep (st5 []) (by simp)
  have rs5 := rs.keep (st5 []) (by simp)
  have eks := srt_keys hi.inv.keys hpm hsr
  rw [eks] at rs5
  have hK : ownedK st ws = ((((srt st).map (·.1)).filter fun k => isOwned st ws k)).reverse := rfl
  generalize hks : (((srt st).map (·.1)).filter fun k => isOwned st ws k) = own at rs5 hK
  have hol : own.length ≤ st.length := by
    rw [← hks]
    refine Nat.le_trans (List.length_filter_le _ _) ?_
    rw [List.length_map, (srt_perm st).length_eq]
    exact Nat.le_refl _
  -- the invariant
  obtain ⟨sw, hsw⟩ : ∃ sw : List (Int × ByteArray) → St × List Str, sw = fun pre => (pre.map fun x => L x.2).foldl (swept home) (st, []) := ⟨_, rfl⟩
  have hM5 : ∃ oM, σ5 M = some oM := by
    obtain ⟨es, c, hb, _⟩ := hA.map.obj
    exact ⟨_, hb⟩
  obtain ⟨oM, hM5⟩ := hM5
  let J : List (Int × ByteArray) → AH → Prop := fun pre σ' => ∃ tag' bs' es, StepS [0, r, q2] ro tag5 σ5 tag' σ' ∧ TreeAt tag' σ' r T M bs' (sw pre).1 ∧ RowW tag' σ' (q2 + 256) 108 2 es ((sw pre).2.map effD) ∧
    Row tag' σ' (q2 + 128) 75 ⟨some ⟨b7, 0, none⟩, 1, 1⟩ [Sl.v es] ∧ Row tag' σ' q2 23 ⟨some ⟨b3, 0, none⟩, 1, 1⟩ [.pointer (some ⟨T, 0, none⟩)] ∧ Row tag' σ' (q2 + 64) 9 ⟨some ⟨b4, 0, none⟩, 1, 1⟩ [.string (S home)] ∧
    ∀ b o, σ' b = some o → o.isCells = false → ∃ o', σ5 b = some o'
  have hwd : ∀ pre : List (Int × ByteArray), pre.length ≤ own.length → InvB (b + pre.length) (sw pre).1 ∧ (sw pre).2.length ≤ pre.length := fun pre hp => by
    have := sweptL_inv (home := home) (pre.map fun x => L x.2) (a := (st, [])) hi (by rw [List.length_map]; omega)
    rw [hsw]
    simpa using this
  refine ⟨own.map S, J, ?_, by rw [List.length_map]; omega, ⟨tag5, bs, ⟨none, 0, 0⟩, StepS.refl (st5 []).sep, by rw [hsw]; exact hA, RowW.nil _ _ _ |> (by rw [hsw]; exact ·), r75, r35, r45, fun b o hb _ => ⟨o, hb⟩⟩, ?_, ?_, ?_, ?_⟩
  · rcases rs5 with ⟨e1, e2⟩ | ⟨bz, cs, e1, e2, e3, e4, e5, e6, e7⟩
    · exact .inl ⟨e1, by rw [List.map_eq_nil_iff] at e2 ⊢; exact e2⟩
    · refine .inr ⟨bz, s.cap, _, ?_, e3, ?_, ?_⟩
      · rw [List.length_map] at e4 ⊢
        cases s; simp only at e1 e4; rw [e1, e4]
      · rintro pre σ' ⟨tg, bs', es, k, _⟩
        obtain ⟨R, k1, k2⟩ := k
        exact (k2.keep bz _ e3 (fun hm => by have := k1 _ hm; rw [e2] at this; simp at this; omega)).2
      · intro j hj
        rw [List.length_map] at hj
        have := e7 j (by rw [List.length_map]; exact hj)
        simp only [cellOf, Option.isSome_none, Bool.false_eq_true, if_false]
        rw [this]
        simp [List.getElem?_eq_getElem hj, Pa.vS]
  · rintro pre σ' ⟨tg, bs', es, _, _, _, _, _, _, hn⟩
    exact hn
  · rcases rb with ⟨e1, _⟩ | ⟨bz, cs, e1, e2, e3, e4, e5, e6, e7⟩
    · cases e1
    · cases e1
      refine ⟨_, e3, ?_, ?_⟩
      · have := e7 0 (by simp)
        simp only [cellOf, Option.isSome_none, Bool.false_eq_true, if_false]
        rw [this]; rfl
      · rintro pre σ' ⟨tg, bs', es, k, _⟩
        obtain ⟨R, k1, k2⟩ := k
        exact (k2.keep _ _ e3 (fun hm => by have := k1 _ hm; rw [e2] at this; simp at this; omega)).2
  · -- a round
    rintro pre x σ6 ⟨tag6, bs6, es6, st6, hA6, rE6, r76, r36, r46, hn6⟩ hlen6
    rw [List.length_map] at hlen6
    obtain ⟨hi6, hl6⟩ := hwd pre (by omega)
    obtain ⟨p, hp⟩ : ∃ p, x.2 = S p := ⟨L x.2, (S_L _).symm⟩
    have hsw' : sw (pre ++ [x]) = swept home (sw pre) p := by
      rw [hsw]
      simp [hp]
    have hlen6' := hi6.len
    -- what is left as it is
    have done : ∀ tag7 σ7 bs7 es7, StepS [0, r, q2] ro tag6 σ6 tag7 σ7 → TreeAt tag7 σ7 r T M bs7 (sw (pre ++ [x])).1 → RowW tag7 σ7 (q2 + 256) 108 2 es7 ((sw (pre ++ [x])).2.map effD) →
        Row tag7 σ7 (q2 + 128) 75 ⟨some ⟨b7, 0, none⟩, 1, 1⟩ [Sl.v es7] → Row tag7 σ7 q2 23 ⟨some ⟨b3, 0, none⟩, 1, 1⟩ [.pointer (some ⟨T, 0, none⟩)] → Row tag7 σ7 (q2 + 64) 9 ⟨some ⟨b4, 0, none⟩, 1, 1⟩ [.string (S home)] →
        (∀ b o, σ6 b = some o → ∃ o', σ7 b = some o') ∧ ∃ σ8, HLe σ8 σ7 ∧ J (pre ++ [x]) σ8 := fun tag7 σ7 bs7 es7 st7 h1 h2 h3 h4 h5 => by
      refine ⟨fun b o hb => ?_, SL.prn σ5 σ7, prn_le _ _, tag7, bs7, es7, (st6.trans st7).prn, h1.prn hM5, h2.prn, h3.prn, h4.prn, h5.prn, fun b o hb hc => prn_nc hb hc⟩
      obtain ⟨R, _, k⟩ := st7
      exact (k.old b o hb).2
    unfold rnd
    rw [hp]
    refine homeX_ok (tag := tag6) g fun e tag7 σ7 st7 => ?_
    refine ⟨S home, Row.cell1 (r46.keep st7 (by simp)) st7.sep, ?_⟩
    rw [L_S]
    by_cases c : (homeOf p).getD [] = home
    · rw [if_pos (by rw [c])]
      refine ⟨some ⟨T, 0, none⟩, Row.cell1 (r36.keep st7 (by simp)) st7.sep, ?_⟩
      refine deleteM_ok (tag := tag7) g hr hr6 hr0 (hA6.keep st7 (by simp)) (by rw [L_S]; exact del_up hi6.inv) fun tag8 σ8 bs8 st8 hA8 => ?_
      rw [L_S] at hA8 ⊢
      have k78 : StepS [0, r, q2] ro tag6 σ6 tag8 σ8 := (st7.s (by simp)).trans (st8.s (by simp))
      have kr : ∀ {x : Nat}, x % 64 ≠ r → True := fun _ => trivial
      have r38 := (r36.keep st7 (by simp)).keepC st8 (by omega)
      have r48 := (r46.keep st7 (by simp)).keepC st8 (by omega)
      have r78 := (r76.keep st7 (by simp)).keepC st8 (by omega)
      have rE8 := (rE6.keep st7 (by simp)).keepC st8 (by omega)
      unfold rndE
      by_cases ce : (remove (sw pre).1 p (-1)).2 = 0
      · rw [if_pos (by simpa using ce)]
        have hsw2 : swept home (sw pre) p = ((remove (sw pre).1 p (-1)).1, (sw pre).2 ++ [p]) := by unfold swept; rw [if_pos ⟨c, ce⟩]
        rw [hsw2] at hsw'
        refine ⟨es6, Row.cell1 r78 st8.sep, ?_⟩
        refine nw_cells (tag := tag8) (q2 + 320) st8.sep fun z tag9 σ9 st9 r9 => ?_
        refine awp_appendW (l2 := [effD p]) (rE8.keep (st9 []) (by simp)) (st9 []).sep (Row.readW1 r9 (st9 []).sep rfl (by decide)) (t := 75) (by kernel_rfl) ty108 rfl (by simp [effD, effV, storable]) (by simp; omega) (by decide) fun es' taga σa sta ra => ?_
        have sta' := sta [q2 + 256] (.inr (by simp))
        refine ⟨es', rfl, ?_⟩
        have r7a := (r78.keep (st9 []) (by simp)).keep sta' (by simp)
        refine stA_cells r7a sta'.sep (by simp) (by simp [storable, Sl.v]) fun σb stb rb7 _ => ?_
        have kb : StepS [0, r, q2] ro tag6 σ6 taga σb := k78.trans (((st9 []).s (by simp)).trans ((sta'.s (by simp; omega)).trans (stb.s (by simp; omega))))
        refine done taga σb bs8 es' kb ?_ ?_ rb7 ?_ ?_
        · rw [hsw']
          exact ((hA8.keep (st9 []) (by simp)).keep sta' (by simp; omega)).keep stb (by simp; omega)
        · rw [hsw', List.map_append]
          exact RowW.keep ra stb (by simp)
        · exact ((r38.keep (st9 []) (by simp)).keep sta' (by simp)).keep stb (by simp)
        · exact ((r48.keep (st9 []) (by simp)).keep sta' (by simp)).keep stb (by simp)
      · rw [if_neg (by simpa using ce)]
        have hsw2 : swept home (sw pre) p = sw pre := by unfold swept; rw [if_neg (fun h => ce h.2)]
        rw [hsw2] at hsw'
        have hre : (remove (sw pre).1 p (-1)).1 = (sw pre).1 := by
          rcases remove_spec (sw pre).1 p (-1) with ⟨e, _, h2⟩ | ⟨n, u, h2, _⟩
          · rw [h2]
          · rw [h2] at ce; exact absurd rfl ce
        rw [hre] at hA8
        exact done tag8 σ8 bs8 es6 k78 (by rw [hsw']; exact hA8) (by rw [hsw']; exact rE8) r78 r38 r48
    · rw [if_neg (fun h => c (S_inj.1 h))]
      unfold rndE
      rw [if_neg (by simp)]
      have hsw2 : swept home (sw pre) p = sw pre := by unfold swept; rw [if_neg (fun h => c h.1)]
      rw [hsw2] at hsw'
      exact done tag7 σ7 bs6 es6 (st7.s (by simp)) (by rw [hsw']; exact hA6.keep st7 (by simp)) (by rw [hsw']; exact rE6.keep st7 (by simp)) (r76.keep st7 (by simp)) (r36.keep st7 (by simp)) (r46.keep st7 (by simp))
  · rintro σ' ⟨tag6, bs6, es6, st6, hA6, rE6, r76, r36, r46, hn6⟩
    refine ⟨es6, Row.cell1 r76 st6.sep, ?_⟩
    have hE : sw (Back.upto (Back.bk (own.map S)) (own.map S).length) = sweepE st home ws := by
      rw [hsw]
      show List.foldl _ _ (List.map (fun x : Int × ByteArray => L x.2) _) = _
      rw [show (fun x : Int × ByteArray => L x.2) = L ∘ (fun x => x.2) from rfl, ← List.map_map, bk_rev]
      unfold sweepE
      rw [hK, List.map_reverse, List.map_map]
      have : (L ∘ S) = id := by funext l; rfl
      rw [this, List.map_id]
    rw [hE] at hA6 rE6
    exact hQ es6 tag6 σ' (st04.trans (((st5 []).s (by simp)).trans (st6.mono (by simp)))) ⟨M, bs6, hA6⟩ rE6
end Go.Proofs.YthfpmipeejjogaaGreatDoor.Zt

/- A sweep, the plain part: what is gone behind it. No program in sight. -/
namespace Go.Proofs.YthfpmipeejjogaaGreatDoor.Zt
open Go Go.Proofs.YthfpmipeejjogaaGreatDoor.SL Go.Proofs.YthfpmipeejjogaaGreatDoor.Pa
set_option linter.unusedSimpArgs false
set_option linter.unusedVariables false

/-- the root is above all -/
theorem under_root {k : Str} (h : ∃ ps, parts k = some ps) : isUnder [47] k = true := by
  obtain ⟨ps, h⟩ := h
  unfold isUnder under
  rw [show parts [47] = some [] from rfl, h]
  rfl
/-- a node that has an owner can be deleted -/
theorem remove_hit {b : Nat} {st : St} {p : Str} {n : Nd} (h : InvB b st) (hn : st.lookup p = some n) (ho : n.own ≠ 0) : ∃ u, remove st p (-1) = (delK (modN st u less) p, 0) := by
  have hne : p ≠ [47] := fun e => by subst e; exact ho (h.rt n hn).2.2
  obtain ⟨ps, hps⟩ := h.inv.path p n hn
  obtain ⟨u, m, hu, _⟩ := h.inv.up p n hn hne
  have hc := (h.own p n hn).2.2 ho
  have hk := (h.inv.ctr p n hn).1
  refine ⟨u, ?_⟩
  unfold remove
  rw [if_neg (fun h => h.elim hne fun h => by rw [hps] at h; cases h), hn]
  simp only
  rw [if_neg (fun h => h.1 rfl), if_neg (by omega), hu]
theorem remove_look {st : St} {p u k : Str} (hk : (st.map (·.1)).Nodup) (n : Nd) : (delK (modN st u less) p).lookup k = some n → k ≠ p ∧ ∃ m, st.lookup k = some m ∧ m.own = n.own := by
  intro h
  rw [lookup_del (by rw [keys_mod]; exact hk)] at h
  split at h
  · cases h
  · rename_i hne
    rw [lookup_mod] at h
    split at h
    · cases hl : st.lookup k with
      | none => rw [hl] at h; cases h
      | some m => rw [hl] at h; cases h; exact ⟨hne, m, rfl, rfl⟩
    · exact ⟨hne, n, h, rfl⟩
theorem remove_look' {st : St} {p u k : Str} (hk : (st.map (·.1)).Nodup) {n : Nd} (h : st.lookup k = some n) (hne : k ≠ p) : ∃ m, (delK (modN st u less) p).lookup k = some m ∧ m.own = n.own := by
  rw [lookup_del (by rw [keys_mod]; exact hk), if_neg hne, lookup_mod]
  split
  · rw [h]; exact ⟨_, rfl, rfl⟩
  · exact ⟨n, h, rfl⟩
theorem remove_len1 {st : St} {p u : Str} {n : Nd} (h : st.lookup p = some n) : (delK (modN st u less) p).length + 1 = st.length := by
  have hl : ∃ m, (modN st u less).lookup p = some m := by
    rw [lookup_mod]
    split
    · rw [h]; exact ⟨_, rfl⟩
    · exact ⟨n, h⟩
  obtain ⟨m, hm⟩ := hl
  obtain ⟨a, b, h1, h2⟩ := keys_del hm
  rw [keys_mod] at h1
  have e1 := congrArg List.length h1
  have e2 := congrArg List.length h2
  simp only [List.length_map, List.length_append, List.length_cons] at e1 e2
  omega

/-- What a step of the sweep does. -/
theorem swept_step {home : Str} {a : St × List Str} {p : Str} {b : Nat} (h : InvB b a.1) :
    (swept home a p).1.length + (swept home a p).2.length = a.1.length + a.2.length ∧
    (∀ k n, (swept home a p).1.lookup k = some n → ∃ m, a.1.lookup k = some m ∧ m.own = n.own) ∧
    (∀ k n, k ≠ p → a.1.lookup k = some n → ∃ m, (swept home a p).1.lookup k = some m ∧ m.own = n.own) ∧
    (((swept home a p).2 = a.2 ∧ (∀ n, a.1.lookup p = some n → n.own ≠ 0 → (homeOf p).getD [] ≠ home)) ∨ ((swept home a p).2 = a.2 ++ [p] ∧ (swept home a p).1.lookup p = none)) := by
  unfold swept
  by_cases c : (homeOf p).getD [] = home ∧ (remove a.1 p (-1)).2 = 0
  · rw [if_pos c]
    rcases remove_spec a.1 p (-1) with ⟨e, he, h2⟩ | ⟨n, u, h2, h3, _⟩
    · rw [h2] at c; exact absurd c.2 he
    · rw [h2]
      have hk := h.inv.keys
      refine ⟨?_, fun k n' hl => (remove_look hk n' hl).2, fun k n' hne hl => remove_look' hk hl hne, .inr ⟨rfl, ?_⟩⟩
      · have := remove_len1 (u := u) h3
        simp only [List.length_append, List.length_cons, List.length_nil]; omega
      · simp only
        rw [lookup_del (by rw [keys_mod]; exact hk), if_pos rfl]
  · rw [if_neg c]
    refine ⟨rfl, fun k n hl => ⟨n, hl, rfl⟩, fun k n _ hl => ⟨n, hl, rfl⟩, .inl ⟨rfl, fun n hn ho e => c ⟨e, ?_⟩⟩⟩
    obtain ⟨u, hu⟩ := remove_hit h hn ho
    rw [hu]
/-- What a whole sweep does. -/
theorem sweptL {home : Str} : ∀ (ks : List Str) {a : St × List Str} {b : Nat}, InvB b a.1 → b + ks.length ≤ 4398046511103 → ks.Nodup → (∀ k ∈ ks, ∃ n, a.1.lookup k = some n ∧ n.own ≠ 0) →
    (ks.foldl (swept home) a).1.length + (ks.foldl (swept home) a).2.length = a.1.length + a.2.length ∧
    (∀ k n, (ks.foldl (swept home) a).1.lookup k = some n → ∃ m, a.1.lookup k = some m ∧ m.own = n.own) ∧
    (∃ l, (ks.foldl (swept home) a).2 = a.2 ++ l ∧ List.Sublist l ks ∧ ∀ k ∈ l, (ks.foldl (swept home) a).1.lookup k = none) ∧
    (∀ k ∈ ks, (homeOf k).getD [] = home → (ks.foldl (swept home) a).1.lookup k = none) := by
  intro ks
  induction ks with
  | nil => intro a b _ _ _ _; exact ⟨rfl, fun k n h => ⟨n, h, rfl⟩, ⟨[], by simp, List.Sublist.refl _, by simp⟩, by simp⟩
  | cons p ks ih =>
    intro a b h hb hnd hall
    simp only [List.length_cons] at hb
    obtain ⟨hp, hnd'⟩ := List.nodup_cons.1 hnd
    obtain ⟨s1, s2, s3, s4⟩ := swept_step (home := home) (p := p) h
    obtain ⟨i1, i2, ⟨l, i3, i4, i5⟩, i6⟩ := ih (a := swept home a p) (swept_inv h (by omega)) (by omega) hnd' (fun k hk => by
      obtain ⟨n, h1, h2⟩ := hall k (by simp [hk])
      obtain ⟨m, h3, h4⟩ := s3 k n (fun e => hp (e ▸ hk)) h1
      exact ⟨m, h3, by rw [h4]; exact h2⟩)
    rw [List.foldl_cons]
    have back : ∀ k n, (ks.foldl (swept home) (swept home a p)).1.lookup k = some n → ∃ m, a.1.lookup k = some m ∧ m.own = n.own := fun k n hl => by
      obtain ⟨m, h1, h2⟩ := i2 k n hl
      obtain ⟨m', h3, h4⟩ := s2 k m h1
      exact ⟨m', h3, h4.trans h2⟩
    have gone : ∀ k, (swept home a p).1.lookup k = none → (ks.foldl (swept home) (swept home a p)).1.lookup k = none := fun k hk => by
      cases e : (ks.foldl (swept home) (swept home a p)).1.lookup k with
      | none => rfl
      | some n => obtain ⟨m, h1, _⟩ := i2 k n e; rw [hk] at h1; cases h1
    refine ⟨by omega, back, ?_, fun k hk hh => ?_⟩
    · rcases s4 with ⟨e, _⟩ | ⟨e, hn⟩
      · exact ⟨l, by rw [i3, e], List.Sublist.cons _ i4, i5⟩
      · refine ⟨p :: l, by rw [i3, e, List.append_assoc]; rfl, List.Sublist.cons_cons _ i4, fun k hk => ?_⟩
        rcases List.mem_cons.1 hk with rfl | hk
        · exact gone _ hn
        · exact i5 k hk
    · rcases List.mem_cons.1 hk with rfl | hk
      · rcases s4 with ⟨_, e⟩ | ⟨_, hn⟩
        · obtain ⟨n, h1, h2⟩ := hall k (by simp)
          exact absurd hh (e n h1 h2)
        · exact gone _ hn
      · exact i6 k hk hh
theorem isOwned_iff {st : St} {ws : List Int} {k : Str} : isOwned st ws k = true ↔ ∃ n, st.lookup k = some n ∧ n.own ≠ 0 ∧ n.own ∈ ws := by
  unfold isOwned
  cases st.lookup k with
  | none => simp
  | some n => simp
theorem ownedK_mem {st : St} {ws : List Int} (hk : (st.map (·.1)).Nodup) {k : Str} : k ∈ ownedK st ws ↔ isOwned st ws k = true := by
  unfold ownedK
  rw [List.mem_reverse, List.mem_filter]
  refine ⟨fun h => h.2, fun h => ⟨?_, h⟩⟩
  obtain ⟨n, hn, _⟩ := isOwned_iff.1 h
  exact ((srt_perm st).map (·.1)).mem_iff.2 (in_lookup hn)
theorem ownedK_desc {st : St} {ws : List Int} (hk : (st.map (·.1)).Nodup) : (ownedK st ws).Pairwise fun a b => b < a := by
  unfold ownedK
  rw [List.pairwise_reverse]
  refine List.Pairwise.filter _ ?_
  rw [List.pairwise_map]
  exact srt_srt hk
theorem ownedK_len {st : St} {ws : List Int} : (ownedK st ws).length ≤ st.length := by
  unfold ownedK
  rw [List.length_reverse]
  refine Nat.le_trans (List.length_filter_le _ _) ?_
  rw [List.length_map, (srt_perm st).length_eq]
  exact Nat.le_refl _
/-- The law: behind a sweep. -/
theorem sweepE_law {b : Nat} {st : St} {home : Str} {ws : List Int} (h : InvB b st) (hb : b ≤ 1099511627776) :
    (sweepE st home ws).1.length + (sweepE st home ws).2.length = st.length ∧
    (∀ k ∈ (sweepE st home ws).2, (sweepE st home ws).1.lookup k = none ∧ ∃ ps, parts k = some ps) ∧
    ((sweepE st home ws).2.Pairwise fun a b => b < a) ∧
    (sweepE (sweepE st home ws).1 home ws).2 = [] ∧
    InvB (b + st.length) (sweepE st home ws).1 := by
  have hol := ownedK_len (st := st) (ws := ws)
  have hlen := h.len
  have hk := h.inv.keys
  have hd := ownedK_desc (ws := ws) hk
  have hnd : (ownedK st ws).Nodup := by
    unfold List.Nodup
    refine hd.imp ?_
    intro x y hlt e
    rw [e] at hlt
    exact slt_irrefl y hlt
  have hall : ∀ k ∈ ownedK st ws, ∃ n, st.lookup k = some n ∧ n.own ≠ 0 := fun k hm => by
    obtain ⟨n, h1, h2, _⟩ := isOwned_iff.1 ((ownedK_mem hk).1 hm)
    exact ⟨n, h1, h2⟩
  obtain ⟨i1, i2, ⟨l, i3, i4, i5⟩, i6⟩ := sweptL (home := home) (ownedK st ws) (a := (st, [])) h (by omega) hnd hall
  obtain ⟨j1, _⟩ := sweptL_inv (home := home) (ownedK st ws) (a := (st, [])) h (by omega)
  rw [List.nil_append] at i3
  have hi' : InvB (b + st.length) (sweepE st home ws).1 := j1.mono (by omega)
  refine ⟨i1, fun k hm => ?_, ?_, ?_, hi'⟩
  · have hm' : k ∈ l := by rw [← i3]; exact hm
    obtain ⟨n, hn, _⟩ := hall k (i4.subset hm')
    exact ⟨i5 k hm', h.inv.path k n hn⟩
  · show List.Pairwise (fun a b : Str => b < a) (List.foldl (swept home) (st, []) (ownedK st ws)).2
    rw [i3]
    exact List.Pairwise.sublist i4 hd
  · -- nothing is left
    show (List.foldl (swept home) (_, []) (ownedK (sweepE st home ws).1 ws)).2 = []
    have hk2 := hi'.inv.keys
    have hno : ∀ k ∈ ownedK (sweepE st home ws).1 ws, (homeOf k).getD [] ≠ home := fun k hm e => by
      obtain ⟨n, h1, h2, h3⟩ := isOwned_iff.1 ((ownedK_mem hk2).1 hm)
      obtain ⟨m, h4, h5⟩ := i2 k n h1
      have hm' : k ∈ ownedK st ws := (ownedK_mem hk).2 (isOwned_iff.2 ⟨m, h4, by rw [h5]; exact h2, by rw [h5]; exact h3⟩)
      have := i6 k hm' e
      rw [show ((ownedK st ws).foldl (swept home) (st, [])).1 = (sweepE st home ws).1 from rfl, h1] at this
      cases this
    generalize ownedK (sweepE st home ws).1 ws = ks at hno
    generalize (sweepE st home ws).1 = s'
    induction ks with
    | nil => rfl
    | cons k ks ih =>
      rw [List.foldl_cons]
      have : swept home (s', []) k = (s', []) := by unfold swept; rw [if_neg (fun h => hno k (by simp) h.1)]
      rw [this]
      exact ih fun x hx => hno x (by simp [hx])
end Go.Proofs.YthfpmipeejjogaaGreatDoor.Zt

/- The document's bytes: Put, Join, Blob. -/
namespace Go.Proofs.YthfpmipeejjogaaGreatDoor.SL
open Go
variable {ro σ σ' σ1 : AH} {tag tag' tag1 : Nat → Nat}
/-- what was made anew in role 1, all else of role 0: as it stands beside any roles -/
theorem fresh_step {x : Nat} (hx : x ≠ 0) (st : Step [x] ro (fun _ => 0) σ tag1 σ1) (tag : Nat → Nat) (y : Nat) :
    ∃ tag', (∀ R, Step R ro tag σ tag' σ1) ∧ ∀ e s l, Row tag1 σ1 x e s l → Row tag' σ1 y e s l := by
  refine ⟨fun c => if (σ c).isSome then tag c else y, fun R => ⟨fun b o hb _ => ⟨by simp [hb], ?_⟩, fun b o hb => ⟨by simp [hb], o, ?_⟩, st.sep⟩, fun e s l h => ?_⟩
  · exact (st.keep b o hb (by simp; omega)).2
  · exact (st.keep b o hb (by simp; omega)).2
  · rcases h with h | ⟨b, cs, ha, ht, hb, hx'⟩
    · exact .inl h
    · refine .inr ⟨b, cs, ha, ?_, hb, hx'⟩
      cases e : σ b with
      | none => simp [e]
      | some o =>
        have := (st.old b o e).1
        rw [ht] at this; exact absurd this hx
theorem Read.fresh {x : Nat} {s : Sl} {l : List Value} (hx : x ≠ 0) (h : Read ro σ s l) (st : Step [x] ro (fun _ => 0) σ tag1 σ1) : Read ro σ1 s l := by
  obtain ⟨tg, k, _⟩ := fresh_step hx st (fun _ => 0) 0
  exact h.step (k [])
end Go.Proofs.YthfpmipeejjogaaGreatDoor.SL
namespace Go.Proofs.YthfpmipeejjogaaGreatDoor.Zt
open Go Go.Proofs.YthfpmipeejjogaaGreatDoor.SL Go.Proofs.YthfpmipeejjogaaGreatDoor.G Go.Proofs.YthfpmipeejjogaaGreatDoor.Pa Go.Proofs.YthfpmipeejjogaaGreatDoor.Wi
set_option linter.unusedSimpArgs false
set_option linter.unusedVariables false
variable {B : World} {ro σ σ' : AH} {tag tag' : Nat → Nat}

end Go.Proofs.YthfpmipeejjogaaGreatDoor.Zt

/- The document's tree: its bytes. -/
namespace Go.Proofs.YthfpmipeejjogaaGreatDoor.Zt
open Go Go.Proofs.YthfpmipeejjogaaGreatDoor.SL Go.Proofs.YthfpmipeejjogaaGreatDoor.G Go.Proofs.YthfpmipeejjogaaGreatDoor.Pa Go.Proofs.YthfpmipeejjogaaGreatDoor.Wi
set_option linter.unusedSimpArgs false
set_option linter.unusedVariables false
variable {B : World} {ro σ σ' : AH} {tag tag' : Nat → Nat}

theorem upd_upd (σ : AH) (b : Nat) (x y : Obj) : upd (upd σ b x) b y = upd σ b y := by
  funext c; unfold upd; split <;> rfl
end Go.Proofs.YthfpmipeejjogaaGreatDoor.Zt

/- A sweep with owners in memory of one's own; the numbers copied. -/
namespace Go.Proofs.YthfpmipeejjogaaGreatDoor.Zt
open Go Go.Proofs.YthfpmipeejjogaaGreatDoor.SL Go.Proofs.YthfpmipeejjogaaGreatDoor.G Go.Proofs.YthfpmipeejjogaaGreatDoor.Pa
set_option linter.unusedSimpArgs false
set_option linter.unusedVariables false
variable {B : World} {ro σ σ' : AH} {tag tag' : Nat → Nat}

theorem one_del (σ : AH) (b : Nat) : join (SL.one σ b) (SL.del σ b) = σ ∧ Disj (SL.one σ b) (SL.del σ b) := by
  constructor
  · funext c; unfold join SL.one SL.del
    by_cases e : c = b
    · simp only [e, if_true]; cases σ b <;> rfl
    · simp [e]
  · intro c o hc
    unfold SL.one at hc; unfold SL.del
    split at hc
    · rename_i e; rw [if_pos e]
    · cases hc
set_option maxRecDepth 100000 in
theorem copyInts_ok {a0 : Sl} {ws : List Int} {Q : Sl → AH → Prop} (q : Nat) (h : SL.Read ro (fun _ => none) a0 (ws.map vI)) (hl : ws.length ≤ 1073741824)
    (hQ : ∀ b tag' σ', Step [q] ro tag σ tag' σ' → Row tag' σ' q 3 ⟨some ⟨b, 0, none⟩, ws.length, ws.length⟩ (ws.map vI) → Q ⟨some ⟨b, 0, none⟩, ws.length, ws.length⟩ σ') : c_ref01_CopyInts B ro a0 σ Q := by
  refine ref01_CopyInts_ok fun hs => ?_
  unfold f_ref01_CopyInts
  have hln : a0.len = ws.length := by rw [h.1, List.length_map]
  rw [hln]
  refine ⟨⟨by omega, by omega, by omega, by omega⟩, ?_⟩
  rw [Int.toNat_natCast]
  intro b hro hb
  have st1 : ∀ R, Step R ro tag σ (setTag tag b q) (upd σ b (.cells (zeros (.int .i64 0) (ws.length * 1)) 3)) := fun R => Step.fresh hs hro hb
  have r1 : Row (setTag tag b q) (upd σ b (.cells (zeros (.int .i64 0) (ws.length * 1)) 3)) q 3 ⟨some ⟨b, 0, none⟩, ws.length, ws.length⟩ (List.replicate ws.length (vI 0)) := by
    refine .inr ⟨b, _, rfl, by simp [setTag], upd_same _ _ _, by simp, by rw [zeros_size]; simp, Nat.le_refl _, fun i hi => ?_⟩
    simp at hi
    rw [zeros_get _ rfl _ _ (by omega), List.getElem?_replicate, if_pos hi]
  have := awp_copyTail (P := Tryz.prog) (ro := ro) (t := 58) (t2 := 58) (ty := 3) (m := 0) (l2 := ws.map vI) (Q := fun v σ => ∃ (x9_2 : Int), v = .int .i64 x9_2 ∧ Q ⟨some ⟨b, 0, none⟩, ws.length, ws.length⟩ σ) r1 (st1 []).sep (by kernel_rfl) ty3 (Read.src h.keep) (by simp) (by simp [storable]) (fun σ2 st2 r2 => ?_)
  · rw [cutA_zero] at this
    exact this
  · rw [List.take_zero, List.nil_append] at r2
    exact ⟨_, rfl, hQ b (setTag tag b q) σ2 ((st1 [q]).trans st2) r2⟩

set_option maxRecDepth 100000 in
/-- a sweep, the owners in a block of the role x -/
theorem sweepI_ok {r T b q q2 x bi : Nat} {st : St} {home : Str} {ws : List Int} {Q : Sl → AH → Prop} (g : Glob ro) (hr : r < 64) (hr0 : r ≠ 0) (hr6 : r ≠ 6) (hq : q < 64) (hq2 : q2 < 64) (hqs : q ∉ [0, 6, r]) (hq2s : q2 ∉ [0, 6, r, q]) (hx : x < 64) (hxs : x ∉ [0, 6, r, q, q2]) (hs : SL.Sep ro σ)
    (h : TreeIs tag σ r T st) (hi : InvB b st) (hb : b ≤ 1073741824) (hI : Row tag σ x 3 ⟨some ⟨bi, 0, none⟩, ws.length, ws.length⟩ (ws.map vI)) (hwl : ws.length ≤ 1073741824)
    (hQ : ∀ es tag' σ', StepS [0, r, q, q2] ro tag σ tag' σ' → TreeIs tag' σ' r T (sweepE st home ws).1 → RowW tag' σ' (q2 + 256) 108 2 es ((sweepE st home ws).2.map effD) → Q es σ') :
    c_multi_Sweep B ro (some ⟨T, 0, none⟩) (S home) ⟨some ⟨bi, 0, none⟩, ws.length, ws.length⟩ σ Q := by
  obtain ⟨tI, ob, hob⟩ := hI.tagOf
  obtain ⟨ej, hd⟩ := one_del σ bi
  simp only [List.mem_cons, List.not_mem_nil, or_false, not_or] at hxs
  have hrd : SL.Read (join ro (SL.one σ bi)) (fun _ => none) ⟨some ⟨bi, 0, none⟩, ws.length, ws.length⟩ (ws.map vI) := by
    refine ⟨by simp, (fun h => by cases h), fun p hp i v hv => ?_⟩
    cases hp
    have := hI.lend hs (τ := fun _ => none) hv
    rwa [Nat.mul_one] at this
  have base : c_multi_Sweep B (join ro (SL.one σ bi)) (some ⟨T, 0, none⟩) (S home) ⟨some ⟨bi, 0, none⟩, ws.length, ws.length⟩ (SL.del σ bi) fun es τ => ∃ tag', StepS [0, r, q, q2] (join ro (SL.one σ bi)) tag (SL.del σ bi) tag' τ ∧ TreeIs tag' τ r T (sweepE st home ws).1 ∧ RowW tag' τ (q2 + 256) 108 2 es ((sweepE st home ws).2.map effD) :=
    sweep_ok (tag := tag) (b := b) (glob_lent g) hr hr0 hr6 hq hq2 hqs hq2s (h.del' tI hx hr (by omega) (by omega)) hi hb hrd (by omega) fun es tag' σ' a c d => ⟨tag', a, c, d⟩
  have := ACalls.lend base hd
  rw [ej] at this
  refine ACalls.mono this ?_
  rintro v σ' ⟨τ, rfl, hdt, es, hv, tag', a, c, d⟩
  obtain ⟨tag2, st2, bT, bW, bR⟩ := region_back hs ⟨_, hob⟩ hdt a
  exact ⟨es, hv, hQ es tag2 _ st2 (bT _ _ _ c) (bW _ _ _ _ _ d)⟩
end Go.Proofs.YthfpmipeejjogaaGreatDoor.Zt

/- Behind a sweep nothing of the owners is left: the law, the walk. -/
namespace Go.Proofs.YthfpmipeejjogaaGreatDoor.Zt
open Go Go.Proofs.YthfpmipeejjogaaGreatDoor.SL Go.Proofs.YthfpmipeejjogaaGreatDoor.G Go.Proofs.YthfpmipeejjogaaGreatDoor.Pa
set_option linter.unusedSimpArgs false
set_option linter.unusedVariables false
variable {B : World} {ro σ σ' : AH} {tag tag' : Nat → Nat}

theorem RowW.cellsD {r : Nat} {e : TypeId} {s : Sl} {l : List Str} (h : RowW tag σ r e 2 s (l.map effD)) (hs : SL.Sep ro σ) {j : Nat} {p : Str} (hj : l[j]? = some p) :
    ∃ q, s.a = some q ∧ SL.cellsAt ro σ (q.add (Int.toNat (j : Int) * 2)) 0 [.int .i64 2, .string (S p)] ∧ acell ro σ ((q.add (Int.toNat (j : Int) * 2)).add 1) = some (.string (S p)) := by
  obtain ⟨b, ha, _, hg⟩ := RowW.get h hs (j := j) (x := effD p) (by rw [List.getElem?_map, hj]; rfl)
  refine ⟨_, ha, cellsAt_of 0 fun i v hv => ?_, ?_⟩
  · have := hg i v hv
    rw [Int.toNat_natCast, add_add, add_add]
    rwa [Nat.zero_add, Nat.zero_add]
  · have := hg 1 _ rfl
    rw [Int.toNat_natCast, add_add, add_add]
    rwa [Nat.zero_add]

set_option maxRecDepth 100000 in
theorem sweeps_last {a3 : Sl} {T b : Nat} {st : St} {home : Str} {ws : List Int} (g : Glob ro) (hs : SL.Sep ro σ) (hT : TreeIs tag σ 10 T st) (hi : InvB b st) (hb : b ≤ 100000000) (hw : SL.Read ro (fun _ => none) a3 (ws.map vI)) (hwl : ws.length ≤ 1073741824) (hnil : (sweepE st home ws).2 = []) :
    j14_law08_MultiSweeps B ro (S home) a3 (some ⟨T, 0, none⟩) (fun r _ => r = true) σ := by
  unfold j14_law08_MultiSweeps
  refine copyInts_ok (tag := tag) 35 hw hwl fun bi tag1 σ1 st1 r1 => ?_
  refine sweepI_ok (tag := tag1) (r := 10) (b := b) (q := 33) (q2 := 34) (x := 35) g (by decide) (by decide) (by decide) (by decide) (by decide) (by decide) (by decide) (by decide) (by decide) st1.sep (hT.keep st1 (by simp)) hi (by omega) r1 hwl fun es tag2 σ2 st2 h2 r2 => ?_
  rw [hnil] at r2
  have hln := RowW.len r2
  rw [if_pos (by rw [hln]; rfl)]
  exact awake8_ok g fun σ _ => rfl

set_option maxRecDepth 100000 in
set_option maxHeartbeats 1000000 in
theorem sweeps_tail {a3 : Sl} {T b : Nat} {st : St} {home : Str} {ws : List Int} (g : Glob ro) (hs : SL.Sep ro σ) (hT : TreeIs tag σ 10 T st) (hi : InvB b st) (hb : b ≤ 30000000) (hw : SL.Read ro (fun _ => none) a3 (ws.map vI)) (hwl : ws.length ≤ 1073741824) :
    j7_law08_MultiSweeps B ro (S home) a3 (some ⟨T, 0, none⟩) (fun r _ => r = true) σ := by
  have hlen := hi.len
  have hpaths : ∀ {s : St}, Inv s → ∀ p ∈ s, ∃ ps, parts p.1 = some ps := fun hi p hp => hi.path _ _ ((lookup_iff hi.keys (k := p.1) (n := p.2)).2 hp)
  have hroot : (⟨#[47]⟩ : ByteArray) = S [47] := rfl
  have allU : ∀ {s : St} {ks : List Str}, Inv s → ks.Perm (s.map (·.1)) → (ks.filter fun k => isUnder (L (⟨#[47]⟩ : ByteArray)) k).length = s.length := fun {s ks} hi hp => by
    have e : (ks.filter fun k => isUnder (L (⟨#[47]⟩ : ByteArray)) k) = ks := List.filter_eq_self.2 fun k hk => by
      obtain ⟨n, hn⟩ := lookup_in (hp.mem_iff.1 hk)
      exact under_root (hi.path k n hn)
    rw [e, hp.length_eq, List.length_map]
  unfold j7_law08_MultiSweeps
  obtain ⟨M, bs, hA⟩ := id hT
  refine pathsAny_ok (q := 37) g (by decide) (by decide) (by decide) hA (hpaths hi.inv) (by omega) (fun h => by cases h) fun ps hps s1 tag1 σ1 ks1 st1 hp1 hsr1 r1 => ?_
  have hl1 : s1.len = st.length := by rw [r1.len, List.length_map, allU hi.inv hp1]
  have hT1 := hT.keep st1 (by simp)
  refine copyInts_ok (tag := tag1) 35 hw hwl fun bi tag2 σ2 st2 r2 => ?_
  refine sweepI_ok (tag := tag2) (r := 10) (b := b) (q := 33) (q2 := 34) (x := 35) g (by decide) (by decide) (by decide) (by decide) (by decide) (by decide) (by decide) (by decide) (by decide) st2.sep (hT1.keep st2 (by simp)) hi (by omega) r2 hwl fun es tag3 σ3 st3 h3 r3 => ?_
  obtain ⟨e1, e2, e3, e4, e5⟩ := sweepE_law (home := home) (ws := ws) hi (by omega)
  have hln := RowW.len r3
  rw [List.length_map] at hln
  generalize hst' : (sweepE st home ws).1 = st' at h3 e1 e2 e4 e5
  generalize (sweepE st home ws).2 = l at r3 e1 e2 e3 hln
  have hi' := e5.inv
  obtain ⟨M3, bs3, hA3⟩ := id h3
  refine pathsAny_ok (q := 38) g (by decide) (by decide) (by decide) hA3 (hpaths hi') (by omega) (fun h => by cases h) fun ps hps s4 tag4 σ4 ks4 st4 hp4 hsr4 r4 => ?_
  have hl4 : s4.len = st'.length := by rw [r4.len, List.length_map, allU hi' hp4]
  rw [if_neg (by rw [hl4, hln, hl1, w64_eq (by omega) (by omega)]; simp; omega)]
  have hT4 := h3.keep st4 (by simp)
  have rE4 := RowW.keep r3 st4 (by simp)
  suffices ∀ (m j : Nat) (tag5 : Nat → Nat) (σ5 : AH), j + m = l.length → SL.Sep ro σ5 → TreeIs tag5 σ5 10 T st' → RowW tag5 σ5 290 108 2 es (l.map effD) → lfpD (l20_law08_MultiSweeps B ro (S home) a3 (some ⟨T, 0, none⟩) es fun r _ => r = true) (j : Int) σ5 from
    this _ 0 tag4 σ4 (Nat.zero_add _) st4.sep hT4 rE4
  intro m
  induction m with
  | zero =>
    intro j tag5 σ5 hj hs5 h5 r5
    refine lfpD.intro ?_
    unfold l20_law08_MultiSweeps
    rw [if_neg (by omega)]
    exact sweeps_last g hs5 h5 e5 (by omega) hw hwl e4
  | succ m ih =>
    intro j tag5 σ5 hj hs5 h5 r5
    have hjl : j < l.length := by omega
    obtain ⟨k1, k2⟩ := e2 _ (List.getElem_mem hjl)
    have hjg : l[j]? = some l[j] := List.getElem?_eq_getElem hjl
    obtain ⟨q, hq, hc, _⟩ := RowW.cellsD r5 hs5 hjg
    refine lfpD.intro ?_
    unfold l20_law08_MultiSweeps
    rw [if_pos (by omega)]
    refine ⟨q, hq, by omega, by omega, 2, S l[j], hc, ?_⟩
    refine nw_st (tag := tag5) 36 hs5 rfl (by simp [storable]) fun X tag6 σ6 st6 r6 => ?_
    obtain ⟨p6, hp6, hg6⟩ := r6.ptr (st6 []).sep (by simp)
    cases hp6
    refine ⟨S l[j], hg6 1 _ rfl, ?_⟩
    obtain ⟨M6, bs6, hA6⟩ := h5.keep (st6 []) (by simp)
    refine get_ok (tag := tag6) g (by decide) (by decide) (by decide) hA6 hi'.data (fun h => ?_) (fun ps hps hl tag7 σ7 st7 => ?_) (fun n hl => ?_)
    · obtain ⟨ps, hps⟩ := k2
      rw [L_S, hps] at h; cases h
    · refine nw_st (tag := tag7) 36 st7.sep rfl (by simp [storable]) fun X2 tag8 σ8 st8 r8 => ?_
      have r68 := (r6.keepC st7 (by decide)).keep (st8 []) (by simp)
      obtain ⟨p8, hp8, hg8⟩ := r68.ptr (st8 []).sep (by simp)
      cases hp8
      have h8 : TreeIs tag8 σ8 10 T st' := (TreeIs.keepC ⟨M6, bs6, hA6⟩ st7 (by decide) (by decide)).keep (st8 []) (by simp)
      have rE8 := ((RowW.keep r5 (st6 []) (by simp)).keepC st7 (by decide)).keep (st8 []) (by simp)
      have next : j30_law08_MultiSweeps B ro (S home) a3 (some ⟨T, 0, none⟩) es (j : Int) (fun r _ => r = true) (lfpD (l20_law08_MultiSweeps B ro (S home) a3 (some ⟨T, 0, none⟩) es fun r _ => r = true)) false σ8 := by
        unfold j30_law08_MultiSweeps
        rw [if_neg (by simp), Pa.inc j (by omega)]
        exact ih (j + 1) tag8 σ8 (by omega) (st8 []).sep h8 rE8
      rw [if_neg (by decide)]
      refine ⟨2, hg8 0 _ rfl, ?_⟩
      rw [if_neg (by simp)]
      by_cases h0 : j = 0
      · subst h0
        rw [if_neg (by decide)]
        exact next
      · rw [if_pos (by omega)]
        have hj1 : j - 1 < l.length := by omega
        obtain ⟨q', hq', _, hc'⟩ := RowW.cellsD rE8 (st8 []).sep (List.getElem?_eq_getElem hj1)
        have ew : IntKind.i64.wrap ((j : Int) - 1) = ((j - 1 : Nat) : Int) := by rw [w64_eq (by omega) (by omega)]; omega
        rw [ew]
        refine ⟨q', hq', by omega, by omega, S l[j - 1], hc', S l[j], hg8 1 _ rfl, ?_⟩
        have hlt : l[j] < l[j - 1] := List.pairwise_iff_getElem.1 e3 (j - 1) j hj1 hjl (by omega)
        have hf : (lessS (S l[j - 1]) (S l[j]) || decide (S l[j - 1] = S l[j])) = false := by
          rw [Bool.or_eq_false_iff]
          constructor
          · rw [Bool.eq_false_iff]
            intro h
            have := (lessS_iff _ _).1 h
            rw [L_S, L_S] at this
            exact slt_irrefl _ (slt_trans this hlt)
          · rw [decide_eq_false_iff_not]
            intro h
            have := S_inj.1 h
            rw [this] at hlt
            exact slt_irrefl _ hlt
        rw [hf]
        exact next
    · rw [L_S, k1] at hl; cases hl

set_option maxRecDepth 100000 in
theorem sweeps_ok {a0 a1 a3 : Sl} {hs : List Str} {txs : List Txn} {home : Str} {ws : List Int} (g : Glob ro) (hrd : SL.Read ro (fun _ => none) a0 (hs.map Pa.vS)) (hhs : hs.length ≤ 1048576) (hhh : ∀ h ∈ hs, h.length ≤ 4611686018427387903) (hT : TxsR ro a1 txs) (hl : txs.length ≤ 1048576) (hw : SL.Read ro (fun _ => none) a3 (ws.map vI)) (hwl : ws.length ≤ 1073741824) :
    c_law08_MultiSweeps B ro a0 a1 (S home) a3 σ fun r _ => r = true := by
  refine law08_MultiSweeps_ok fun hsep => ?_
  unfold f_law08_MultiSweeps
  refine nw_cells (tag := fun _ => 0) 32 hsep fun X1 tag1 σ1 st1 r1 => ?_
  obtain ⟨p1, hp1, hg1⟩ := r1.ptr (st1 []).sep (by simp)
  cases hp1
  refine ⟨a0, hg1 0 _ rfl, a1, hg1 1 _ rfl, S home, hg1 2 _ rfl, a3, hg1 3 _ rfl, ?_⟩
  refine start_ok (tag := tag1) (hs := hs) 10 g (by decide) (by decide) (by decide) (fun tag' σ' st => hrd.keep) (by omega) hhh fun T tag2 σ2 st2 h2 hi2 => ?_
  rw [if_neg (by simp)]
  have hal : a1.len = txs.length := hT.1
  suffices ∀ (m j : Nat) (st : St) (tag7 : Nat → Nat) (σ7 : AH), j + m = txs.length → SL.Sep ro σ7 → TreeIs tag7 σ7 10 T st → InvB (hs.length + 16 * j) st → lfpD (l39_law08_MultiSweeps B ro a1 (S home) a3 (some ⟨T, 0, none⟩) fun r _ => r = true) (j : Int) σ7 from
    this _ 0 _ tag2 σ2 (Nat.zero_add _) st2.sep h2 hi2
  intro m
  induction m with
  | zero =>
    intro j st tag7 σ7 hj hs7 h7 hi7
    refine lfpD.intro ?_
    unfold l39_law08_MultiSweeps
    rw [if_neg (by omega)]
    exact sweeps_tail g hs7 h7 hi7 (by omega) hw hwl
  | succ m ih =>
    intro j st tag7 σ7 hj hs7 h7 hi7
    have hjl : j < txs.length := by omega
    obtain ⟨q, os', hq, hc, hth, hO', hol'⟩ := hT.2 j txs[j] (List.getElem?_eq_getElem hjl)
    generalize txs[j] = t' at hc hth hO' hol'
    refine lfpD.intro ?_
    unfold l39_law08_MultiSweeps
    rw [if_pos (by omega)]
    refine ⟨q, hq, by omega, by omega, S t'.home, t'.owner, t'.qn, t'.qb, os', t'.sweep, by rw [Int.toNat_natCast]; exact hc σ7, ?_⟩
    refine nw_st (tag := tag7) 29 hs7 rfl (by simp [storable, Sl.v]) fun X tag8 σ8 st8 r8 => ?_
    have hs8 := (st8 []).sep
    refine txn_in (b := hs.length + 16 * j) (t := t') g hs8 (by decide) (by decide) (by decide) (by decide) (by decide) (h7.keep (st8 []) (by simp)) hi7 (by omega) r8 hO' hol' (Nat.le_trans hth (by decide)) fun rs es tag9 σ9 st9 h9 _ _ => ?_
    intro hdis
    obtain ⟨tX, o1, hX'⟩ := r8.tagOf
    obtain ⟨tag10, st10, bT, bW, bR⟩ := region_back hs8 ⟨_, hX'⟩ hdis st9
    rw [Pa.inc j (by omega)]
    exact ih (j + 1) _ tag10 _ (by omega) st10.sep (bT _ _ _ h9) (by rw [show hs.length + 16 * (j + 1) = hs.length + 16 * j + 16 by omega]; exact applyE_inv hi7 (by omega))
end Go.Proofs.YthfpmipeejjogaaGreatDoor.Zt

/- ZtreeShape: the script as it stands in memory. -/
namespace Go.Proofs.YthfpmipeejjogaaGreatDoor.Zt
open Go Go.Proofs.YthfpmipeejjogaaGreatDoor.SL Go.Proofs.YthfpmipeejjogaaGreatDoor.G Go.Proofs.YthfpmipeejjogaaGreatDoor.Pa
set_option linter.unusedSimpArgs false
set_option linter.unusedVariables false

theorem c5 : Tryz.prog.cellsOf 5 = 1 := by kernel_rfl
theorem c3 : Tryz.prog.cellsOf 3 = 1 := by kernel_rfl
theorem c9 : Tryz.prog.cellsOf 9 = 1 := by kernel_rfl
theorem c30 : Tryz.prog.cellsOf 30 = 1 := by kernel_rfl
theorem c4 : Tryz.prog.cellsOf 4 = 1 := by kernel_rfl
theorem b5 : Tryz.prog.bytesOf 5 = 1 := by kernel_rfl
theorem u4b : Tryz.prog.underlying 4 = some .bool := by kernel_rfl
theorem u3' : Tryz.prog.underlying 3 = some (.int .i64) := by kernel_rfl
theorem u4' : Tryz.prog.underlying 4 = some .bool := by kernel_rfl

theorem bytes_of {W : World} {H : Type} {enc : TypeId × Value → H} {a : Option Addr} {len cap : Nat} (h : Arg Tryz.prog W H enc 30 [.slice a len cap]) : ∃ d : Str, d.length ≤ 140737488351232 ∧ SL.Read (all W) (fun _ => none) ⟨a, len, cap⟩ (d.map vU) := by
  rcases h.slice u30 with ⟨rfl, rfl, rfl⟩ | ⟨x, rfl, hl, hb, hel⟩
  · exact ⟨[], by decide, rfl, fun _ => rfl, fun p h => by cases h⟩
  · rw [c5] at hel
    rw [b5, Nat.mul_one] at hb
    have key : ∀ j : Nat, ∃ c : UInt8, j < len → W.cell? (x.add j) = some (vU c) := fun j => by
      by_cases hj : j < len
      · obtain ⟨cs, h1, h2, h3⟩ := hel j hj
        match cs, h1 with
        | [u], _ =>
          obtain ⟨c, rfl⟩ := h3.u8 u5
          have := h2 0 (by omega)
          rw [Nat.mul_one, add_zero] at this
          exact ⟨c, fun _ => this⟩
      · exact ⟨0, fun h => absurd h hj⟩
    obtain ⟨f, hf⟩ := Classical.axiomOfChoice key
    refine ⟨(List.range len).map f, by simp [reachBytes] at hb ⊢; omega, by simp, (fun h => by cases h), fun p hp i v hv => ?_⟩
    cases hp
    have hi : i < len := by
      rcases Nat.lt_or_ge i len with h | h
      · exact h
      · rw [List.getElem?_eq_none (by simpa using h)] at hv; cases hv
    rw [List.getElem?_map, List.getElem?_map, List.getElem?_range hi] at hv
    cases hv
    exact all_cell _ (hf i hi)

end Go.Proofs.YthfpmipeejjogaaGreatDoor.Zt

/- The scripts of several changes, as they stand in memory. -/
namespace Go.Proofs.YthfpmipeejjogaaGreatDoor.Zt
open Go Go.Proofs.YthfpmipeejjogaaGreatDoor.SL Go.Proofs.YthfpmipeejjogaaGreatDoor.G Go.Proofs.YthfpmipeejjogaaGreatDoor.Pa
set_option linter.unusedSimpArgs false
set_option linter.unusedVariables false

theorem c82 : Tryz.prog.cellsOf 82 = 6 := by kernel_rfl
theorem b82 : Tryz.prog.bytesOf 82 = 64 := by kernel_rfl
theorem c72 : Tryz.prog.cellsOf 72 = 6 := by kernel_rfl
theorem c69 : Tryz.prog.cellsOf 69 = 2 := by kernel_rfl
theorem c70 : Tryz.prog.cellsOf 70 = 1 := by kernel_rfl
theorem u70 : Tryz.prog.underlying 70 = some (.slice 82) := by kernel_rfl
theorem u67 : Tryz.prog.underlying 67 = some (.slice 72) := by kernel_rfl
theorem u82 : ∃ fs, Tryz.prog.underlying 82 = some (.struct fs) ∧ fs.toList.map (fun f => (f.type, f.offset)) = [(3, 0), (9, 1), (30, 2), (3, 3), (4, 4), (4, 5)] := ⟨_, Tryz.underlying82, rfl⟩
theorem u69 : ∃ fs, Tryz.prog.underlying 69 = some (.struct fs) ∧ fs.toList.map (fun f => (f.type, f.offset)) = [(3, 0), (3, 1)] := ⟨_, Tryz.underlying69, rfl⟩
theorem u72 : ∃ fs, Tryz.prog.underlying 72 = some (.struct fs) ∧ fs.toList.map (fun f => (f.type, f.offset)) = [(9, 0), (3, 1), (69, 2), (70, 4), (4, 5)] := ⟨_, Tryz.underlying72, rfl⟩
theorem fld {W : World} {H : Type} {enc : TypeId × Value → H} {t : TypeId} {cs : List Value} {L : List (TypeId × Nat)} (h : Arg Tryz.prog W H enc t cs) (hu : ∃ fs, Tryz.prog.underlying t = some (.struct fs) ∧ fs.toList.map (fun f : Field => (f.type, f.offset)) = L) :
    cs.length = Tryz.prog.cellsOf t ∧ ∀ (i : Nat) (t' : TypeId) (o : Nat), L[i]? = some (t', o) → Arg Tryz.prog W H enc t' ((cs.drop o).take (Tryz.prog.cellsOf t')) := by
  obtain ⟨fs, hu, hfs⟩ := hu
  obtain ⟨hl, hel⟩ := h.struct hu
  refine ⟨hl, fun i t' o hi => ?_⟩
  rw [← hfs, List.getElem?_map] at hi
  obtain ⟨f, hf, e⟩ := Option.map_eq_some_iff.1 hi
  have := hel i f hf
  simp only [Prod.mk.injEq] at e
  rw [e.1, e.2] at this
  exact this
theorem isSl {W : World} {H : Type} {enc : TypeId × Value → H} {t e : TypeId} {v : Value} (hu : Tryz.prog.underlying t = some (.slice e)) (h : Arg Tryz.prog W H enc t [v]) : ∃ a len cap, v = .slice a len cap := by
  obtain ⟨fuel, d, ps, hf, _⟩ := h
  rcases Go.Deep.open_slice hu hf with ⟨e, _⟩ | ⟨x, l, c, _, _, _, _, e, _⟩
  · simp at e; exact ⟨_, _, _, e⟩
  · simp at e; exact ⟨_, _, _, e⟩
set_option maxRecDepth 100000 in
theorem mop_of {W : World} {H : Type} {enc : TypeId × Value → H} {cs : List Value} (h : Arg Tryz.prog W H enc 82 cs) :
    ∃ (o : MOp) (ds : Sl), cs = opV o ds ∧ o.data.length ≤ 140737488351232 ∧ SL.Read (all W) (fun _ => none) ds (o.data.map vU) := by
  obtain ⟨hl, get⟩ := fld h u82
  rw [c82] at hl
  match cs, hl with
  | [v0, v1, v2, v3, v4, v5], _ =>
    have a0 := get 0 _ _ rfl
    have a1 := get 1 _ _ rfl
    have a2 := get 2 _ _ rfl
    have a3 := get 3 _ _ rfl
    have a4 := get 4 _ _ rfl
    have a5 := get 5 _ _ rfl
    rw [c3] at a0 a3
    rw [c9] at a1
    rw [c30] at a2
    rw [c4] at a4 a5
    obtain ⟨x0, rfl⟩ := Arg.i64 u3' a0
    obtain ⟨x1, rfl⟩ := Arg.i64 u3' a3
    obtain ⟨s, rfl, _⟩ := Arg.str u9 a1
    obtain ⟨b, rfl⟩ := Arg.bool u4' a4
    obtain ⟨b2, rfl⟩ := Arg.bool u4' a5
    obtain ⟨a, len, cap, rfl⟩ := isSl u30 a2
    obtain ⟨d, h1, h2⟩ := bytes_of a2
    exact ⟨⟨x0, L s, d, x1, b, b2⟩, ⟨a, len, cap⟩, by simp [opV, Sl.v], h1, h2⟩
set_option maxRecDepth 100000 in
theorem mops_of {W : World} {H : Type} {enc : TypeId × Value → H} {a : Option Addr} {len cap : Nat} (h : Arg Tryz.prog W H enc 70 [.slice a len cap]) :
    ∃ os : List MOp, OpsR (all W) ⟨a, len, cap⟩ os ∧ os.length ≤ 2199023255488 := by
  rcases h.slice u70 with ⟨rfl, rfl, rfl⟩ | ⟨x, rfl, hl, hb, hel⟩
  · exact ⟨[], ⟨rfl, fun j o h => by cases h⟩, by decide⟩
  · rw [c82] at hel
    rw [b82] at hb
    have key : ∀ j : Nat, ∃ q : MOp × Sl, j < len → (∀ σ, cellsAt (all W) σ (x.add (j * 6)) 0 (opV q.1 q.2)) ∧ q.1.data.length ≤ 140737488351232 ∧ SL.Read (all W) (fun _ => none) q.2 (q.1.data.map vU) := fun j => by
      by_cases hj : j < len
      · obtain ⟨cs, h1, h2, h3⟩ := hel j hj
        obtain ⟨o, ds, rfl, h4, h5⟩ := mop_of h3
        refine ⟨(o, ds), fun _ => ⟨fun σ => cellsAt_of 0 fun i v hv => ?_, h4, h5⟩⟩
        have hi : i < 6 := by
          rcases Nat.lt_or_ge i 6 with h | h
          · exact h
          · rw [List.getElem?_eq_none (by simpa [opV] using h)] at hv; cases hv
        have := h2 i hi
        rw [hv] at this
        rw [Nat.zero_add]
        exact all_cell σ this
      · exact ⟨(⟨0, [], [], 0, false, false⟩, ⟨none, 0, 0⟩), fun h => absurd h hj⟩
    obtain ⟨f, hf⟩ := Classical.axiomOfChoice key
    refine ⟨(List.range len).map fun j => (f j).1, ⟨by simp, fun j o ho => ?_⟩, by simp [reachBytes] at hb ⊢; omega⟩
    have hj : j < len := by
      rcases Nat.lt_or_ge j len with h | h
      · exact h
      · rw [List.getElem?_eq_none (by simpa using h)] at ho; cases ho
    rw [List.getElem?_map, List.getElem?_range hj] at ho
    cases ho
    obtain ⟨h1, h2, h3⟩ := hf j hj
    exact ⟨x, (f j).2, rfl, h1, h3, h2⟩
set_option maxRecDepth 100000 in
theorem txn_of {W : World} {H : Type} {enc : TypeId × Value → H} {cs : List Value} (h : Arg Tryz.prog W H enc 72 cs) :
    ∃ (t : Txn) (os : Sl), cs = txV t os ∧ t.home.length ≤ reachBytes ∧ OpsR (all W) os t.ops ∧ t.ops.length ≤ 2199023255488 := by
  obtain ⟨hl, get⟩ := fld h u72
  rw [c72] at hl
  match cs, hl with
  | [v0, v1, v2, v3, v4, v5], _ =>
    have a0 := get 0 _ _ rfl
    have a1 := get 1 _ _ rfl
    have a2 := get 2 _ _ rfl
    have a3 := get 3 _ _ rfl
    have a4 := get 4 _ _ rfl
    rw [c9] at a0
    rw [c3] at a1
    rw [c69] at a2
    rw [c70] at a3
    rw [c4] at a4
    obtain ⟨s, rfl, hsl⟩ := Arg.str u9 a0
    obtain ⟨x1, rfl⟩ := Arg.i64 u3' a1
    obtain ⟨_, get2⟩ := fld a2 u69
    have q0 := get2 0 _ _ rfl
    have q1 := get2 1 _ _ rfl
    rw [c3] at q0 q1
    obtain ⟨y0, rfl⟩ := Arg.i64 u3' q0
    obtain ⟨y1, rfl⟩ := Arg.i64 u3' q1
    obtain ⟨a, len, cap, rfl⟩ := isSl u70 a3
    obtain ⟨b, rfl⟩ := Arg.bool u4' a4
    obtain ⟨os, h1, h2⟩ := mops_of a3
    exact ⟨⟨L s, x1, y0, y1, os, b⟩, ⟨a, len, cap⟩, by simp [txV, Sl.v], by simpa [L_len] using hsl, h1, h2⟩
theorem u25 : Tryz.prog.underlying 25 = some (.slice 9) := by kernel_rfl
theorem strings_of {W : World} {H : Type} {enc : TypeId × Value → H} {a : Option Addr} {len cap : Nat} (h : Arg Tryz.prog W H enc 25 [.slice a len cap]) : ∃ hs : List Str, hs.length = len ∧ (∀ x ∈ hs, x.length ≤ reachBytes) ∧ SL.Read (all W) (fun _ => none) ⟨a, len, cap⟩ (hs.map Pa.vS) := by
  rcases h.slice u25 with ⟨rfl, rfl, rfl⟩ | ⟨x, rfl, hl, hb, hel⟩
  · exact ⟨[], rfl, by simp, rfl, fun _ => rfl, fun p h => by cases h⟩
  · rw [c9] at hel
    have key : ∀ j : Nat, ∃ c : Str, j < len → W.cell? (x.add j) = some (Pa.vS c) ∧ c.length ≤ reachBytes := fun j => by
      by_cases hj : j < len
      · obtain ⟨cs, h1, h2, h3⟩ := hel j hj
        match cs, h1 with
        | [u], _ =>
          obtain ⟨c, rfl, hc⟩ := Arg.str u9 h3
          have := h2 0 (by omega)
          rw [Nat.mul_one, add_zero] at this
          exact ⟨L c, fun _ => ⟨by rw [this]; simp [Pa.vS], by rw [L_len]; exact hc⟩⟩
      · exact ⟨[], fun h => absurd h hj⟩
    obtain ⟨f, hf⟩ := Classical.axiomOfChoice key
    refine ⟨(List.range len).map f, by simp, fun y hy => ?_, by simp, (fun h => by cases h), fun p hp i v hv => ?_⟩
    · obtain ⟨j, hj, rfl⟩ := List.mem_map.1 hy
      exact (hf j (List.mem_range.1 hj)).2
    · cases hp
      have hi : i < len := by
        rcases Nat.lt_or_ge i len with h | h
        · exact h
        · rw [List.getElem?_eq_none (by simpa using h)] at hv; cases hv
      rw [List.getElem?_map, List.getElem?_map, List.getElem?_range hi] at hv
      cases hv
      exact all_cell _ (hf i hi).1
set_option maxRecDepth 100000 in
theorem txns_of {W : World} {H : Type} {enc : TypeId × Value → H} {a : Option Addr} {len cap : Nat} (h : Arg Tryz.prog W H enc 67 [.slice a len cap]) :
    ∃ ts : List Txn, TxsR (all W) ⟨a, len, cap⟩ ts := by
  rcases h.slice u67 with ⟨rfl, rfl, rfl⟩ | ⟨x, rfl, hl, hb, hel⟩
  · exact ⟨[], ⟨rfl, fun j o h => by cases h⟩⟩
  · rw [c72] at hel
    have key : ∀ j : Nat, ∃ q : Txn × Sl, j < len → (∀ σ, cellsAt (all W) σ (x.add (j * 6)) 0 (txV q.1 q.2)) ∧ q.1.home.length ≤ reachBytes ∧ OpsR (all W) q.2 q.1.ops ∧ q.1.ops.length ≤ 2199023255488 := fun j => by
      by_cases hj : j < len
      · obtain ⟨cs, h1, h2, h3⟩ := hel j hj
        obtain ⟨o, ds, rfl, h4, h5⟩ := txn_of h3
        refine ⟨(o, ds), fun _ => ⟨fun σ => cellsAt_of 0 fun i v hv => ?_, h4, h5⟩⟩
        have hi : i < 6 := by
          rcases Nat.lt_or_ge i 6 with h | h
          · exact h
          · rw [List.getElem?_eq_none (by simpa [txV] using h)] at hv; cases hv
        have := h2 i hi
        rw [hv] at this
        rw [Nat.zero_add]
        exact all_cell σ this
      · exact ⟨(⟨[], 0, 0, 0, [], false⟩, ⟨none, 0, 0⟩), fun h => absurd h hj⟩
    obtain ⟨f, hf⟩ := Classical.axiomOfChoice key
    refine ⟨(List.range len).map fun j => (f j).1, ⟨by simp, fun j o ho => ?_⟩⟩
    have hj : j < len := by
      rcases Nat.lt_or_ge j len with h | h
      · exact h
      · rw [List.getElem?_eq_none (by simpa using h)] at ho; cases ho
    rw [List.getElem?_map, List.getElem?_range hj] at ho
    cases ho
    obtain ⟨h1, h2, h3, h4⟩ := hf j hj
    exact ⟨x, (f j).2, rfl, h1, h2, h3, h4⟩
theorem c25 : Tryz.prog.cellsOf 25 = 1 := by kernel_rfl
theorem c67 : Tryz.prog.cellsOf 67 = 1 := by kernel_rfl
end Go.Proofs.YthfpmipeejjogaaGreatDoor.Zt

/- How long the slices within a struct are. -/
namespace Go.Proofs.YthfpmipeejjogaaGreatDoor.SL
open Go
theorem upto_field {H : Type} {enc : TypeId × Value → H} {P : Program} {W : World} {t : TypeId} {fs : Array Field} {cs : List Value} {fuel n : Nat} {d : DataW H} {ps : List MemPlace} (ht : P.underlying t = some (.struct fs))
    (hf : DataW.trod enc P W 0 (fun _ => true) true fuel t cs = some (d, ps)) (hb : Rows.uptoBulk d ≤ n) {i : Nat} {f : Field} (hi : fs.toList[i]? = some f) :
    ∃ fuel' d' ps', DataW.trod enc P W 0 (fun _ => true) true fuel' f.type ((cs.drop f.offset).take (P.cellsOf f.type)) = some (d', ps') ∧ Rows.uptoBulk d' ≤ n := by
  cases fuel with
  | zero => cases hf
  | succ m =>
    unfold DataW.trod at hf
    rw [ht] at hf
    simp only at hf
    split at hf
    · obtain ⟨r, hr, hd⟩ := Option.map_eq_some_iff.1 hf
      have h1 := mapM_some_get hr i f hi
      have h2 := mapM_some_length hr
      have hil : i < fs.toList.length := by
        rcases Nat.lt_or_ge i fs.toList.length with h' | h'
        · exact h'
        · rw [List.getElem?_eq_none h'] at hi; cases hi
      rw [List.getElem?_eq_getElem (by omega)] at h1
      simp only [Prod.mk.injEq] at hd
      rw [← hd.1] at hb
      simp only [Rows.uptoBulk] at hb
      have := bulkAll_get (l := r.map (·.1)) (i := i) (d := r[i].1) (by rw [List.getElem?_map, List.getElem?_eq_getElem (by omega)]; rfl)
      exact ⟨m, r[i].1, r[i].2, h1, by omega⟩
    · cases hf
end Go.Proofs.YthfpmipeejjogaaGreatDoor.SL
namespace Go.Proofs.YthfpmipeejjogaaGreatDoor.Zt
open Go Go.Proofs.YthfpmipeejjogaaGreatDoor.SL Go.Proofs.YthfpmipeejjogaaGreatDoor.G Go.Proofs.YthfpmipeejjogaaGreatDoor.Pa
theorem upto_fld {H : Type} {enc : TypeId × Value → H} {W : World} {t e t' : TypeId} {o : Nat} {L : List (TypeId × Nat)} {cs : List Value} {fuel n i : Nat} {d : DataW H} {ps : List MemPlace} {s : Sl} (hu : ∃ fs, Tryz.prog.underlying t = some (.struct fs) ∧ fs.toList.map (fun f : Field => (f.type, f.offset)) = L)
    (hf : DataW.trod enc Tryz.prog W 0 (fun _ => true) true fuel t cs = some (d, ps)) (hb : Rows.uptoBulk d ≤ n) (hi : L[i]? = some (t', o)) (ht : Tryz.prog.underlying t' = some (.slice e)) (hcs : (cs.drop o).take (Tryz.prog.cellsOf t') = [Sl.v s]) : s.len ≤ n := by
  obtain ⟨fs, hu, hfs⟩ := hu
  rw [← hfs, List.getElem?_map] at hi
  obtain ⟨f, hf', e⟩ := Option.map_eq_some_iff.1 hi
  simp only [Prod.mk.injEq] at e
  obtain ⟨m, d', ps', h1, h2⟩ := upto_field hu hf hb hf'
  rw [e.1, e.2, hcs] at h1
  exact upto_len ht h1 h2
end Go.Proofs.YthfpmipeejjogaaGreatDoor.Zt

/- The tree and the document's tree are alike: sizes, owners, bytes. -/
namespace Go.Proofs.YthfpmipeejjogaaGreatDoor.Zt
open Go Go.Proofs.YthfpmipeejjogaaGreatDoor.SL Go.Proofs.YthfpmipeejjogaaGreatDoor.G Go.Proofs.YthfpmipeejjogaaGreatDoor.Pa Go.Proofs.YthfpmipeejjogaaGreatDoor.Wi
set_option linter.unusedSimpArgs false
set_option linter.unusedVariables false
variable {B : World} {ro σ σ' : AH} {tag tag' : Nat → Nat}

theorem RowW.del {r r' : Nat} {e : TypeId} {w : Nat} {s : Sl} {l : List (List Value)} {b : Nat} (h : RowW tag σ r e w s l) (hb : tag b = r') (hr : r ≠ r') : RowW tag (SL.del σ b) r e w s l := by
  rcases h with h | ⟨c, cs, ha, ht, hs, hx⟩
  · exact .inl h
  · refine .inr ⟨c, cs, ha, ht, ?_, hx⟩
    have : c ≠ b := fun e => hr (by rw [← ht, e, hb])
    unfold SL.del; rw [if_neg this]; exact hs
end Go.Proofs.YthfpmipeejjogaaGreatDoor.Zt

/- The document's reader. -/
namespace Go.Proofs.YthfpmipeejjogaaGreatDoor.Zt
open Go Go.Proofs.YthfpmipeejjogaaGreatDoor.SL Go.Proofs.YthfpmipeejjogaaGreatDoor.G Go.Proofs.YthfpmipeejjogaaGreatDoor.Pa Go.Proofs.YthfpmipeejjogaaGreatDoor.Wi
set_option linter.unusedSimpArgs false
set_option linter.unusedVariables false
set_option maxRecDepth 100000
variable {B : World} {ro σ σ' : AH} {tag tag' : Nat → Nat}

/-- a reader of the document: its block, the bytes (read only), what is left and the error -/
def RdIs (tag : Nat → Nat) (σ : AH) (q X : Nat) (s : Sl) (l : Str) (rd : Rd) : Prop := ∃ p : Nat, p ≤ l.length ∧ rd.rest = l.drop p ∧ Row tag σ q 154 ⟨some ⟨X, 0, none⟩, 3, 3⟩ [Sl.v s, .int .i64 (p : Int), .int .i64 rd.err]
end Go.Proofs.YthfpmipeejjogaaGreatDoor.Zt

/- The document's reader: Blob. -/
namespace Go.Proofs.YthfpmipeejjogaaGreatDoor.SL
open Go
variable {ro σ σ' : AH} {tag tag' : Nat → Nat}
theorem addr_add (a : Addr) (p i : Nat) : (a.add p).add i = a.add (p + i) := by
  unfold Addr.add
  by_cases hp : p = 0
  · subst hp; simp
  · by_cases hi : i = 0
    · subst hi; simp [hp]
    · simp [hp, hi, Nat.add_assoc]
theorem Read.cut {s : Sl} {l : List Value} {p n : Nat} (h : Read ro σ s l) (hc : s.len ≤ s.cap) (hn : p + n ≤ l.length) : Read ro σ ⟨cutA s.a p s.cap 1, p + n - p, s.cap - p⟩ ((l.drop p).take n) := by
  have hl := h.1
  refine ⟨by simp; omega, fun ha => ?_, fun a ha i v hv => ?_⟩
  · unfold cutA at ha
    split at ha
    · rename_i e
      have : n = 0 := by omega
      subst this; simp
    · cases hs : s.a with
      | none => rw [h.2.1 hs] at hn ⊢; simp
      | some x => rw [hs] at ha; simp at ha
  · rw [List.getElem?_take] at hv
    split at hv
    · rename_i hin
      rw [List.getElem?_drop] at hv
      unfold cutA at ha
      split at ha
      · omega
      · cases hs : s.a with
        | none => rw [hs] at ha; cases ha
        | some x =>
          rw [hs] at ha
          simp only [Option.map_some, Nat.mul_one] at ha
          cases ha
          rw [addr_add]
          exact h.2.2 x hs (p + i) v hv
    · cases hv
end Go.Proofs.YthfpmipeejjogaaGreatDoor.SL
namespace Go.Proofs.YthfpmipeejjogaaGreatDoor.Zt
open Go Go.Proofs.YthfpmipeejjogaaGreatDoor.SL Go.Proofs.YthfpmipeejjogaaGreatDoor.G Go.Proofs.YthfpmipeejjogaaGreatDoor.Pa Go.Proofs.YthfpmipeejjogaaGreatDoor.Wi
set_option linter.unusedSimpArgs false
set_option linter.unusedVariables false
set_option maxRecDepth 100000
variable {B : World} {ro σ σ' : AH} {tag tag' : Nat → Nat}
end Go.Proofs.YthfpmipeejjogaaGreatDoor.Zt

/- What bytes tell is a tree: the pure invariant of dec. -/
namespace Go.Proofs.YthfpmipeejjogaaGreatDoor.Zt
open Go Go.Proofs.YthfpmipeejjogaaGreatDoor.SL Go.Proofs.YthfpmipeejjogaaGreatDoor.G Go.Proofs.YthfpmipeejjogaaGreatDoor.Pa Go.Proofs.YthfpmipeejjogaaGreatDoor.Wi
set_option linter.unusedSimpArgs false
set_option linter.unusedVariables false

/-- behind each node that is laid -/
structure Laid (a : St) (last : Str) : Prop where
  srt : Srt a
  top : ∀ p ∈ a, p.1 ≤ last
  path : ∀ p ∈ a, ∃ ps, parts p.1 = some ps
  up : ∀ k n, a.lookup k = some n → k ≠ [47] → ∃ u m, parent k = some u ∧ a.lookup u = some m ∧ m.own = 0
  kids : ∀ k n, a.lookup k = some n → n.kids = (kc (a.map (·.1)) k : Nat)
  data : ∀ k n, a.lookup k = some n → n.data.length ≤ 256
  nums : ∀ k n, a.lookup k = some n → numsOk n = true ∧ (n.own ≠ 0 → n.ctr = 0) ∧ n.ctr ≤ 10000000000
  rt : ∀ n, a.lookup [47] = some n → n.data = [] ∧ n.ver = 0 ∧ n.own = 0
  root : last ≠ [] → ∃ n, a.lookup [47] = some n
theorem Laid.inv3 {a : St} {last : Str} (h : Laid a last) (hl : last ≠ []) (hk : a.all (fun p => decide (p.2.kids ≤ p.2.ctr)) = true) : Inv3 a := by
  have hn := h.srt.nodup
  refine ⟨⟨hn, h.root hl, fun k n hk' => ?_, h.up, h.kids, fun k n hk' => ?_, h.data⟩, fun k n hk' => ⟨(h.nums k n hk').1, (h.nums k n hk').2.1⟩, h.rt⟩
  · exact h.path _ ((lookup_iff hn).1 hk')
  · have := List.all_eq_true.1 hk _ ((lookup_iff hn).1 hk')
    exact ⟨by simpa using this, (h.nums k n hk').2.2⟩
end Go.Proofs.YthfpmipeejjogaaGreatDoor.Zt

/- The document's list of nodes: a list that is made anew takes the tree's place. -/
namespace Go.Proofs.YthfpmipeejjogaaGreatDoor.Zt
open Go Go.Proofs.YthfpmipeejjogaaGreatDoor.SL Go.Proofs.YthfpmipeejjogaaGreatDoor.G Go.Proofs.YthfpmipeejjogaaGreatDoor.Pa Go.Proofs.YthfpmipeejjogaaGreatDoor.Wi
set_option linter.unusedSimpArgs false
set_option linter.unusedVariables false
set_option maxRecDepth 100000
variable {B : World} {ro σ σ' : AH} {tag tag' : Nat → Nat}

/-- a list of nodes that is being made: a row of role 139 (class 11), data in rows of data -/
def OutAt (tag : Nat → Nat) (σ : AH) (s : Sl) (L : St) : Prop := ∃ ds : List Sl, ds.length = L.length ∧ RowW tag σ 139 159 5 s (List.zipWith nodeV L ds) ∧ ∀ (i : Nat) (p : Str × Nd) (d : Sl), L[i]? = some p → ds[i]? = some d → Row tag σ 6 5 d (p.2.data.map vU)
theorem OutAt.nil : OutAt tag σ ⟨none, 0, 0⟩ [] := ⟨[], rfl, RowW.nil _ _ _, fun i p d h => by cases h⟩
theorem OutAt.keep {R : List Nat} {s : Sl} {L : St} (h : OutAt tag σ s L) (k : Step R ro tag σ tag' σ') (h1 : 139 ∉ R) (h6 : 6 ∉ R) : OutAt tag' σ' s L := by
  obtain ⟨ds, a, b, c⟩ := h
  exact ⟨ds, a, RowW.keep b k h1, fun i p d hp hd => (c i p d hp hd).keep k h6⟩
theorem OutAt.keepS {C : List Nat} {s : Sl} {L : St} (h : OutAt tag σ s L) (k : StepS C ro tag σ tag' σ') (h1 : 11 ∉ C) (h6 : 6 ∉ C) : OutAt tag' σ' s L := by
  obtain ⟨R, hR, k⟩ := k
  exact h.keep k (fun m => h1 (hR _ m)) fun m => h6 (hR _ m)
theorem RefIs.keep {R : List Nat} {r T : Nat} {l : St} (h : RefIs tag σ r T l) (k : Step R ro tag σ tag' σ') (h1 : r ∉ R) (h2 : r + 64 ∉ R) (h6 : 6 ∉ R) : RefIs tag' σ' r T l := by
  obtain ⟨s, ds, g1, g2, g3, g4⟩ := h
  exact ⟨s, ds, g1, g2.keep k h1, RowW.keep g3 k h2, fun i p d hp hd => (g4 i p d hp hd).keep k h6⟩
/-- no role of a list that is being made -/
def tag0 (tag : Nat → Nat) : Nat → Nat := fun c => if tag c = 139 then 203 else tag c
theorem RefIs.tag0 {T : Nat} {l : St} (h : RefIs tag σ 11 T l) : RefIs (Zt.tag0 tag) σ 11 T l := by
  have k : ∀ c q, q ≠ 139 → tag c = q → Zt.tag0 tag c = q := fun c q h1 h2 => by unfold Zt.tag0; rw [if_neg (by omega)]; exact h2
  obtain ⟨s, ds, g1, g2, g3, g4⟩ := h
  exact ⟨s, ds, g1, Row.retag g2 fun c hc _ => k c _ (by decide) hc, RowW.retag g3 fun c hc _ => k c _ (by decide) hc, fun i p d hp hd => Row.retag (g4 i p d hp hd) fun c hc _ => k c _ (by decide) hc⟩
theorem Row.tag0 {r : Nat} {e : TypeId} {s : Sl} {l : List Value} (h : Row tag σ r e s l) (hr : r ≠ 139) : Row (Zt.tag0 tag) σ r e s l :=
  Row.retag h fun c hc _ => by unfold Zt.tag0; rw [if_neg (by omega)]; exact hc
theorem RefIs.row {r T j : Nat} {l : St} {p : Str × Nd} (h : RefIs tag σ r T l) (hs : SL.Sep ro σ) (hj : l[j]? = some p) : ∃ (s : Sl) (b : Nat) (d : Sl), acell ro σ ⟨T, 0, none⟩ = some (Sl.v s) ∧ s.len = l.length ∧ s.a = some ⟨b, 0, none⟩ ∧
    (∀ i v, (nodeV p d)[i]? = some v → acell ro σ (((⟨b, 0, none⟩ : Addr).add (Int.toNat (j : Int) * 5)).add i) = some v) ∧ Row tag σ 6 5 d (p.2.data.map vU) := by
  obtain ⟨s, ds, g1, g2, g3, g4⟩ := h
  have hjl : j < l.length := by
    rcases Nat.lt_or_ge j l.length with h | h
    · exact h
    · rw [List.getElem?_eq_none h] at hj; cases hj
  have hd : ds[j]? = some ds[j] := List.getElem?_eq_getElem (by omega)
  obtain ⟨b, ha, _, hcell⟩ := RowW.get g3 hs (j := j) (x := nodeV p ds[j]) (by rw [List.getElem?_zipWith, hj, hd])
  have hln := g3.len
  rw [List.length_zipWith, g1, Nat.min_self] at hln
  exact ⟨s, b, ds[j], Row.cell1 g2 hs, hln, ha, fun i v hv => by rw [Int.toNat_natCast, add_add, add_add, Nat.zero_add]; exact hcell i v hv, g4 j p _ hj hd⟩
end Go.Proofs.YthfpmipeejjogaaGreatDoor.Zt

/- The document's New, Delete, Set. -/
namespace Go.Proofs.YthfpmipeejjogaaGreatDoor.SL
open Go
variable {ro σ σ' : AH} {tag tag' : Nat → Nat}
theorem ReadW.cut {w lo n c : Nat} {s : Sl} {L : List (List Value)} (h : ReadW ro σ w s L) (hc : s.len ≤ s.cap) (hn : lo + n ≤ L.length) : ReadW ro σ w ⟨cutA s.a lo s.cap w, n, c⟩ ((L.drop lo).take n) := by
  obtain ⟨h1, h2, h3, h4⟩ := h
  refine ⟨by simp; omega, fun ha => ?_, fun x hx => h3 x (List.mem_of_mem_drop (List.mem_of_mem_take hx)), fun p hp i v hv => ?_⟩
  · unfold cutA at ha
    split at ha
    · have : L = [] := h2 ha
      rw [this]; simp
    · cases e : s.a with
      | none => rw [h2 e]; simp
      | some x => rw [e] at ha; cases ha
  · unfold cutA at hp
    split at hp
    · have : n = 0 := by omega
      subst this
      cases hv
    · cases e : s.a with
      | none => rw [e] at hp; cases hp
      | some x =>
        rw [e] at hp
        simp only [Option.map_some, Option.some.injEq] at hp
        subst hp
        rw [addr_add]
        refine h4 x e _ v ?_
        have k1 : L.flatten = (L.take lo).flatten ++ (((L.drop lo).take n).flatten ++ ((L.drop lo).drop n).flatten) := by
          rw [← List.flatten_append, List.take_append_drop, ← List.flatten_append, List.take_append_drop]
        have k2 : (L.take lo).flatten.length = lo * w := by
          rw [flat_len (w := w) fun x hx => h3 x (List.mem_of_mem_take hx), List.length_take, Nat.min_eq_left (by omega)]
        have hi : i < ((L.drop lo).take n).flatten.length := by
          rcases Nat.lt_or_ge i ((L.drop lo).take n).flatten.length with h | h
          · exact h
          · rw [List.getElem?_eq_none h] at hv; cases hv
        rw [k1, List.getElem?_append_right (by omega), k2, Nat.add_sub_cancel_left, List.getElem?_append_left hi]
        exact hv
theorem RowW.del {r r' : Nat} {e : TypeId} {w : Nat} {s : Sl} {l : List (List Value)} {b : Nat} (h : RowW tag σ r e w s l) (hb : tag b = r') (hr : r ≠ r') : RowW tag (SL.del σ b) r e w s l := by
  rcases h with h | ⟨c, cs, ha, ht, hs, hx⟩
  · exact .inl h
  · refine .inr ⟨c, cs, ha, ht, ?_, hx⟩
    have : c ≠ b := fun e => hr (by rw [← ht, e, hb])
    unfold SL.del; rw [if_neg this]; exact hs
end Go.Proofs.YthfpmipeejjogaaGreatDoor.SL
namespace Go.Proofs.YthfpmipeejjogaaGreatDoor.Zt
open Go Go.Proofs.YthfpmipeejjogaaGreatDoor.SL Go.Proofs.YthfpmipeejjogaaGreatDoor.G Go.Proofs.YthfpmipeejjogaaGreatDoor.Pa Go.Proofs.YthfpmipeejjogaaGreatDoor.Wi
set_option linter.unusedSimpArgs false
set_option linter.unusedVariables false
set_option maxRecDepth 100000
variable {B : World} {ro σ σ' : AH} {tag tag' : Nat → Nat}

end Go.Proofs.YthfpmipeejjogaaGreatDoor.Zt

/- The document's Set; the document's tree beside a block that is lent. -/
namespace Go.Proofs.YthfpmipeejjogaaGreatDoor.Zt
open Go Go.Proofs.YthfpmipeejjogaaGreatDoor.SL Go.Proofs.YthfpmipeejjogaaGreatDoor.G Go.Proofs.YthfpmipeejjogaaGreatDoor.Pa Go.Proofs.YthfpmipeejjogaaGreatDoor.Wi
set_option linter.unusedSimpArgs false
set_option linter.unusedVariables false
set_option maxRecDepth 100000
variable {B : World} {ro σ σ' : AH} {tag tag' : Nat → Nat}

theorem RefIs.del {r T b q : Nat} {l : St} (h : RefIs tag σ r T l) (hb : tag b = q) (h1 : r ≠ q) (h2 : r + 64 ≠ q) (h6 : 6 ≠ q) : RefIs tag (SL.del σ b) r T l := by
  obtain ⟨s, ds, g1, g2, g3, g4⟩ := h
  exact ⟨s, ds, g1, g2.del hb h1, RowW.del g3 hb h2, fun i p d hp hd => (g4 i p d hp hd).del hb h6⟩
theorem RefIs.back {r T b q : Nat} {l : St} {τ : AH} (h : RefIs tag' τ r T l) (hd : Disj (SL.one σ b) τ) (hb : ∃ o, σ b = some o) : RefIs (setTag tag' b q) (join (SL.one σ b) τ) r T l := by
  obtain ⟨s, ds, g1, g2, g3, g4⟩ := h
  exact ⟨s, ds, g1, g2.back hd hb, RowW.back g3 hd hb, fun i p d hp hd' => (g4 i p d hp hd').back hd hb⟩
end Go.Proofs.YthfpmipeejjogaaGreatDoor.Zt

/- The document's tree off bytes: Decode. -/
namespace Go.Proofs.YthfpmipeejjogaaGreatDoor.Zt
open Go Go.Proofs.YthfpmipeejjogaaGreatDoor.SL Go.Proofs.YthfpmipeejjogaaGreatDoor.G Go.Proofs.YthfpmipeejjogaaGreatDoor.Pa Go.Proofs.YthfpmipeejjogaaGreatDoor.Wi
set_option linter.unusedSimpArgs false
set_option linter.unusedVariables false
set_option maxRecDepth 100000
variable {B : World} {ro σ σ' : AH} {tag tag' : Nat → Nat}

theorem RdIs.keep {q X : Nat} {s : Sl} {l : Str} {rd : Rd} {R : List Nat} (h : RdIs tag σ q X s l rd) (k : Step R ro tag σ tag' σ') (hq : q ∉ R) : RdIs tag' σ' q X s l rd := by
  obtain ⟨p, h1, h2, h3⟩ := h
  exact ⟨p, h1, h2, h3.keep k hq⟩
theorem RdIs.err {q X : Nat} {s : Sl} {l : Str} {rd : Rd} (h : RdIs tag σ q X s l rd) (hs : SL.Sep ro σ) : acell ro σ ((⟨X, 0, none⟩ : Addr).add 2) = some (.int .i64 rd.err) := by
  obtain ⟨p, h1, h2, h3⟩ := h
  obtain ⟨pp, hpp, hg⟩ := h3.ptr hs (by simp)
  cases hpp
  exact hg 2 _ rfl
end Go.Proofs.YthfpmipeejjogaaGreatDoor.Zt

/- A slice of ints among the arguments. -/
namespace Go.Proofs.YthfpmipeejjogaaGreatDoor.Zt
open Go Go.Proofs.YthfpmipeejjogaaGreatDoor.SL Go.Proofs.YthfpmipeejjogaaGreatDoor.G Go.Proofs.YthfpmipeejjogaaGreatDoor.Pa
set_option linter.unusedSimpArgs false
set_option linter.unusedVariables false
theorem u58' : Tryz.prog.underlying 58 = some (.slice 3) := by kernel_rfl
theorem ints_of {W : World} {H : Type} {enc : TypeId × Value → H} {a : Option Addr} {len cap : Nat} (h : Arg Tryz.prog W H enc 58 [.slice a len cap]) : ∃ ws : List Int, ws.length = len ∧ SL.Read (all W) (fun _ => none) ⟨a, len, cap⟩ (ws.map vI) := by
  rcases h.slice u58' with ⟨rfl, rfl, rfl⟩ | ⟨x, rfl, hl, hb, hel⟩
  · exact ⟨[], rfl, rfl, fun _ => rfl, fun p h => by cases h⟩
  · rw [c3] at hel
    have key : ∀ j : Nat, ∃ c : Int, j < len → W.cell? (x.add j) = some (vI c) := fun j => by
      by_cases hj : j < len
      · obtain ⟨cs, h1, h2, h3⟩ := hel j hj
        match cs, h1 with
        | [u], _ =>
          obtain ⟨c, rfl⟩ := Arg.i64 u3' h3
          have := h2 0 (by omega)
          rw [Nat.mul_one, add_zero] at this
          exact ⟨c, fun _ => this⟩
      · exact ⟨0, fun h => absurd h hj⟩
    obtain ⟨f, hf⟩ := Classical.axiomOfChoice key
    refine ⟨(List.range len).map f, by simp, by simp, (fun h => by cases h), fun p hp i v hv => ?_⟩
    cases hp
    have hi : i < len := by
      rcases Nat.lt_or_ge i len with h | h
      · exact h
      · rw [List.getElem?_eq_none (by simpa using h)] at hv; cases hv
    rw [List.getElem?_map, List.getElem?_map, List.getElem?_range hi] at hv
    cases hv
    exact all_cell _ (hf i hi)
end Go.Proofs.YthfpmipeejjogaaGreatDoor.Zt

/- The argument of MultiSweeps opened. -/
namespace Go.Proofs.YthfpmipeejjogaaGreatDoor.Zt
open Go Go.Proofs.YthfpmipeejjogaaGreatDoor.SL Go.Proofs.YthfpmipeejjogaaGreatDoor.G Go.Proofs.YthfpmipeejjogaaGreatDoor.Pa
set_option linter.unusedSimpArgs false
set_option linter.unusedVariables false

theorem c105 : Tryz.prog.cellsOf 105 = 4 := by kernel_rfl
theorem c58' : Tryz.prog.cellsOf 58 = 1 := by kernel_rfl
theorem u105 : ∃ fs, Tryz.prog.underlying 105 = some (.struct fs) ∧ fs.toList.map (fun f => (f.type, f.offset)) = [(25, 0), (67, 1), (9, 2), (58, 3)] := ⟨_, Tryz.underlying105, rfl⟩
set_option maxRecDepth 100000 in
theorem broom_of {W : World} {H : Type} {enc : TypeId × Value → H} {cs : List Value} (h : Arg Tryz.prog W H enc 105 cs) :
    ∃ (s0 s1 s3 : Sl) (home : Str), cs = [Sl.v s0, Sl.v s1, .string (S home), Sl.v s3] ∧ Arg Tryz.prog W H enc 25 [Sl.v s0] ∧ Arg Tryz.prog W H enc 67 [Sl.v s1] ∧ Arg Tryz.prog W H enc 58 [Sl.v s3] := by
  obtain ⟨hl, get⟩ := fld h u105
  rw [c105] at hl
  match cs, hl with
  | [v0, v1, v2, v3], _ =>
    have a0 := get 0 _ _ rfl
    have a1 := get 1 _ _ rfl
    have a2 := get 2 _ _ rfl
    have a3 := get 3 _ _ rfl
    rw [c25] at a0
    rw [c67] at a1
    rw [c9] at a2
    rw [c58'] at a3
    obtain ⟨b0, l0, p0, rfl⟩ := isSl u25 a0
    obtain ⟨b1, l1, p1, rfl⟩ := isSl u67 a1
    obtain ⟨s, rfl, _⟩ := Arg.str u9 a2
    obtain ⟨b3, l3, p3, rfl⟩ := isSl u58' a3
    exact ⟨⟨b0, l0, p0⟩, ⟨b1, l1, p1⟩, ⟨b3, l3, p3⟩, L s, by rw [S_L]; rfl, a0, a1, a3⟩
end Go.Proofs.YthfpmipeejjogaaGreatDoor.Zt
