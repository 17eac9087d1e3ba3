/- RfF, SwA, SwB, R8E, MpB, MpC, MpD, MpE, MpF, PuB, MpG -/
import Derived.Test.YthfpmipeejjogaaGreatDoorXN
set_option maxRecDepth 100000
set_option maxHeartbeats 4000000
set_option linter.unusedVariables false
set_option linter.unusedSimpArgs false
open Go.IntKind (i64)
open Go.Proofs.Tryz
namespace Go.Proofs.YthfpmipeejjogaaGreatDoor
namespace SL
open Go
variable {B : World} {ro σ σ' : AH} {tag tag' : Nat → Nat}
def prn (σ0 σ : AH) : AH := fun b => match σ b with
 | some o => if o.isCells = true ∨ (σ0 b).isSome = true then some o else none
 | none => none
theorem prn_le (σ0 σ : AH) : HLe (prn σ0 σ) σ := fun b o h => by
 unfold prn at h
 split at h
 ·rename_i x e
  split at h
  ·cases h; exact e
  ·cases h
 ·cases h
theorem prn_cells {σ0 : AH} {b : Nat} {c : Array Value} {e : TypeId} {fz : Nat × Nat} (h : σ b = some (.cells c e fz)) : prn σ0 σ b = some (.cells c e fz) := by
 unfold prn; rw [h]; simp [Obj.isCells]
theorem prn_old {σ0 : AH} {b : Nat} {o o0 : Obj} (h0 : σ0 b = some o0) (h : σ b = some o) : prn σ0 σ b = some o := by
 unfold prn; rw [h, h0]; simp
theorem prn_nc {σ0 : AH} {b : Nat} {o : Obj} (h : prn σ0 σ b = some o) (hc : o.isCells = false) : ∃ o', σ0 b = some o' := by
 unfold prn at h
 split at h
 ·split at h
  ·rename_i hx
   cases h
   rw [hc] at hx
   rcases hx with hx | hx
   ·cases hx
   ·exact Option.isSome_iff_exists.1 hx
  ·cases h
 ·cases h
theorem Row.prn {σ0 : AH} {r : Nat} {e : TypeId} {s : Sl} {l : List Value} (h : Row tag σ r e s l) : Row tag (prn σ0 σ) r e s l := by
 rcases h with h | ⟨b, cs, ha, ht, hs, hx⟩
 ·exact .inl h
 ·exact .inr ⟨b, cs, ha, ht, prn_cells hs, hx⟩
theorem RowW.prn {σ0 : AH} {r w : Nat} {e : TypeId} {s : Sl} {l : List (List Value)} (h : RowW tag σ r e w s l) : RowW tag (prn σ0 σ) r e w s l := by
 rcases h with h | ⟨b, cs, ha, ht, hs, hx⟩
 ·exact .inl h
 ·exact .inr ⟨b, cs, ha, ht, prn_cells hs, hx⟩
theorem StepS.prn {C : List Nat} (h : StepS C ro tag σ tag' σ') : StepS C ro tag σ tag' (prn σ σ') := by
 obtain ⟨R, h1, h2⟩ := h
 refine ⟨R, h1, fun b o hb hn => ?_, fun b o hb => ?_, fun b o hb => h2.sep b o (prn_le _ _ b o hb)⟩
 ·obtain ⟨t, e⟩ := h2.keep b o hb hn
  exact ⟨t, prn_old hb e⟩
 ·obtain ⟨t, o', e⟩ := h2.old b o hb
  exact ⟨t, o', prn_old hb e⟩
end SL
namespace Zt
open Go SL G Pa
variable {B : World} {ro σ σ' : AH} {tag tag' : Nat → Nat}
theorem TreeAt.prn {σ0 : AH} {r T M : Nat} {bs : List Nat} {st : St} {o0 : Obj} (h : TreeAt tag σ r T M bs st) (h0 : σ0 M = some o0) : TreeAt tag (SL.prn σ0 σ) r T M bs st := by
 refine ⟨h.keys, h.len, h.nd, h.cell.prn, ?_, fun i b p hb hp => ?_⟩
 ·obtain ⟨es, c, hb, hx⟩ := h.map.obj
  exact ⟨h.map.tg, es, c, prn_old h0 hb, hx⟩
 ·obtain ⟨s, h1, h2⟩ := h.nodes i b p hb hp
  exact ⟨s, h1.prn, h2.prn⟩
def swept (home : Str) (a : St × List Str) (p : Str) : St × List Str :=
 if (homeOf p).getD [] = home ∧ (remove a.1 p (-1)).2 = 0 then ((remove a.1 p (-1)).1, a.2 ++ [p]) else a
def ownedK (st : St) (ws : List Int) : List Str := (((srt st).map (·.1)).filter fun k => isOwned st ws k).reverse
def sweepE (st : St) (home : Str) (ws : List Int) : St × List Str := (ownedK st ws).foldl (swept home) (st, [])
def effD (p : Str) : List Value := effV (2, p)
theorem swept_inv {home : Str} {a : St × List Str} {p : Str} {b : Nat} (h : InvB b a.1) (hb : b ≤ 4398046511103) : InvB (b + 1) (swept home a p).1 := by
 unfold swept
 split
 ·exact invB_remove h hb
 ·exact h.mono (by omega)
theorem swept_len {home : Str} {a : St × List Str} {p : Str} : (swept home a p).2.length ≤ a.2.length + 1 := by
 unfold swept
 split
 ·simp
 ·simp
theorem sweptL_inv {home : Str} : ∀ (ks : List Str) {a : St × List Str} {b : Nat}, InvB b a.1 → b + ks.length ≤ 4398046511103 → InvB (b + ks.length) (ks.foldl (swept home) a).1 ∧ (ks.foldl (swept home) a).2.length ≤ a.2.length + ks.length := by
 intro ks
 induction ks with
 | nil => intro a b h _; exact ⟨h, Nat.le_refl _⟩
 | cons k ks ih =>
  intro a b h hb
  simp only [List.length_cons] at hb
  obtain ⟨h1, h2⟩ := ih (a := swept home a k) (swept_inv h (by omega)) (by omega)
  have := swept_len (home := home) (a := a) (p := k)
  simp only [List.foldl_cons, List.length_cons]
  exact ⟨by rw [show b + (ks.length + 1) = b + 1 + ks.length by omega]; exact h1, by omega⟩
theorem bk_rev (zs : List ByteArray) : (Back.upto (Back.bk zs) zs.length).map (·.2) = zs.reverse := by
 apply List.ext_getElem
 ·simp [Back.upto]
 ·intro i h1 h2
  simp at h2
  have : zs.length - 1 - i < zs.length := by omega
  simp [Back.upto, Back.bk, List.getElem?_eq_getElem this]
theorem sweep_ok {r T b q q2 : Nat} {st : St} {home : Str} {ws : List Int} {a2 : Sl} {Q : Sl → AH → Prop} (g : Glob ro) (hr : r < 64) (hr0 : r ≠ 0) (hr6 : r ≠ 6) (hq : q < 64) (hq2 : q2 < 64) (hqs : q ∉ [0, 6, r]) (hq2s : q2 ∉ [0, 6, r, q])
  (h : TreeIs tag σ r T st) (hi : InvB b st) (hb : b ≤ 1073741824) (hw : SL.Read ro (fun _ => none) a2 (ws.map vI)) (hwl : ws.length ≤ 4611686018427387903)
  (hQ : ∀ es tag' σ', StepS [0, r, q, q2] ro tag σ tag' σ' → TreeIs tag' σ' r T (sweepE st home ws).1 → RowW tag' σ' (q2 + 256) 108 2 es ((sweepE st home ws).2.map effD) → Q es σ') :
  c_multi_Sweep B ro (some ⟨T, 0, none⟩) (S home) a2 σ Q := by
 refine multi_Sweep_ok fun hs => ?_
 simp only [List.mem_cons, List.not_mem_nil, or_false, not_or] at hqs hq2s
 have hlen := hi.len
 unfold sweepF
 refine nw_cells (tag := tag) q2 hs fun b3 tag1 σ1 st1 r3 => ?_
 refine nw_cells (tag := tag1) (q2 + 64) (st1 []).sep fun b4 tag2 σ2 st2 r4 => ?_
 refine nw_cells (tag := tag2) (q2 + 128) (st2 []).sep fun b7 tag3 σ3 st3 r7 => ?_
 have r3' := (r3.keep (st2 [])).keep (st3 [])
 refine ⟨some ⟨T, 0, none⟩, Row.cell1 r3' (st3 []).sep, ?_⟩
 have hT3 := ((h.keep (st1 [])).keep (st2 [])).keep (st3 [])
 have hsm := hi.inv.small
 refine owned_ok (tag := tag3) (q := q) hr hr0 hq (by omega) (by omega) hT3 (fun p hp => (hsm p hp).1) (by omega) hw hwl fun s tag4 σ4 ks st4 hpm hsr rs => ?_
 have st04 : StepS [0, r, q, q2] ro tag σ tag4 σ4 := (((st1 []).s (by simp)).trans ((st2 []).s (by simp))).trans (((st3 []).s (by simp)).trans (st4.mono (by simp)))
 refine nw_cells (tag := tag4) (q + 64) st4.sep fun bb tag5 σ5 st5 rb => ?_
 obtain ⟨M, bs, hA⟩ := (hT3.keepS st4 (by simp; omega) (by simp; omega)).keep (st5 [])
 have r35 := (r3'.keepS st4 (by simp; omega)).keep (st5 [])
 have r45 := ((r4.keep (st3 [])).keepS st4 (by simp; omega)).keep (st5 [])
 have r75 := (r7.keepS st4 (by simp; omega)).keep (st5 [])
 have rs5 := rs.keep (st5 [])
 have eks := srt_keys hi.inv.keys hpm hsr
 rw [eks] at rs5
 have hK : ownedK st ws = ((((srt st).map (·.1)).filter fun k => isOwned st ws k)).reverse := rfl
 generalize hks : (((srt st).map (·.1)).filter fun k => isOwned st ws k) = own at rs5 hK
 have hol : own.length ≤ st.length := by
  rw [← hks]
  refine Nat.le_trans (List.length_filter_le _ _) ?_
  rw [List.length_map, (srt_perm st).length_eq]
  exact Nat.le_refl _
 obtain ⟨sw, hsw⟩ : ∃ sw : List (Int × ByteArray) → St × List Str, sw = fun pre => (pre.map fun x => L x.2).foldl (swept home) (st, []) := ⟨_, rfl⟩
 have hM5 : ∃ oM, σ5 M = some oM := by
  obtain ⟨es, c, hb, _⟩ := hA.map.obj
  exact ⟨_, hb⟩
 obtain ⟨oM, hM5⟩ := hM5
 let J : List (Int × ByteArray) → AH → Prop := fun pre σ' => ∃ tag' bs' es, StepS [0, r, q2] ro tag5 σ5 tag' σ' ∧ TreeAt tag' σ' r T M bs' (sw pre).1 ∧ RowW tag' σ' (q2 + 256) 108 2 es ((sw pre).2.map effD) ∧
  Row tag' σ' (q2 + 128) 75 ⟨some ⟨b7, 0, none⟩, 1, 1⟩ [Sl.v es] ∧ Row tag' σ' q2 23 ⟨some ⟨b3, 0, none⟩, 1, 1⟩ [.pointer (some ⟨T, 0, none⟩)] ∧ Row tag' σ' (q2 + 64) 9 ⟨some ⟨b4, 0, none⟩, 1, 1⟩ [.string (S home)] ∧
  ∀ b o, σ' b = some o → o.isCells = false → ∃ o', σ5 b = some o'
 have hwd : ∀ pre : List (Int × ByteArray), pre.length ≤ own.length → InvB (b + pre.length) (sw pre).1 ∧ (sw pre).2.length ≤ pre.length := fun pre hp => by
  have := sweptL_inv (home := home) (pre.map fun x => L x.2) (a := (st, [])) hi (by rw [List.length_map]; omega)
  rw [hsw]
  simpa using this
 refine ⟨own.map S, J, ?_, by rw [List.length_map]; omega, ⟨tag5, bs, ⟨none, 0, 0⟩, StepS.refl (st5 []).sep, by rw [hsw]; exact hA, RowW.nil _ _ _ |> (by rw [hsw]; exact ·), r75, r35, r45, fun b o hb _ => ⟨o, hb⟩⟩, ?_, ?_, ?_, ?_⟩
 ·rcases rs5 with ⟨e1, e2⟩ | ⟨bz, cs, e1, e2, e3, e4, e5, e6, e7⟩
  ·exact .inl ⟨e1, by rw [List.map_eq_nil_iff] at e2 ⊢; exact e2⟩
  ·refine .inr ⟨bz, s.cap, _, ?_, e3, ?_, ?_⟩
   ·rw [List.length_map] at e4 ⊢
    cases s; simp only at e1 e4; rw [e1, e4]
   ·rintro pre σ' ⟨tg, bs', es, k, _⟩
    obtain ⟨R, k1, k2⟩ := k
    exact (k2.keep bz _ e3 (fun hm => by have := k1 _ hm; rw [e2] at this; simp at this; omega)).2
   ·intro j hj
    rw [List.length_map] at hj
    have := e7 j (by rw [List.length_map]; exact hj)
    simp only [cellOf, Option.isSome_none, Bool.false_eq_true, if_false]
    rw [this]
    simp [List.getElem?_eq_getElem hj, Pa.vS]
 ·rintro pre σ' ⟨tg, bs', es, _, _, _, _, _, _, hn⟩
  exact hn
 ·rcases rb with ⟨e1, _⟩ | ⟨bz, cs, e1, e2, e3, e4, e5, e6, e7⟩
  ·cases e1
  ·cases e1
   refine ⟨_, e3, ?_, ?_⟩
   ·have := e7 0 (by simp)
    simp only [cellOf, Option.isSome_none, Bool.false_eq_true, if_false]
    rw [this]; rfl
   ·rintro pre σ' ⟨tg, bs', es, k, _⟩
    obtain ⟨R, k1, k2⟩ := k
    exact (k2.keep _ _ e3 (fun hm => by have := k1 _ hm; rw [e2] at this; simp at this; omega)).2
 ·-- a round
  rintro pre x σ6 ⟨tag6, bs6, es6, st6, hA6, rE6, r76, r36, r46, hn6⟩ hlen6
  rw [List.length_map] at hlen6
  obtain ⟨hi6, hl6⟩ := hwd pre (by omega)
  obtain ⟨p, hp⟩ : ∃ p, x.2 = S p := ⟨L x.2, (S_L _).symm⟩
  have hsw' : sw (pre ++ [x]) = swept home (sw pre) p := by
   rw [hsw]
   simp [hp]
  have hlen6' := hi6.len
  have done : ∀ tag7 σ7 bs7 es7, StepS [0, r, q2] ro tag6 σ6 tag7 σ7 → TreeAt tag7 σ7 r T M bs7 (sw (pre ++ [x])).1 → RowW tag7 σ7 (q2 + 256) 108 2 es7 ((sw (pre ++ [x])).2.map effD) →
    Row tag7 σ7 (q2 + 128) 75 ⟨some ⟨b7, 0, none⟩, 1, 1⟩ [Sl.v es7] → Row tag7 σ7 q2 23 ⟨some ⟨b3, 0, none⟩, 1, 1⟩ [.pointer (some ⟨T, 0, none⟩)] → Row tag7 σ7 (q2 + 64) 9 ⟨some ⟨b4, 0, none⟩, 1, 1⟩ [.string (S home)] →
    (∀ b o, σ6 b = some o → ∃ o', σ7 b = some o') ∧ ∃ σ8, HLe σ8 σ7 ∧ J (pre ++ [x]) σ8 := fun tag7 σ7 bs7 es7 st7 h1 h2 h3 h4 h5 => by
   refine ⟨fun b o hb => ?_, SL.prn σ5 σ7, prn_le _ _, tag7, bs7, es7, (st6.trans st7).prn, h1.prn hM5, h2.prn, h3.prn, h4.prn, h5.prn, fun b o hb hc => prn_nc hb hc⟩
   obtain ⟨R, _, k⟩ := st7
   exact (k.old b o hb).2
  unfold rnd
  rw [hp]
  refine homeX_ok (tag := tag6) g fun e tag7 σ7 st7 => ?_
  refine ⟨S home, Row.cell1 (r46.keep st7) st7.sep, ?_⟩
  rw [L_S]
  by_cases c : (homeOf p).getD [] = home
  ·rw [if_pos (by rw [c])]
   refine ⟨some ⟨T, 0, none⟩, Row.cell1 (r36.keep st7) st7.sep, ?_⟩
   refine deleteM_ok (tag := tag7) g hr hr6 hr0 (hA6.keep st7) (by rw [L_S]; exact del_up hi6.inv) fun tag8 σ8 bs8 st8 hA8 => ?_
   rw [L_S] at hA8 ⊢
   have k78 : StepS [0, r, q2] ro tag6 σ6 tag8 σ8 := (st7.s (by simp)).trans (st8.s (by simp))
   have kr : ∀ {x : Nat}, x % 64 ≠ r → True := fun _ => trivial
   have r38 := (r36.keep st7).keepC st8 (by omega)
   have r48 := (r46.keep st7).keepC st8 (by omega)
   have r78 := (r76.keep st7).keepC st8 (by omega)
   have rE8 := (rE6.keep st7).keepC st8 (by omega)
   unfold rndE
   by_cases ce : (remove (sw pre).1 p (-1)).2 = 0
   ·rw [if_pos (by simpa using ce)]
    have hsw2 : swept home (sw pre) p = ((remove (sw pre).1 p (-1)).1, (sw pre).2 ++ [p]) := by unfold swept; rw [if_pos ⟨c, ce⟩]
    rw [hsw2] at hsw'
    refine ⟨es6, Row.cell1 r78 st8.sep, ?_⟩
    refine nw_cells (tag := tag8) (q2 + 320) st8.sep fun z tag9 σ9 st9 r9 => ?_
    refine awp_appendW (l2 := [effD p]) (rE8.keep (st9 [])) (st9 []).sep (Row.readW1 r9 (st9 []).sep rfl (by decide)) (t := 75) (by kernel_rfl) ty108 rfl (by simp [effD, effV, storable]) (by simp; omega) (by decide) fun es' taga σa sta ra => ?_
    have sta' := sta [q2 + 256] (.inr (by simp))
    refine ⟨es', rfl, ?_⟩
    have r7a := (r78.keep (st9 [])).keep sta'
    refine stA_cells r7a sta'.sep (by simp) (by simp [storable, Sl.v]) fun σb stb rb7 _ => ?_
    have kb : StepS [0, r, q2] ro tag6 σ6 taga σb := k78.trans (((st9 []).s (by simp)).trans ((sta'.s (by simp; omega)).trans (stb.s (by simp; omega))))
    refine done taga σb bs8 es' kb ?_ ?_ rb7 ?_ ?_
    ·rw [hsw']
     exact ((hA8.keep (st9 [])).keep sta' (by simp; omega)).keep stb (by simp; omega)
    ·rw [hsw', List.map_append]
     exact RowW.keep ra stb
    ·exact ((r38.keep (st9 [])).keep sta').keep stb
    ·exact ((r48.keep (st9 [])).keep sta').keep stb
   ·rw [if_neg (by simpa using ce)]
    have hsw2 : swept home (sw pre) p = sw pre := by unfold swept; rw [if_neg (fun h => ce h.2)]
    rw [hsw2] at hsw'
    have hre : (remove (sw pre).1 p (-1)).1 = (sw pre).1 := by
     rcases remove_spec (sw pre).1 p (-1) with ⟨e, _, h2⟩ | ⟨n, u, h2, _⟩
     ·rw [h2]
     ·rw [h2] at ce; exact absurd rfl ce
    rw [hre] at hA8
    exact done tag8 σ8 bs8 es6 k78 (by rw [hsw']; exact hA8) (by rw [hsw']; exact rE8) r78 r38 r48
  ·rw [if_neg (fun h => c (S_inj.1 h))]
   unfold rndE
   rw [if_neg (by simp)]
   have hsw2 : swept home (sw pre) p = sw pre := by unfold swept; rw [if_neg (fun h => c h.1)]
   rw [hsw2] at hsw'
   exact done tag7 σ7 bs6 es6 (st7.s (by simp)) (by rw [hsw']; exact hA6.keep st7) (by rw [hsw']; exact rE6.keep st7) (r76.keep st7) (r36.keep st7) (r46.keep st7)
 ·rintro σ' ⟨tag6, bs6, es6, st6, hA6, rE6, r76, r36, r46, hn6⟩
  refine ⟨es6, Row.cell1 r76 st6.sep, ?_⟩
  have hE : sw (Back.upto (Back.bk (own.map S)) (own.map S).length) = sweepE st home ws := by
   rw [hsw]
   show List.foldl _ _ (List.map (fun x : Int × ByteArray => L x.2) _) = _
   rw [show (fun x : Int × ByteArray => L x.2) = L ∘ (fun x => x.2) from rfl, ← List.map_map, bk_rev]
   unfold sweepE
   rw [hK, List.map_reverse, List.map_map]
   have : (L ∘ S) = id := by funext l; rfl
   rw [this, List.map_id]
  rw [hE] at hA6 rE6
  exact hQ es6 tag6 σ' (st04.trans (((st5 []).s (by simp)).trans (st6.mono (by simp)))) ⟨M, bs6, hA6⟩ rE6
end Zt
namespace Zt
open Go SL Pa
theorem remove_hit {b : Nat} {st : St} {p : Str} {n : Nd} (h : InvB b st) (hn : st.lookup p = some n) (ho : n.own ≠ 0) : ∃ u, remove st p (-1) = (delK (modN st u less) p, 0) := by
 have hne : p ≠ [47] := fun e => by subst e; exact ho (h.rt n hn).2.2
 obtain ⟨ps, hps⟩ := h.inv.path p n hn
 obtain ⟨u, m, hu, _⟩ := h.inv.up p n hn hne
 have hc := (h.own p n hn).2.2 ho
 have hk := (h.inv.ctr p n hn).1
 refine ⟨u, ?_⟩
 unfold remove
 rw [if_neg (fun h => h.elim hne fun h => by rw [hps] at h; cases h), hn]
 simp only
 rw [if_neg (fun h => h.1 rfl), if_neg (by omega), hu]
theorem remove_look {st : St} {p u k : Str} (hk : (st.map (·.1)).Nodup) (n : Nd) : (delK (modN st u less) p).lookup k = some n → k ≠ p ∧ ∃ m, st.lookup k = some m ∧ m.own = n.own := by
 intro h
 rw [lookup_del (by rw [keys_mod]; exact hk)] at h
 split at h
 ·cases h
 ·rename_i hne
  rw [lookup_mod] at h
  split at h
  ·cases hl : st.lookup k with
   | none => rw [hl] at h; cases h
   | some m => rw [hl] at h; cases h; exact ⟨hne, m, rfl, rfl⟩
  ·exact ⟨hne, n, h, rfl⟩
theorem remove_look' {st : St} {p u k : Str} (hk : (st.map (·.1)).Nodup) {n : Nd} (h : st.lookup k = some n) (hne : k ≠ p) : ∃ m, (delK (modN st u less) p).lookup k = some m ∧ m.own = n.own := by
 rw [lookup_del (by rw [keys_mod]; exact hk), if_neg hne, lookup_mod]
 split
 ·rw [h]; exact ⟨_, rfl, rfl⟩
 ·exact ⟨n, h, rfl⟩
theorem remove_len1 {st : St} {p u : Str} {n : Nd} (h : st.lookup p = some n) : (delK (modN st u less) p).length + 1 = st.length := by
 have hl : ∃ m, (modN st u less).lookup p = some m := by
  rw [lookup_mod]
  split
  ·rw [h]; exact ⟨_, rfl⟩
  ·exact ⟨n, h⟩
 obtain ⟨m, hm⟩ := hl
 obtain ⟨a, b, h1, h2⟩ := keys_del hm
 rw [keys_mod] at h1
 have e1 := congrArg List.length h1
 have e2 := congrArg List.length h2
 simp only [List.length_map, List.length_append, List.length_cons] at e1 e2
 omega
theorem swept_step {home : Str} {a : St × List Str} {p : Str} {b : Nat} (h : InvB b a.1) :
  (swept home a p).1.length + (swept home a p).2.length = a.1.length + a.2.length ∧
  (∀ k n, (swept home a p).1.lookup k = some n → ∃ m, a.1.lookup k = some m ∧ m.own = n.own) ∧
  (∀ k n, k ≠ p → a.1.lookup k = some n → ∃ m, (swept home a p).1.lookup k = some m ∧ m.own = n.own) ∧
  (((swept home a p).2 = a.2 ∧ (∀ n, a.1.lookup p = some n → n.own ≠ 0 → (homeOf p).getD [] ≠ home)) ∨ ((swept home a p).2 = a.2 ++ [p] ∧ (swept home a p).1.lookup p = none)) := by
 unfold swept
 by_cases c : (homeOf p).getD [] = home ∧ (remove a.1 p (-1)).2 = 0
 ·rw [if_pos c]
  rcases remove_spec a.1 p (-1) with ⟨e, he, h2⟩ | ⟨n, u, h2, h3, _⟩
  ·rw [h2] at c; exact absurd c.2 he
  ·rw [h2]
   have hk := h.inv.keys
   refine ⟨?_, fun k n' hl => (remove_look hk n' hl).2, fun k n' hne hl => remove_look' hk hl hne, .inr ⟨rfl, ?_⟩⟩
   ·have := remove_len1 (u := u) h3
    simp only [List.length_append, List.length_cons, List.length_nil]; omega
   ·simp only
    rw [lookup_del (by rw [keys_mod]; exact hk), if_pos rfl]
 ·rw [if_neg c]
  refine ⟨rfl, fun k n hl => ⟨n, hl, rfl⟩, fun k n _ hl => ⟨n, hl, rfl⟩, .inl ⟨rfl, fun n hn ho e => c ⟨e, ?_⟩⟩⟩
  obtain ⟨u, hu⟩ := remove_hit h hn ho
  rw [hu]
theorem sweptL {home : Str} : ∀ (ks : List Str) {a : St × List Str} {b : Nat}, InvB b a.1 → b + ks.length ≤ 4398046511103 → ks.Nodup → (∀ k ∈ ks, ∃ n, a.1.lookup k = some n ∧ n.own ≠ 0) →
  (ks.foldl (swept home) a).1.length + (ks.foldl (swept home) a).2.length = a.1.length + a.2.length ∧
  (∀ k n, (ks.foldl (swept home) a).1.lookup k = some n → ∃ m, a.1.lookup k = some m ∧ m.own = n.own) ∧
  (∃ l, (ks.foldl (swept home) a).2 = a.2 ++ l ∧ List.Sublist l ks ∧ ∀ k ∈ l, (ks.foldl (swept home) a).1.lookup k = none) ∧
  (∀ k ∈ ks, (homeOf k).getD [] = home → (ks.foldl (swept home) a).1.lookup k = none) := by
 intro ks
 induction ks with
 | nil => intro a b _ _ _ _; exact ⟨rfl, fun k n h => ⟨n, h, rfl⟩, ⟨[], by simp, List.Sublist.refl _, by simp⟩, by simp⟩
 | cons p ks ih =>
  intro a b h hb hnd hall
  simp only [List.length_cons] at hb
  obtain ⟨hp, hnd'⟩ := List.nodup_cons.1 hnd
  obtain ⟨s1, s2, s3, s4⟩ := swept_step (home := home) (p := p) h
  obtain ⟨i1, i2, ⟨l, i3, i4, i5⟩, i6⟩ := ih (a := swept home a p) (swept_inv h (by omega)) (by omega) hnd' (fun k hk => by
   obtain ⟨n, h1, h2⟩ := hall k (by simp [hk])
   obtain ⟨m, h3, h4⟩ := s3 k n (fun e => hp (e ▸ hk)) h1
   exact ⟨m, h3, by rw [h4]; exact h2⟩)
  rw [List.foldl_cons]
  have back : ∀ k n, (ks.foldl (swept home) (swept home a p)).1.lookup k = some n → ∃ m, a.1.lookup k = some m ∧ m.own = n.own := fun k n hl => by
   obtain ⟨m, h1, h2⟩ := i2 k n hl
   obtain ⟨m', h3, h4⟩ := s2 k m h1
   exact ⟨m', h3, h4.trans h2⟩
  have gone : ∀ k, (swept home a p).1.lookup k = none → (ks.foldl (swept home) (swept home a p)).1.lookup k = none := fun k hk => by
   cases e : (ks.foldl (swept home) (swept home a p)).1.lookup k with
   | none => rfl
   | some n => obtain ⟨m, h1, _⟩ := i2 k n e; rw [hk] at h1; cases h1
  refine ⟨by omega, back, ?_, fun k hk hh => ?_⟩
  ·rcases s4 with ⟨e, _⟩ | ⟨e, hn⟩
   ·exact ⟨l, by rw [i3, e], List.Sublist.cons _ i4, i5⟩
   ·refine ⟨p :: l, by rw [i3, e, List.append_assoc]; rfl, List.Sublist.cons_cons _ i4, fun k hk => ?_⟩
    rcases List.mem_cons.1 hk with rfl | hk
    ·exact gone _ hn
    ·exact i5 k hk
  ·rcases List.mem_cons.1 hk with rfl | hk
   ·rcases s4 with ⟨_, e⟩ | ⟨_, hn⟩
    ·obtain ⟨n, h1, h2⟩ := hall k (by simp)
     exact absurd hh (e n h1 h2)
    ·exact gone _ hn
   ·exact i6 k hk hh
theorem isOwned_iff {st : St} {ws : List Int} {k : Str} : isOwned st ws k = true ↔ ∃ n, st.lookup k = some n ∧ n.own ≠ 0 ∧ n.own ∈ ws := by
 unfold isOwned
 cases st.lookup k with
 | none => simp
 | some n => simp
theorem ownedK_mem {st : St} {ws : List Int} (hk : (st.map (·.1)).Nodup) {k : Str} : k ∈ ownedK st ws ↔ isOwned st ws k = true := by
 unfold ownedK
 rw [List.mem_reverse, List.mem_filter]
 refine ⟨fun h => h.2, fun h => ⟨?_, h⟩⟩
 obtain ⟨n, hn, _⟩ := isOwned_iff.1 h
 exact ((srt_perm st).map (·.1)).mem_iff.2 (in_lookup hn)
theorem ownedK_desc {st : St} {ws : List Int} (hk : (st.map (·.1)).Nodup) : (ownedK st ws).Pairwise fun a b => b < a := by
 unfold ownedK
 rw [List.pairwise_reverse]
 refine List.Pairwise.filter _ ?_
 rw [List.pairwise_map]
 exact srt_srt hk
theorem ownedK_len {st : St} {ws : List Int} : (ownedK st ws).length ≤ st.length := by
 unfold ownedK
 rw [List.length_reverse]
 refine Nat.le_trans (List.length_filter_le _ _) ?_
 rw [List.length_map, (srt_perm st).length_eq]
 exact Nat.le_refl _
theorem sweepE_law {b : Nat} {st : St} {home : Str} {ws : List Int} (h : InvB b st) (hb : b ≤ 1099511627776) :
  (sweepE st home ws).1.length + (sweepE st home ws).2.length = st.length ∧
  (∀ k ∈ (sweepE st home ws).2, (sweepE st home ws).1.lookup k = none ∧ ∃ ps, parts k = some ps) ∧
  ((sweepE st home ws).2.Pairwise fun a b => b < a) ∧
  (sweepE (sweepE st home ws).1 home ws).2 = [] ∧
  InvB (b + st.length) (sweepE st home ws).1 := by
 have hol := ownedK_len (st := st) (ws := ws)
 have hlen := h.len
 have hk := h.inv.keys
 have hd := ownedK_desc (ws := ws) hk
 have hnd : (ownedK st ws).Nodup := by
  unfold List.Nodup
  refine hd.imp ?_
  intro x y hlt e
  rw [e] at hlt
  exact slt_irrefl y hlt
 have hall : ∀ k ∈ ownedK st ws, ∃ n, st.lookup k = some n ∧ n.own ≠ 0 := fun k hm => by
  obtain ⟨n, h1, h2, _⟩ := isOwned_iff.1 ((ownedK_mem hk).1 hm)
  exact ⟨n, h1, h2⟩
 obtain ⟨i1, i2, ⟨l, i3, i4, i5⟩, i6⟩ := sweptL (home := home) (ownedK st ws) (a := (st, [])) h (by omega) hnd hall
 obtain ⟨j1, _⟩ := sweptL_inv (home := home) (ownedK st ws) (a := (st, [])) h (by omega)
 rw [List.nil_append] at i3
 have hi' : InvB (b + st.length) (sweepE st home ws).1 := j1.mono (by omega)
 refine ⟨i1, fun k hm => ?_, ?_, ?_, hi'⟩
 ·have hm' : k ∈ l := by rw [← i3]; exact hm
  obtain ⟨n, hn, _⟩ := hall k (i4.subset hm')
  exact ⟨i5 k hm', h.inv.path k n hn⟩
 ·show List.Pairwise (fun a b : Str => b < a) (List.foldl (swept home) (st, []) (ownedK st ws)).2
  rw [i3]
  exact List.Pairwise.sublist i4 hd
 ·-- nothing is left
  show (List.foldl (swept home) (_, []) (ownedK (sweepE st home ws).1 ws)).2 = []
  have hk2 := hi'.inv.keys
  have hno : ∀ k ∈ ownedK (sweepE st home ws).1 ws, (homeOf k).getD [] ≠ home := fun k hm e => by
   obtain ⟨n, h1, h2, h3⟩ := isOwned_iff.1 ((ownedK_mem hk2).1 hm)
   obtain ⟨m, h4, h5⟩ := i2 k n h1
   have hm' : k ∈ ownedK st ws := (ownedK_mem hk).2 (isOwned_iff.2 ⟨m, h4, by rw [h5]; exact h2, by rw [h5]; exact h3⟩)
   have := i6 k hm' e
   rw [show ((ownedK st ws).foldl (swept home) (st, [])).1 = (sweepE st home ws).1 from rfl, h1] at this
   cases this
  generalize ownedK (sweepE st home ws).1 ws = ks at hno
  generalize (sweepE st home ws).1 = s'
  induction ks with
  | nil => rfl
  | cons k ks ih =>
   rw [List.foldl_cons]
   have : swept home (s', []) k = (s', []) := by unfold swept; rw [if_neg (fun h => hno k (by simp) h.1)]
   rw [this]
   exact ih fun x hx => hno x (by simp [hx])
end Zt
namespace Zt
open Go SL G Pa
variable {B : World} {ro σ σ' : AH} {tag tag' : Nat → Nat}
theorem one_del (σ : AH) (b : Nat) : join (SL.one σ b) (SL.del σ b) = σ ∧ Disj (SL.one σ b) (SL.del σ b) := by
 constructor
 ·funext c; unfold join SL.one SL.del
  by_cases e : c = b
  ·simp only [e, if_true]; cases σ b <;> rfl
  ·simp [e]
 ·intro c o hc
  unfold SL.one at hc; unfold SL.del
  split at hc
  ·rename_i e; rw [if_pos e]
  ·cases hc
theorem sweepI_ok {r T b q q2 x bi : Nat} {st : St} {home : Str} {ws : List Int} {Q : Sl → AH → Prop} (g : Glob ro) (hr : r < 64) (hr0 : r ≠ 0) (hr6 : r ≠ 6) (hq : q < 64) (hq2 : q2 < 64) (hqs : q ∉ [0, 6, r]) (hq2s : q2 ∉ [0, 6, r, q]) (hx : x < 64) (hxs : x ∉ [0, 6, r, q, q2]) (hs : SL.Sep ro σ)
  (h : TreeIs tag σ r T st) (hi : InvB b st) (hb : b ≤ 1073741824) (hI : Row tag σ x 3 ⟨some ⟨bi, 0, none⟩, ws.length, ws.length⟩ (ws.map vI)) (hwl : ws.length ≤ 1073741824)
  (hQ : ∀ es tag' σ', StepS [0, r, q, q2] ro tag σ tag' σ' → TreeIs tag' σ' r T (sweepE st home ws).1 → RowW tag' σ' (q2 + 256) 108 2 es ((sweepE st home ws).2.map effD) → Q es σ') :
  c_multi_Sweep B ro (some ⟨T, 0, none⟩) (S home) ⟨some ⟨bi, 0, none⟩, ws.length, ws.length⟩ σ Q := by
 obtain ⟨tI, ob, hob⟩ := hI.tagOf
 obtain ⟨ej, hd⟩ := one_del σ bi
 simp only [List.mem_cons, List.not_mem_nil, or_false, not_or] at hxs
 have hrd : SL.Read (join ro (SL.one σ bi)) (fun _ => none) ⟨some ⟨bi, 0, none⟩, ws.length, ws.length⟩ (ws.map vI) := by
  refine ⟨by simp, (fun h => by cases h), fun p hp i v hv => ?_⟩
  cases hp
  have := hI.lend hs (τ := fun _ => none) hv
  rwa [Nat.mul_one] at this
 have base : c_multi_Sweep B (join ro (SL.one σ bi)) (some ⟨T, 0, none⟩) (S home) ⟨some ⟨bi, 0, none⟩, ws.length, ws.length⟩ (SL.del σ bi) fun es τ => ∃ tag', StepS [0, r, q, q2] (join ro (SL.one σ bi)) tag (SL.del σ bi) tag' τ ∧ TreeIs tag' τ r T (sweepE st home ws).1 ∧ RowW tag' τ (q2 + 256) 108 2 es ((sweepE st home ws).2.map effD) :=
  sweep_ok (tag := tag) (b := b) (glob_lent g) hr hr0 hr6 hq hq2 hqs hq2s (h.del' tI hx hr (by omega) (by omega)) hi hb hrd (by omega) fun es tag' σ' a c d => ⟨tag', a, c, d⟩
 have := ACalls.lend base hd
 rw [ej] at this
 refine ACalls.mono this ?_
 rintro v σ' ⟨τ, rfl, hdt, es, hv, tag', a, c, d⟩
 obtain ⟨tag2, st2, bT, bW, bR⟩ := region_back hs ⟨_, hob⟩ hdt a
 exact ⟨es, hv, hQ es tag2 _ st2 (bT _ _ _ c) (bW _ _ _ _ _ d)⟩
end Zt
namespace Zt
open Go SL G Pa Wi
variable {B : World} {ro σ σ' : AH} {tag tag' : Nat → Nat}
theorem RefIs.del {r T b q : Nat} {l : St} (h : RefIs tag σ r T l) (hb : tag b = q) (h1 : r ≠ q) (h2 : r + 64 ≠ q) (h6 : 6 ≠ q) : RefIs tag (SL.del σ b) r T l := by
 obtain ⟨s, ds, g1, g2, g3, g4⟩ := h
 exact ⟨s, ds, g1, g2.del hb h1, RowW.del g3 hb h2, fun i p d hp hd => (g4 i p d hp hd).del hb h6⟩
theorem RefIs.back {r T b q : Nat} {l : St} {τ : AH} (h : RefIs tag' τ r T l) (hd : Disj (SL.one σ b) τ) (hb : ∃ o, σ b = some o) : RefIs (setTag tag' b q) (join (SL.one σ b) τ) r T l := by
 obtain ⟨s, ds, g1, g2, g3, g4⟩ := h
 exact ⟨s, ds, g1, g2.back hd hb, RowW.back g3 hd hb, fun i p d hp hd' => (g4 i p d hp hd').back hd hb⟩
theorem zip_set {l : St} {ds : List Sl} {j : Nat} {x : Str × Nd} {d : Sl} (hl : ds.length = l.length) (hj : j < l.length) : (List.zipWith nodeV l ds).set j (nodeV x d) = List.zipWith nodeV (l.set j x) (ds.set j d) := by
 apply List.ext_getElem?
 intro m
 rw [List.getElem?_zipWith, List.getElem?_set, List.getElem?_set, List.getElem?_set, List.getElem?_zipWith, List.length_zipWith]
 by_cases c : j = m
 ·subst c; rw [if_pos rfl, if_pos rfl, if_pos rfl, if_pos (show j < min l.length ds.length by omega), if_pos hj, if_pos (by omega)]
 ·rw [if_neg c, if_neg c, if_neg c]
theorem rset_ok {T : Nat} {l : St} {p : Str} {s : Sl} {d : Str} {v : Int} {Q : Int → Int → AH → Prop} (h : RefIs tag σ 11 T l) (hk : (l.map (·.1)).Nodup) (hl : l.length ≤ 4294967290) (hd : SL.Read ro (fun _ => none) s (d.map vU))
  (hQ : ∀ tag' σ', StepS [11] ro tag σ tag' σ' → RefIs tag' σ' 11 T (rset l p d v).1 → Q (rset l p d v).2.1 (rset l p d v).2.2 σ') : c_ref07_Tree_Set B ro (some ⟨T, 0, none⟩) (S p) s v σ Q := by
 refine ref07_Tree_Set_ok fun hs => ?_
 unfold f_ref07_Tree_Set
 have hsl : s.len = d.length := by rw [hd.1, List.length_map]
 have same : ∀ e : Int, rset l p d v = (l, 0, e) → Q 0 e σ := fun e he => by
  have := hQ tag σ (StepS.refl hs) (by rw [he]; exact h)
  rw [he] at this; exact this
 refine bad7_ok ?_
 by_cases c1 : parent p = none
 ·rw [if_pos (by simpa using c1)]
  exact same 20 (by unfold rset; rw [if_pos c1])
 rw [if_neg (by simpa using c1)]
 by_cases c2 : 256 < d.length
 ·rw [if_pos (by omega)]
  exact same 75 (by unfold rset; rw [if_neg c1, if_pos c2])
 rw [if_neg (by omega)]
 refine rnode_ok (h.m hs) (by omega) (fun hm => ?_) (fun n hn h1 h2 => ?_) fun j n hj hn hv => ?_
 ·rw [if_pos (by decide)]
  exact same 70 (by unfold rset; rw [if_neg c1, if_neg c2, hm])
 ·rw [if_pos (by decide)]
  exact same 72 (by unfold rset; rw [if_neg c1, if_neg c2, hn]; simp only; rw [if_pos ⟨h1, h2⟩])
 rw [if_neg (by simp)]
 have hnv : ¬ (v ≠ -1 ∧ v ≠ n.ver) := fun h => by rcases hv with h' | h'; exact h.1 h'; exact h.2 h'
 have hr : rset l p d v = (modN l p (setNd d), i64.wrap (n.ver + 1), 0) := by unfold rset; rw [if_neg c1, if_neg c2, hn]; simp only; rw [if_neg hnv]
 have hjl : j < l.length := by
  rcases Nat.lt_or_ge j l.length with h | h
  ·exact h
  ·rw [List.getElem?_eq_none h] at hj; cases hj
 obtain ⟨s0, ds, g1, g2, g3, g4⟩ := id h
 obtain ⟨tT, hTo⟩ := g2.tagOf
 have hln := g3.len
 rw [List.length_zipWith, g1, Nat.min_self] at hln
 have hdj : ds[j]? = some ds[j] := List.getElem?_eq_getElem (by omega)
 have hz : (List.zipWith nodeV l ds)[j]? = some (nodeV (p, n) ds[j]) := by rw [List.getElem?_zipWith, hj, hdj]
 obtain ⟨b, ha, _, _⟩ := RowW.get g3 hs hz
 refine lent_block T ?_
 have hsA : SL.Sep (join ro (SL.one σ T)) (SL.del σ T) := hs.lent
 refine ⟨_, rfl, s0, acell_one (Row.cell1 g2 hs), ?_⟩
 have g3d := RowW.del g3 tT (by decide)
 refine copy_ok (tag := tag) ((hd.keep (σ := σ)).lent T) hsA (by simp; omega) (fun v hv => by obtain ⟨c, _, rfl⟩ := List.mem_map.1 hv; rfl) fun d2 tag1 σ1 st1 r1 => ?_
 have g3a := RowW.keep g3d (st1 [])
 refine ⟨_, ha, by omega, by omega, ?_⟩
 rw [Int.toNat_natCast, add_add, add_add, Nat.zero_add]
 refine RowW.st g3a (st1 []).sep ha hz (by decide : 1 < 5) rfl fun σ2 st2 r2 => ?_
 intro hdis
 have stA : Step [75] (join ro (SL.one σ T)) tag (SL.del σ T) tag1 σ2 := (st1 [75]).trans st2
 have stB := stA.back hs hdis hTo
 have hsB := stB.sep
 have r2B := RowW.back (r' := tag T) r2 hdis hTo
 have d2B := (r1.keep st2 (by decide)).back (r' := tag T) hdis hTo
 generalize setTag tag1 T (tag T) = tagB at stB r2B d2B
 generalize join (SL.one σ T) σ2 = σB at stB hsB r2B d2B
 have hU2 : RefIs tagB σB 11 T (l.set j (p, { n with data := d })) := by
  refine ⟨s0, ds.set j d2, by simp [g1], g2.keep stB (by decide), ?_, fun i p' d' hp hd' => ?_⟩
  ·have e : (nodeV (p, n) ds[j]).set 1 (Sl.v d2) = nodeV (p, { n with data := d }) d2 := rfl
   rw [e, zip_set g1 hjl] at r2B
   exact r2B
  ·rw [List.getElem?_set] at hp hd'
   by_cases c : j = i
   ·subst c
    rw [if_pos rfl, if_pos hjl] at hp
    rw [if_pos rfl, if_pos (by omega)] at hd'
    cases hp; cases hd'
    exact d2B
   ·rw [if_neg c] at hp hd'
    exact (g4 i p' d' hp hd').keep stB (by decide)
 have hj2 : (l.set j (p, { n with data := d }))[j]? = some (p, { n with data := d }) := by rw [List.getElem?_set, if_pos rfl, if_pos hjl]
 have key := RefIs.stn (i := 2) (v := .int .i64 (i64.wrap (n.ver + 1))) (n' := setNd d n) (K := fun σ => ∃ p48_13 : Addr, (some ⟨T, 0, none⟩ : Option Addr) = some p48_13 ∧ ∃ (x50_14 : Sl), acell ro σ p48_13 = some (Sl.v x50_14) ∧
   ∃ p52_15 : Addr, x50_14.a = some p52_15 ∧ (0 : Int) ≤ (j : Int) ∧ (j : Int) < (x50_14.len : Int) ∧
   ∃ (x54_16 : Int), acell ro σ ((p52_15.add (Int.toNat (j : Int) * 5)).add 2) = some (.int .i64 x54_16) ∧
   Q x54_16 0 σ) hU2 hsB hj2 (by decide) (fun d => rfl) rfl rfl fun σ3 st3 h3 => by
  have e3 : (l.set j (p, { n with data := d })).set j (p, setNd d n) = modN l p (setNd d) := by rw [List.set_set, modN_set hk hj]
  rw [e3] at h3
  have hj3 : (modN l p (setNd d))[j]? = some (p, setNd d n) := by rw [modN_set hk hj, List.getElem?_set, if_pos rfl, if_pos hjl]
  have hl3 : (modN l p (setNd d)).length = l.length := by unfold modN; rw [List.length_map]
  obtain ⟨s4, b4, d4, e4, e5, e6, e7, e8⟩ := h3.row st3.sep hj3
  refine ⟨_, rfl, s4, e4, _, e6, by omega, by omega, _, e7 2 _ rfl, ?_⟩
  have := hQ tagB σ3 ((stB.s (by decide)).trans (st3.s (by decide))) (by rw [hr]; exact h3)
  rw [hr] at this; exact this
 obtain ⟨s3, b3, d3, k1, k2, k3, k4, k5⟩ := key
 rw [List.length_set] at k3
 exact ⟨_, rfl, s3, k1, _, k2, by omega, by omega, n.ver, k4 2 _ rfl, _, k2, by omega, by omega, k5⟩
end Zt
namespace Zt
open Go SL G Pa
variable {B : World} {ro σ σ' : AH} {tag tag' : Nat → Nat}
theorem rsweep_ok {T b q q2 : Nat} {st : St} {home : Str} {ws : List Int} {a2 : Sl} {Q : Sl → AH → Prop} (hq : q < 64) (hq2 : q2 < 64) (hqs : q ∉ [0, 6, 11]) (hq2s : q2 ∉ [0, 6, 11, q])
  (h : RefIs tag σ 11 T (srt st)) (hi : InvB b st) (hb : b ≤ 1073741824) (hw : SL.Read ro (fun _ => none) a2 (ws.map vI)) (hwl : ws.length ≤ 4611686018427387903)
  (hQ : ∀ es tag' σ', StepS [0, 11, q, q2] ro tag σ tag' σ' → RefIs tag' σ' 11 T (srt (sweepE st home ws).1) → RowW tag' σ' (q2 + 256) 180 2 es ((sweepE st home ws).2.map effD) → Q es σ') :
  c_ref08_Sweep B ro (some ⟨T, 0, none⟩) (S home) a2 σ Q := by
 refine ref08_Sweep_ok fun hs => ?_
 unfold f_ref08_Sweep
 simp only [List.mem_cons, List.not_mem_nil, or_false, not_or] at hqs hq2s
 have hlen := hi.len
 have hk := hi.inv.keys
 have hks : ((srt st).map (·.1)).Nodup := (srt_srt hk).nodup
 have hsl : (srt st).length = st.length := (srt_perm st).length_eq
 refine owned7_in (tag := tag) (q := q) hq (by omega) (fun tag' σ' st' => (h.keepS st' (by simp; omega) (by simp; omega)).m st'.sep) hks (by omega) hw hwl fun s tag1 σ1 st1 r1 => ?_
 have efl : (fun k => isOwned (srt st) ws k) = fun k => isOwned st ws k := by funext k; exact isOwned_srt hk ws k
 rw [efl] at r1
 have hK : ownedK st ws = ((((srt st).map (·.1)).filter fun k => isOwned st ws k)).reverse := rfl
 have hol := ownedK_len (st := st) (ws := ws)
 rw [hK, List.length_reverse] at hol
 generalize (((srt st).map (·.1)).filter fun k => isOwned st ws k) = own at r1 hK hol
 have hln : s.len = own.length := by rw [r1.len, List.length_map]
 have hU1 : RefIs tag1 σ1 11 T (srt st) := h.keepS st1 (by simp; omega) (by simp; omega)
 suffices ∀ (j : Nat) (so : Sl) (tag2 : Nat → Nat) (σ2 : AH), j ≤ own.length → StepS [0, 11, q2] ro tag1 σ1 tag2 σ2 → RefIs tag2 σ2 11 T (srt (((own.drop j).reverse).foldl (swept home) (st, [])).1) →
   RowW tag2 σ2 (q2 + 256) 180 2 so ((((own.drop j).reverse).foldl (swept home) (st, [])).2.map effD) → lfpD (l4_ref08_Sweep B ro (some ⟨T, 0, none⟩) (S home) s Q) (so, (j : Int) - 1) σ2 by
  have := this own.length ⟨none, 0, 0⟩ tag1 σ1 (Nat.le_refl _) (StepS.refl st1.sep) (by rw [List.drop_length]; exact hU1) (by rw [List.drop_length]; exact RowW.nil _ _ _)
  rw [w64_eq (by omega) (by omega), hln]
  exact this
 intro j
 induction j with
 | zero =>
  intro so tag2 σ2 _ st2 h2 r2
  refine lfpD.intro ?_
  unfold l4_ref08_Sweep
  simp only
  rw [if_neg (by omega)]
  unfold j2_ref08_Sweep
  rw [List.drop_zero] at h2 r2
  have e : (own.reverse).foldl (swept home) (st, []) = sweepE st home ws := by unfold sweepE; rw [hK]
  rw [e] at h2 r2
  exact hQ so tag2 σ2 ((st1.mono (by simp)).trans (st2.mono (by simp))) h2 r2
 | succ j ih =>
  intro so tag2 σ2 hjl st2 h2 r2
  obtain ⟨hi2, hl2⟩ := sweptL_inv (home := home) ((own.drop (j + 1)).reverse) (a := (st, [])) hi (by simp; omega)
  have hdl : ((own.drop (j + 1)).reverse).length ≤ own.length := by simp
  have hdrop : (own.drop j).reverse = (own.drop (j + 1)).reverse ++ [own[j]] := by rw [List.drop_eq_getElem_cons hjl, List.reverse_cons]
  have efold : ((own.drop j).reverse).foldl (swept home) (st, []) = swept home (((own.drop (j + 1)).reverse).foldl (swept home) (st, [])) own[j] := by rw [hdrop, List.foldl_append]; rfl
  rw [efold] at ih
  generalize ((own.drop (j + 1)).reverse).foldl (swept home) (st, []) = a at h2 r2 hi2 hl2 ih
  have hln2 := hi2.len
  have r12 : ∀ tag3 σ3, StepS [0, 11, q2] ro tag1 σ1 tag3 σ3 → Row tag3 σ3 q 9 s (own.map Pa.vS) := fun tag3 σ3 k => r1.keepS k (by simp; omega)
  have getS : ∀ tag3 σ3, StepS [0, 11, q2] ro tag1 σ1 tag3 σ3 → ∃ p, s.a = some p ∧ acell ro σ3 (p.add (Int.toNat (((j + 1 : Nat) : Int) - 1) * 1)) = some (.string (S own[j])) := fun tag3 σ3 k => by
   obtain ⟨p, hp, hg⟩ := (r12 tag3 σ3 k).ptr k.sep (by rw [List.length_map]; omega)
   refine ⟨p, hp, ?_⟩
   rw [show Int.toNat (((j + 1 : Nat) : Int) - 1) = j by omega]
   exact hg j _ (by rw [List.getElem?_map, List.getElem?_eq_getElem hjl]; rfl)
  have next : ∀ so' tag3 σ3, StepS [0, 11, q2] ro tag1 σ1 tag3 σ3 → RefIs tag3 σ3 11 T (srt (swept home a own[j]).1) → RowW tag3 σ3 (q2 + 256) 180 2 so' ((swept home a own[j]).2.map effD) →
    j7_ref08_Sweep B ro (some ⟨T, 0, none⟩) (S home) (((j + 1 : Nat) : Int) - 1) s Q (lfpD (l4_ref08_Sweep B ro (some ⟨T, 0, none⟩) (S home) s Q)) so' σ3 := fun so' tag3 σ3 k hU hR => by
   unfold j7_ref08_Sweep
   rw [w64_eq (by omega) (by omega), show (((j + 1 : Nat) : Int) - 1 - 1) = (j : Int) - 1 by omega]
   exact ih so' tag3 σ3 (by omega) k hU hR
  refine lfpD.intro ?_
  unfold l4_ref08_Sweep
  simp only
  rw [if_pos (by omega)]
  obtain ⟨p, hp, hg⟩ := getS tag2 σ2 st2
  refine ⟨p, hp, by omega, by omega, S own[j], hg, ?_⟩
  refine rhome_ok (tag := tag2) fun tag3 σ3 st3 => ?_
  rw [L_S]
  have k3 : StepS [0, 11, q2] ro tag1 σ1 tag3 σ3 := st2.trans (st3.s (by simp))
  have h3 := h2.keep st3
  have r3 := RowW.keep r2 st3
  by_cases c : (homeOf own[j]).getD [] = home
  ·rw [if_pos (by rw [c])]
   obtain ⟨p3, hp3, hg3⟩ := getS tag3 σ3 k3
   refine ⟨p3, hp3, by omega, by omega, S own[j], hg3, ?_⟩
   have hka := hi2.inv.keys
   refine rdelete_ok h3 (srt_srt hka).nodup (by rw [(srt_perm a.1).length_eq]; omega) fun tag4 σ4 st4 h4 => ?_
   obtain ⟨e1, e2⟩ := rdel_srt hi2.inv own[j] (-1)
   have h4' := h4.nk e2
   rw [e1]
   have k4 : StepS [0, 11, q2] ro tag1 σ1 tag4 σ4 := k3.trans (st4.mono (by simp))
   have r4 := RowW.keepS r3 st4 (by simp; omega)
   unfold j12_ref08_Sweep
   by_cases ce : (remove a.1 own[j] (-1)).2 = 0
   ·rw [if_pos (by simpa using ce)]
    have hsw : swept home a own[j] = ((remove a.1 own[j] (-1)).1, a.2 ++ [own[j]]) := by unfold swept; rw [if_pos ⟨c, ce⟩]
    rw [hsw] at next
    obtain ⟨p4, hp4, hg4⟩ := getS tag4 σ4 k4
    refine ⟨p4, hp4, by omega, by omega, S own[j], hg4, ?_⟩
    refine nw_cells (tag := tag4) (q2 + 320) st4.sep fun z tag5 σ5 st5 r5 => ?_
    refine awp_appendW (l2 := [effD own[j]]) (RowW.keep r4 (st5 [])) (st5 []).sep (Row.readW1 r5 (st5 []).sep rfl (by decide)) (t := 93) (by kernel_rfl) ty180 rfl (by simp [effD, effV, storable]) (by simp only [List.length_nil, List.length_map, List.length_cons] at hl2 ⊢; omega) (by decide) fun es' tag6 σ6 st6 r6 => ?_
    have st6' := st6 [q2 + 256] (.inr (by simp))
    refine ⟨es', rfl, ?_⟩
    refine next es' tag6 σ6 (k4.trans (((st5 []).s (by simp)).trans (st6'.s (by simp; omega)))) ((h4'.keep (st5 [])).keep st6') ?_
    rw [List.map_append]; exact r6
   ·rw [if_neg (by simpa using ce)]
    have hsw : swept home a own[j] = a := by unfold swept; rw [if_neg (fun h => ce h.2)]
    rw [hsw] at next
    have hre : (remove a.1 own[j] (-1)).1 = a.1 := by
     rcases remove_spec a.1 own[j] (-1) with ⟨e, _, h2⟩ | ⟨n, u, h2, _⟩
     ·rw [h2]
     ·rw [h2] at ce; exact absurd rfl ce
    rw [hre] at h4'
    exact next so tag4 σ4 k4 h4' r4
  ·rw [if_neg (fun h => c (S_inj.1 h))]
   unfold j12_ref08_Sweep
   rw [if_neg (by simp)]
   have hsw : swept home a own[j] = a := by unfold swept; rw [if_neg (fun h => c h.1)]
   rw [hsw] at next
   exact next so tag3 σ3 k3 h3 r3
theorem rsweepI_ok {T b q q2 x bi : Nat} {st : St} {home : Str} {ws : List Int} {Q : Sl → AH → Prop} (hq : q < 64) (hq2 : q2 < 64) (hqs : q ∉ [0, 6, 11]) (hq2s : q2 ∉ [0, 6, 11, q]) (hx : x < 64) (hxs : x ∉ [0, 6, 11, q, q2]) (hs : SL.Sep ro σ)
  (h : RefIs tag σ 11 T (srt st)) (hi : InvB b st) (hb : b ≤ 1073741824) (hI : Row tag σ x 3 ⟨some ⟨bi, 0, none⟩, ws.length, ws.length⟩ (ws.map vI)) (hwl : ws.length ≤ 1073741824)
  (hQ : ∀ es tag' σ', StepS [0, 11, q, q2] ro tag σ tag' σ' → RefIs tag' σ' 11 T (srt (sweepE st home ws).1) → RowW tag' σ' (q2 + 256) 180 2 es ((sweepE st home ws).2.map effD) → Q es σ') :
  c_ref08_Sweep B ro (some ⟨T, 0, none⟩) (S home) ⟨some ⟨bi, 0, none⟩, ws.length, ws.length⟩ σ Q := by
 obtain ⟨tI, ob, hob⟩ := hI.tagOf
 obtain ⟨ej, hd⟩ := one_del σ bi
 simp only [List.mem_cons, List.not_mem_nil, or_false, not_or] at hxs
 have hrd : SL.Read (join ro (SL.one σ bi)) (fun _ => none) ⟨some ⟨bi, 0, none⟩, ws.length, ws.length⟩ (ws.map vI) := by
  refine ⟨by simp, (fun h => by cases h), fun p hp i v hv => ?_⟩
  cases hp
  have := hI.lend hs (τ := fun _ => none) hv
  rwa [Nat.mul_one] at this
 have base : c_ref08_Sweep B (join ro (SL.one σ bi)) (some ⟨T, 0, none⟩) (S home) ⟨some ⟨bi, 0, none⟩, ws.length, ws.length⟩ (SL.del σ bi) fun es τ => ∃ tag', StepS [0, 11, q, q2] (join ro (SL.one σ bi)) tag (SL.del σ bi) tag' τ ∧ RefIs tag' τ 11 T (srt (sweepE st home ws).1) ∧ RowW tag' τ (q2 + 256) 180 2 es ((sweepE st home ws).2.map effD) :=
  rsweep_ok (tag := tag) (b := b) hq hq2 hqs hq2s (h.del tI (by omega) (by omega) (by omega)) hi hb hrd (by omega) fun es tag' σ' a c d => ⟨tag', a, c, d⟩
 have := ACalls.lend base hd
 rw [ej] at this
 refine ACalls.mono this ?_
 rintro v σ' ⟨τ, rfl, hdt, es, hv, tag', a, c, d⟩
 exact ⟨es, hv, hQ es _ _ (StepS.back a hs hdt ⟨_, hob⟩) (c.back hdt ⟨_, hob⟩) (RowW.back d hdt ⟨_, hob⟩)⟩
abbrev DR : List Nat := [0, 11, 36, 37, 38, 39]
theorem doE_core {home : Str} {owner qn qb : Int} {w : Work} {o : MOp} (h : withinE home o = 0) : doE home owner qn qb w o = if (core owner w.st o).2.2.2 ≠ 0 then ((core owner w.st o).2.2.2, { w with st := (core owner w.st o).1 })
  else if overE (core owner w.st o).1 home qn qb o.kind then (81, { w with st := (core owner w.st o).1 })
  else (0, ⟨(core owner w.st o).1, w.res ++ [((core owner w.st o).2.1, (core owner w.st o).2.2.1)], if o.kind = 4 then w.eff else w.eff ++ [(o.kind, if o.kind = 1 then (core owner w.st o).2.1 else o.path)]⟩) := by
 unfold doE
 rw [if_neg (by simp [h])]
theorem rone_tail {T b X11 X12 X16 : Nat} {w : Work} {home : Str} {owner qn qb : Int} {o : MOp} {d : Sl} {Q : ByteArray → Int → Int → AH → Prop} (hi : InvB b w.st) (hb : b ≤ 2147483648) (hwi : withinE home o = 0)
  (h : RefIs tag σ 11 T (srt (core owner w.st o).1)) (hs : SL.Sep ro σ) (r11 : Row tag σ 36 179 ⟨some ⟨X11, 0, none⟩, 6, 6⟩ (opV o d)) (r12 : Row tag σ 37 175 ⟨some ⟨X12, 0, none⟩, 2, 2⟩ [.string ByteArray.empty, vI 0]) (p16 : Str) (v16 : Int)
  (r16 : Row tag σ 38 175 ⟨some ⟨X16, 0, none⟩, 2, 2⟩ [Pa.vS p16, vI v16]) (h16 : (core owner w.st o).2.2.2 = 0 → p16 = (core owner w.st o).2.1 ∧ v16 = (core owner w.st o).2.2.1)
  (hbad : (doE home owner qn qb w o).1 ≠ 0 → ∀ tag' σ', StepS DR ro tag σ tag' σ' → Q ByteArray.empty 0 (doE home owner qn qb w o).1 σ')
  (hok : (doE home owner qn qb w o).1 = 0 → ∀ tag' σ', StepS DR ro tag σ tag' σ' → RefIs tag' σ' 11 T (srt (doE home owner qn qb w o).2.st) → Q (S (core owner w.st o).2.1) (core owner w.st o).2.2.1 0 σ') :
  j17_ref08_one B ro (some ⟨T, 0, none⟩) (S home) qn qb X11 X12 X16 Q (core owner w.st o).2.2.2 σ := by
 have hdo := doE_core (owner := owner) (qn := qn) (qb := qb) (w := w) hwi
 have hci := core_inv (owner := owner) (o := o) hi (by omega)
 have hlen := hci.len
 have bad : ∀ (e : Int) (tag2 : Nat → Nat) (σ2 : AH), e ≠ 0 → (doE home owner qn qb w o).1 = e → Step [] ro tag σ tag2 σ2 → j19_ref08_one B ro X12 X16 Q e σ2 := fun e tag2 σ2 he hE st2 => by
  unfold j19_ref08_one
  rw [if_pos he]
  refine stA_cells (r12.keep st2) st2.sep (by simp) (by simp [storable]) fun σ3 st3 r3 c3 => ?_
  refine ⟨_, _, c3, ?_⟩
  have := hbad (by rw [hE]; exact he) tag2 σ3 ((st2.s (by simp)).trans (st3.s (by simp)))
  rw [hE] at this
  exact this
 unfold j17_ref08_one
 by_cases c0 : (core owner w.st o).2.2.2 = 0
 ·rw [if_pos c0]
  obtain ⟨e16, f16⟩ := h16 c0
  rw [if_neg (by simp [c0])] at hdo
  have good : overE (core owner w.st o).1 home qn qb o.kind = false → ∀ (tag2 : Nat → Nat) (σ2 : AH), Step [] ro tag σ tag2 σ2 → j19_ref08_one B ro X12 X16 Q (core owner w.st o).2.2.2 σ2 := fun ho tag2 σ2 st2 => by
   rw [c0]
   unfold j19_ref08_one
   rw [if_neg (by simp)]
   refine ⟨_, _, Row.cellsAt (r16.keep st2) st2.sep, ?_⟩
   refine stA_cells (r12.keep st2) st2.sep (by simp) (by simp [storable]) fun σ3 st3 r3 c3 => ?_
   refine ⟨_, _, c3, ?_⟩
   rw [if_neg (by simp [ho])] at hdo
   rw [e16, f16]
   refine hok (by rw [hdo]) tag2 σ3 ((st2.s (by simp)).trans (st3.s (by simp))) ?_
   rw [hdo]
   exact (h.keep st2).keep st3
  obtain ⟨p, hp, hg⟩ := r11.ptr hs (by simp [opV])
  cases hp
  have look : (o.kind = 1 ∨ o.kind = 3) → j24_ref08_one B ro (some ⟨T, 0, none⟩) (S home) qn qb X12 X16 (core owner w.st o).2.2.2 Q true σ := fun hk => by
   unfold j24_ref08_one
   rw [if_pos rfl]
   have hk1 : (decide (o.kind = 1) || decide (o.kind = 3)) = true := by rcases hk with k | k <;> simp [k]
   have hsrt := srt_perm (core owner w.st o).1
   have ui : usage (srt (core owner w.st o).1) home = usage (core owner w.st o).1 home := usage_perm hsrt home
   refine rusage_ok (tag := tag) (h.m hs) (fun tag' σ' st => (h.keep st).m st.sep) hs (by rw [hsrt.length_eq]; omega) (fun p hp => hci.inv.small p (hsrt.mem_iff.1 hp)) (fun p hp => ?_) fun tag2 σ2 st2 => ?_
   ·exact hci.inv.path _ _ ((lookup_iff hci.inv.keys (k := p.1) (n := p.2)).2 (hsrt.mem_iff.1 hp))
   ·rw [ui]
    by_cases co : overE (core owner w.st o).1 home qn qb o.kind = true
    ·have co' := co
     unfold overE at co'
     rw [hk1, Bool.true_and, Bool.or_eq_true, decide_eq_true_eq, decide_eq_true_eq] at co'
     rw [if_pos co']
     rw [if_pos co] at hdo
     exact bad 81 tag2 σ2 (by decide) (by rw [hdo]) st2
    ·have co' := co
     unfold overE at co'
     rw [hk1, Bool.true_and, Bool.or_eq_true, decide_eq_true_eq, decide_eq_true_eq] at co'
     rw [if_neg co']
     exact good (by simpa using co) tag2 σ2 st2
  have no : ¬ (o.kind = 1 ∨ o.kind = 3) → j24_ref08_one B ro (some ⟨T, 0, none⟩) (S home) qn qb X12 X16 (core owner w.st o).2.2.2 Q false σ := fun hk => by
   unfold j24_ref08_one
   rw [if_neg (by simp)]
   refine good ?_ tag σ (Step.refl hs)
   unfold overE
   have : (decide (o.kind = 1) || decide (o.kind = 3)) = false := by simp only [not_or] at hk; simp [hk.1, hk.2]
   rw [this, Bool.false_and]
  refine ⟨o.kind, hg 0 _ rfl, ?_⟩
  unfold j29_ref08_one
  by_cases k1 : o.kind = 1
  ·rw [if_pos k1]
   exact look (.inl k1)
  ·rw [if_neg k1]
   refine ⟨o.kind, hg 0 _ rfl, ?_⟩
   by_cases k3 : o.kind = 3
   ·rw [show decide (o.kind = 3) = true from decide_eq_true k3]
    exact look (.inr k3)
   ·rw [show decide (o.kind = 3) = false from decide_eq_false k3]
    exact no (by simp [k1, k3])
 ·rw [if_neg c0]
  unfold j24_ref08_one
  rw [if_neg (by simp)]
  rw [if_pos c0] at hdo
  exact bad _ tag σ c0 (by rw [hdo]) (Step.refl hs)
theorem row_st0 {r : Nat} {e : TypeId} {c n m : Nat} {u v : Value} {l : List Value} {K : AH → Prop} (h : Row tag σ r e ⟨some ⟨c, 0, none⟩, n, m⟩ (u :: l)) (hs : SL.Sep ro σ) (hv : storable v = true)
  (hK : ∀ σ', Step [r] ro tag σ tag σ' → Row tag σ' r e ⟨some ⟨c, 0, none⟩, n, m⟩ (v :: l) → K σ') : stN ⟨c, 0, none⟩ K [v] 0 σ := by
 have := h.st (i := 0) hs rfl (by simp) hv hK
 rwa [Nat.zero_mul, add_zero] at this
theorem rone_ok {T b : Nat} {w : Work} {home : Str} {owner qn qb : Int} {o : MOp} {d : Sl} {Q : ByteArray → Int → Int → AH → Prop} (hi : InvB b w.st) (hb : b ≤ 2147483648)
  (h : RefIs tag σ 11 T (srt w.st)) (hd : SL.Read ro (fun _ => none) d (o.data.map vU))
  (hbad : (doE home owner qn qb w o).1 ≠ 0 → ∀ tag' σ', StepS DR ro tag σ tag' σ' → Q ByteArray.empty 0 (doE home owner qn qb w o).1 σ')
  (hok : (doE home owner qn qb w o).1 = 0 → ∀ tag' σ', StepS DR ro tag σ tag' σ' → RefIs tag' σ' 11 T (srt (doE home owner qn qb w o).2.st) → Q (S (core owner w.st o).2.1) (core owner w.st o).2.2.1 0 σ') :
  c_ref08_one B ro (some ⟨T, 0, none⟩) (S home) owner qn qb o.kind (S o.path) d o.ver o.eph o.seq σ Q := by
 refine ref08_one_ok fun hs => ?_
 unfold f_ref08_one
 have hk := hi.inv.keys
 have hlen := hi.len
 have hks : ((srt w.st).map (·.1)).Nodup := (srt_srt hk).nodup
 have hsl : (srt w.st).length = w.st.length := (srt_perm w.st).length_eq
 refine nw_cells (tag := tag) 36 hs fun X11 tag1 σ1 st1 r1 => ?_
 refine nw_cells (tag := tag1) 37 (st1 []).sep fun X12 tag2 σ2 st2 r2 => ?_
 have r11 : Row tag2 σ2 36 179 ⟨some ⟨X11, 0, none⟩, 6, 6⟩ (opV o d) := r1.keep (st2 [])
 have r12 : Row tag2 σ2 37 175 ⟨some ⟨X12, 0, none⟩, 2, 2⟩ [.string ByteArray.empty, vI 0] := r2
 have h2 := (h.keep (st1 [])).keep (st2 [])
 have k2 : StepS DR ro tag σ tag2 σ2 := ((st1 []).s (by simp)).trans ((st2 []).s (by simp))
 clear r1 r2
 have hs2 := (st2 []).sep
 have bad : ∀ (e : Int), e ≠ 0 → withinE home o = e → ∀ (tag3 : Nat → Nat) (σ3 : AH), Step [] ro tag2 σ2 tag3 σ3 → stN ⟨X12, 0, none⟩ (fun σ => ∃ (a : ByteArray) (c : Int), SL.cellsAt ro σ ⟨X12, 0, none⟩ 0 [.string a, .int .i64 c] ∧ Q a c e σ) [.string ByteArray.empty, .int .i64 0] 0 σ3 := fun e he hw tag3 σ3 st3 => by
  have hE : (doE home owner qn qb w o).1 = e := by unfold doE; rw [if_pos (by rw [hw]; exact he), hw]
  refine stA_cells (r12.keep st3) st3.sep (by simp) (by simp [storable]) fun σ4 st4 r4 c4 => ?_
  refine ⟨_, _, c4, ?_⟩
  have := hbad (by rw [hE]; exact he) tag3 σ4 (k2.trans ((st3.s (by simp)).trans (st4.s (by simp))))
  rw [hE] at this
  exact this
 obtain ⟨p, hp, hg⟩ := r11.ptr hs2 (by simp [opV])
 cases hp
 have go : withinE home o = 0 → ∀ (tag3 : Nat → Nat) (σ3 : AH), Step [] ro tag2 σ2 tag3 σ3 → j13_ref08_one B ro (some ⟨T, 0, none⟩) (S home) owner qn qb X11 X12 Q false σ3 := fun hw0 tag3 σ3 st3 => by
  have hkr : 1 ≤ o.kind ∧ o.kind ≤ 4 := by
   unfold withinE at hw0
   split at hw0
   ·cases hw0
   ·omega
  unfold j13_ref08_one
  rw [if_neg (by simp)]
  refine nw_st (tag := tag3) 38 st3.sep rfl (by simp [storable]) fun X16 tag4 σ4 st4 r16 => ?_
  have s4 := (st4 []).sep
  have r11' := (r11.keep st3).keep (st4 [])
  have r12' := (r12.keep st3).keep (st4 [])
  have h4 := (h2.keep st3).keep (st4 [])
  have k4 : StepS DR ro tag σ tag4 σ4 := k2.trans ((st3.s (by simp)).trans ((st4 []).s (by simp)))
  obtain ⟨p4, hp4, hg4⟩ := r11'.ptr s4 (by simp [opV])
  cases hp4
  have g0 := hg4 0 _ rfl
  have g1 := hg4 1 _ rfl
  have g2 := hg4 2 _ rfl
  have g3 := hg4 3 _ rfl
  have g4 := hg4 4 _ rfl
  have g5 := hg4 5 _ rfl
  have tail : ∀ (tag5 : Nat → Nat) (σ5 : AH) (p16 : Str) (v16 : Int), StepS DR ro tag4 σ4 tag5 σ5 → RefIs tag5 σ5 11 T (srt (core owner w.st o).1) → Row tag5 σ5 36 179 ⟨some ⟨X11, 0, none⟩, 6, 6⟩ (opV o d) → Row tag5 σ5 37 175 ⟨some ⟨X12, 0, none⟩, 2, 2⟩ [.string ByteArray.empty, vI 0] →
    Row tag5 σ5 38 175 ⟨some ⟨X16, 0, none⟩, 2, 2⟩ [Pa.vS p16, vI v16] → ((core owner w.st o).2.2.2 = 0 → p16 = (core owner w.st o).2.1 ∧ v16 = (core owner w.st o).2.2.1) → j17_ref08_one B ro (some ⟨T, 0, none⟩) (S home) qn qb X11 X12 X16 Q (core owner w.st o).2.2.2 σ5 := fun tag5 σ5 p16 v16 k5 h5 a1 a2 a3 a4 =>
   rone_tail (tag := tag5) hi hb hw0 h5 k5.sep a1 a2 p16 v16 a3 a4 (fun he tag' σ' st => hbad he tag' σ' (k4.trans (k5.trans st))) fun he tag' σ' st => hok he tag' σ' (k4.trans (k5.trans st))
  refine ⟨o.kind, g0, ?_⟩
  by_cases c1 : o.kind = 1
  ·rw [if_pos c1]
   have cre : ∀ ow : Int, ow = (if o.eph then owner else 0) → j33_ref08_one B ro (some ⟨T, 0, none⟩) (S home) qn qb X11 X12 X16 Q ow σ4 := fun ow how => by
    unfold j33_ref08_one
    refine ⟨S o.path, g1, d, g2, o.seq, g5, ?_⟩
    refine rcreate_ok h4 hks (by omega) hd fun tag5 σ5 st5 h5 => ?_
    rw [rcr_srt hk, how] at h5 ⊢
    have hcore : core owner w.st o = ((create w.st o.path o.data (if o.eph then owner else 0) o.seq).1, (create w.st o.path o.data (if o.eph then owner else 0) o.seq).2.1, 0, (create w.st o.path o.data (if o.eph then owner else 0) o.seq).2.2) := by unfold core; rw [if_pos c1]
    refine row_st0 (r16.keepS st5) st5.sep rfl fun σ6 st6 r6 => ?_
    have := tail tag5 σ6 (create w.st o.path o.data (if o.eph then owner else 0) o.seq).2.1 0 ((st5.mono (by decide)).trans (st6.s (by simp))) (by rw [hcore]; exact h5.keep st6) ((r11'.keepS st5).keep st6) ((r12'.keepS st5).keep st6) r6 (fun _ => by rw [hcore]; exact ⟨rfl, rfl⟩)
    rw [hcore] at this
    exact this
   refine ⟨o.eph, g4, ?_⟩
   by_cases ce : o.eph = true
   ·rw [if_pos ce]; exact cre owner (by rw [if_pos ce])
   ·rw [if_neg ce]; exact cre 0 (by rw [if_neg ce])
  ·rw [if_neg c1]
   by_cases c2 : o.kind = 2
   ·rw [if_pos c2]
    refine ⟨S o.path, g1, o.ver, g3, ?_⟩
    refine rdelete_ok h4 hks (by omega) fun tag5 σ5 st5 h5 => ?_
    obtain ⟨e1, e2⟩ := rdel_srt hi.inv o.path o.ver
    have h5' := h5.nk e2
    rw [e1]
    have hcore : core owner w.st o = ((remove w.st o.path o.ver).1, [], 0, (remove w.st o.path o.ver).2) := by unfold core; rw [if_neg c1, if_pos c2]
    have := tail tag5 σ5 [] 0 (st5.mono (by decide)) (by rw [hcore]; exact h5') (r11'.keepS st5) (r12'.keepS st5) (r16.keepS st5) (fun _ => by rw [hcore]; exact ⟨rfl, rfl⟩)
    rw [hcore] at this
    exact this
   ·rw [if_neg c2]
    by_cases c3 : o.kind = 3
    ·rw [if_pos c3]
     refine ⟨S o.path, g1, d, g2, o.ver, g3, ?_⟩
     refine rset_ok h4 hks (by omega) hd fun tag5 σ5 st5 h5 => ?_
     rw [rset_srt hk] at h5 ⊢
     have hcore : core owner w.st o = ((setD w.st o.path o.data o.ver).1, [], (setD w.st o.path o.data o.ver).2.1, (setD w.st o.path o.data o.ver).2.2) := by unfold core; rw [if_neg c1, if_neg c2, if_pos c3]
     refine (r16.keepS st5).st (i := 1) st5.sep rfl (by simp) rfl fun σ6 st6 r6 => ?_
     have := tail tag5 σ6 [] (setD w.st o.path o.data o.ver).2.1 ((st5.mono (by decide)).trans (st6.s (by simp))) (by rw [hcore]; exact h5.keep st6) ((r11'.keepS st5).keep st6) ((r12'.keepS st5).keep st6) r6 (fun _ => by rw [hcore]; exact ⟨rfl, rfl⟩)
     rw [hcore] at this
     exact this
    ·rw [if_neg c3, if_pos (by omega)]
     have hcore : core owner w.st o = (w.st, [], 0, chkE w.st o.path o.ver) := by unfold core; rw [if_neg c1, if_neg c2, if_neg c3]
     refine ⟨S o.path, g1, ?_⟩
     have fin : ∀ tag5 σ5, StepS DR ro tag4 σ4 tag5 σ5 → RefIs tag5 σ5 11 T (srt w.st) → Row tag5 σ5 36 179 ⟨some ⟨X11, 0, none⟩, 6, 6⟩ (opV o d) → Row tag5 σ5 37 175 ⟨some ⟨X12, 0, none⟩, 2, 2⟩ [.string ByteArray.empty, vI 0] → Row tag5 σ5 38 175 ⟨some ⟨X16, 0, none⟩, 2, 2⟩ [Pa.vS [], vI 0] → j17_ref08_one B ro (some ⟨T, 0, none⟩) (S home) qn qb X11 X12 X16 Q (chkE w.st o.path o.ver) σ5 := fun tag5 σ5 a b' c' d' e' => by
      have := tail tag5 σ5 [] 0 a (by rw [hcore]; exact b') c' d' e' (fun _ => by rw [hcore]; exact ⟨rfl, rfl⟩)
      rw [hcore] at this
      exact this
     have lk : (srt w.st).lookup o.path = w.st.lookup o.path := (lookup_perm (srt_perm w.st).symm hk o.path).symm
     have miss : ∀ (tag5 : Nat → Nat) (σ5 : AH) (e : Int), e ≠ 0 → chkE w.st o.path o.ver = e → StepS [0] ro tag4 σ4 tag5 σ5 → ∀ (a : ByteArray) (s : Sl) (x y z : Int), nw ro σ5 (.cells #[.string ByteArray.empty, Sl.v (⟨none, 0, 0⟩ : Sl), .int .i64 0, .int .i64 0, .int .i64 0] 159) fun x19 σ => stN ⟨x19, 0, none⟩ (fun σ =>
       if e = 0 then ∃ (x126_60 : Int), acell ro σ ((⟨X11, 0, none⟩ : Addr).add 3) = some (.int .i64 x126_60) ∧ j54_ref08_one B ro (some ⟨T, 0, none⟩) (S home) qn qb X11 X12 X16 x19 e Q (!(decide (x126_60 = (-1)))) σ
       else j54_ref08_one B ro (some ⟨T, 0, none⟩) (S home) qn qb X11 X12 X16 x19 e Q false σ) [.string a, Sl.v s, .int .i64 x, .int .i64 y, .int .i64 z] 0 σ := fun tag5 σ5 e he hch k5 a s x y z => by
      refine nw_st (tag := tag5) 39 k5.sep rfl (by simp [storable, Sl.v]) fun X19 tag6 σ6 st6 r6 => ?_
      rw [if_neg he]
      unfold j54_ref08_one
      rw [if_neg (by simp)]
      unfold j56_ref08_one
      rw [if_neg (by simp), ← hch]
      exact fin tag6 σ6 ((k5.mono (by decide)).trans ((st6 []).s (by simp))) ((h4.keepS k5).keep (st6 [])) ((r11'.keepS k5).keep (st6 [])) ((r12'.keepS k5).keep (st6 [])) ((r16.keepS k5).keep (st6 []))
     refine get7_ok (r := 11) (by decide) (by decide) (by decide) h4 (by omega) (fun hb' tag5 σ5 k5 => ?_) (fun ps hps hl tag5 σ5 k5 => ?_) fun n hl dd tag5 σ5 k5 _ => ?_
     ·exfalso
      unfold withinE at hw0
      rw [if_neg (by omega), hb'] at hw0
      cases hw0
     ·rw [lk] at hl
      exact miss tag5 σ5 70 (by decide) (by unfold chkE; rw [hl]) k5 _ _ _ _ _
     ·rw [lk] at hl
      refine nw_st (tag := tag5) 39 k5.sep rfl (by simp [storable, Sl.v]) fun X19 tag6 σ6 st6 r6 => ?_
      have s6 := (st6 []).sep
      have a11 := (r11'.keepS k5).keep (st6 [])
      have a12 := (r12'.keepS k5).keep (st6 [])
      have a16 := (r16.keepS k5).keep (st6 [])
      have hU6 := (h4.keepS k5).keep (st6 [])
      have k6 : StepS DR ro tag4 σ4 tag6 σ6 := (k5.mono (by decide)).trans ((st6 []).s (by simp))
      obtain ⟨p6, hp6, hg6⟩ := a11.ptr s6 (by simp [opV])
      cases hp6
      obtain ⟨p7, hp7, hg7⟩ := r6.ptr s6 (by simp)
      cases hp7
      rw [if_pos rfl]
      refine ⟨o.ver, hg6 3 _ rfl, ?_⟩
      unfold j54_ref08_one
      by_cases cv : o.ver = -1
      ·rw [if_neg (by simp [cv])]
       unfold j56_ref08_one
       rw [if_neg (by simp)]
       have := fin tag6 σ6 k6 hU6 a11 a12 a16
       rw [show chkE w.st o.path o.ver = 0 by unfold chkE; rw [hl]; simp [cv]] at this
       exact this
      ·rw [if_pos (by simp [cv])]
       refine ⟨o.ver, hg6 3 _ rfl, n.ver, hg7 2 _ rfl, ?_⟩
       unfold j56_ref08_one
       by_cases cn : o.ver = n.ver
       ·rw [if_neg (by simp [cn])]
        have := fin tag6 σ6 k6 hU6 a11 a12 a16
        rw [show chkE w.st o.path o.ver = 0 by unfold chkE; rw [hl]; simp [cn]] at this
        exact this
       ·rw [if_pos (by simp [cn])]
        have := fin tag6 σ6 k6 hU6 a11 a12 a16
        rw [show chkE w.st o.path o.ver = 72 by unfold chkE; rw [hl]; simp [cn, cv]] at this
        exact this
 have bad82 : withinE home o = 82 → ∀ (tag3 : Nat → Nat) (σ3 : AH), Step [] ro tag2 σ2 tag3 σ3 → j13_ref08_one B ro (some ⟨T, 0, none⟩) (S home) owner qn qb X11 X12 Q true σ3 := fun hw tag3 σ3 st3 => by
  unfold j13_ref08_one
  rw [if_pos rfl]
  exact bad 82 (by decide) hw tag3 σ3 st3
 have out : o.kind < 1 ∨ 4 < o.kind → j4_ref08_one B ro (some ⟨T, 0, none⟩) (S home) owner qn qb X11 X12 Q true σ2 := fun hk => by
  unfold j4_ref08_one
  rw [if_pos rfl]
  exact bad 80 (by decide) (by unfold withinE; rw [if_pos hk]) tag2 σ2 (Step.refl hs2)
 refine ⟨o.kind, hg 0 _ rfl, ?_⟩
 by_cases c1 : o.kind < 1
 ·rw [if_pos c1]; exact out (.inl c1)
 rw [if_neg c1]
 refine ⟨o.kind, hg 0 _ rfl, ?_⟩
 by_cases c4 : 4 < o.kind
 ·rw [show decide (4 < o.kind) = true from decide_eq_true c4]; exact out (.inr c4)
 rw [show decide (4 < o.kind) = false from decide_eq_false c4]
 unfold j4_ref08_one
 rw [if_neg (by simp)]
 refine ⟨S o.path, hg 1 _ rfl, ?_⟩
 refine rparts2_ok (tag := tag2) 0 hs2 (fun hn sl tag3 σ3 st3 => ?_) fun ps hps sl tag3 σ3 st3 r3 => ?_
 ·rw [L_S] at hn
  rw [if_pos (by simp)]
  exact bad 20 (by decide) (by unfold withinE; rw [if_neg (by omega), hn]) tag3 σ3 st3
 ·rw [L_S] at hps
  rw [if_neg (by simp)]
  have hln : sl.len = ps.length := by rw [r3.len, List.length_map]
  have hwE : withinE home o = if ps.head? ≠ some home ∨ (ps.length = 1 ∧ o.kind ≤ 2) then 82 else 0 := by unfold withinE; rw [if_neg (by omega), hps]
  by_cases h0 : ps = []
  ·rw [if_pos (by rw [hln, h0]; rfl)]
   unfold j11_ref08_one
   rw [if_pos rfl]
   exact bad82 (by rw [hwE, if_pos (.inl (by rw [h0]; simp))]) tag3 σ3 st3
  ·have hpos := List.length_pos_iff.2 h0
   rw [if_neg (by omega)]
   obtain ⟨q, hq, _, hget⟩ := Row.sget r3 st3.sep hpos
   refine ⟨q, hq, by decide, by omega, S ps[0], hget 0 hpos, ?_⟩
   have hhd : ps.head? = some ps[0] := by rw [List.head?_eq_getElem?, List.getElem?_eq_getElem hpos]
   unfold j11_ref08_one
   by_cases ch : ps[0] = home
   ·rw [if_neg (by simp [ch])]
    by_cases cl : ps.length = 1
    ·rw [if_pos (by omega)]
     have r113 := r11.keep st3
     obtain ⟨p3, hp3, hg3⟩ := r113.ptr st3.sep (by simp [opV])
     cases hp3
     refine ⟨o.kind, hg3 0 _ rfl, ?_⟩
     unfold j64_ref08_one j61_ref08_one
     by_cases k1 : o.kind = 1
     ·rw [if_pos k1]
      exact bad82 (by rw [hwE, if_pos (.inr ⟨cl, by omega⟩)]) tag3 σ3 st3
     ·rw [if_neg k1]
      refine ⟨o.kind, hg3 0 _ rfl, ?_⟩
      by_cases k2' : o.kind = 2
      ·rw [show decide (o.kind = 2) = true from decide_eq_true k2']
       exact bad82 (by rw [hwE, if_pos (.inr ⟨cl, by omega⟩)]) tag3 σ3 st3
      ·rw [show decide (o.kind = 2) = false from decide_eq_false k2']
       exact go (by rw [hwE, if_neg (fun h => h.elim (fun h => h (by rw [hhd, ch])) (fun h => by omega))]) tag3 σ3 st3
    ·rw [if_neg (by omega)]
     unfold j61_ref08_one
     exact go (by rw [hwE, if_neg (fun h => h.elim (fun h => h (by rw [hhd, ch])) (fun h => by omega))]) tag3 σ3 st3
   ·rw [if_pos (by simp; intro h; exact ch (S_inj.1 h))]
    exact bad82 (by rw [hwE, if_pos (.inl (by rw [hhd]; simpa using ch))]) tag3 σ3 st3
theorem rcopy_ok {r T : Nat} {l : St} {Q : Option Addr → AH → Prop} (hr : r < 64) (hrs : r ∉ [6, 11, 36, 37]) (h : RefIs tag σ r T l) (hl : l.length ≤ 4294967296) (hsm : ∀ p ∈ l, p.2.data.length ≤ 256)
  (hQ : ∀ U tag' σ', StepS [11, 36, 37] ro tag σ tag' σ' → RefIs tag' σ' 11 U l → Q (some ⟨U, 0, none⟩) σ') : c_ref07_Tree_Copy B ro (some ⟨T, 0, none⟩) σ Q := by
 refine ref07_Tree_Copy_ok fun hs => ?_
 unfold f_ref07_Tree_Copy
 simp only [List.mem_cons, List.not_mem_nil, or_false, not_or] at hrs
 refine nw_cells (tag := tag) 11 hs fun U tag1 σ1 st1 r1 => ?_
 have hU1 : RefIs tag1 σ1 11 U (l.take 0) := ⟨⟨none, 0, 0⟩, [], rfl, r1, RowW.nil _ _ _, fun i p d hp => by cases hp⟩
 suffices ∀ m j tag2 σ2, j + m = l.length → StepS [11, 36, 37] ro tag1 σ1 tag2 σ2 → RefIs tag2 σ2 11 U (l.take j) → lfpD (l3_ref07_Tree_Copy B ro (some ⟨T, 0, none⟩) U Q) (j : Int) σ2 from
  this _ 0 tag1 σ1 (Nat.zero_add _) (StepS.refl (st1 []).sep) hU1
 have hT1 := h.keep (st1 [])
 have k1 : StepS [11, 36, 37] ro tag σ tag1 σ1 := (st1 []).s (by simp)
 intro m
 induction m with
 | zero =>
  intro j tag2 σ2 hj st2 h2
  obtain ⟨s0, e1, e2⟩ := ((hT1.keepS st2 (by simp; omega) (by simp)).m st2.sep).len
  refine lfpD.intro ?_
  unfold l3_ref07_Tree_Copy
  refine ⟨_, rfl, s0, e1, ?_⟩
  rw [if_neg (by omega)]
  unfold j2_ref07_Tree_Copy
  rw [List.take_of_length_le (by omega)] at h2
  exact hQ U tag2 σ2 (k1.trans st2) h2
 | succ m ih =>
  intro j tag2 σ2 hj st2 h2
  have hjl : j < l.length := by omega
  have hjg : l[j]? = some l[j] := List.getElem?_eq_getElem hjl
  have hT2 := hT1.keepS st2 (by simp; omega) (by simp)
  obtain ⟨s0, b, d, e1, e2, e3, e4, e5⟩ := hT2.row st2.sep hjg
  have hdl := hsm _ (List.getElem_mem hjl)
  refine lfpD.intro ?_
  unfold l3_ref07_Tree_Copy
  refine ⟨_, rfl, s0, e1, ?_⟩
  rw [if_pos (by omega)]
  refine ⟨_, rfl, s0, e1, _, e3, by omega, by omega, S l[j].1, d, l[j].2.ver, l[j].2.ctr, l[j].2.own, cellsAt_of 0 fun i v hv => by rw [Nat.zero_add]; exact e4 i v hv, ?_⟩
  refine nw_st (tag := tag2) 36 st2.sep rfl (by simp [storable, Sl.v]) fun X tag3 σ3 st3 r3 => ?_
  obtain ⟨p3, hp3, hg3⟩ := r3.ptr (st3 []).sep (by simp)
  cases hp3
  refine ⟨d, hg3 1 _ rfl, ?_⟩
  refine copy_ok (tag := tag3) ((e5.keep (st3 [])).read (st3 []).sep) (st3 []).sep (by rw [List.length_map]; omega) (fun v hv => by obtain ⟨c, _, rfl⟩ := List.mem_map.1 hv; rfl) fun d' tag4 σ4 st4 r4 => ?_
  refine (r3.keep (st4 [])).st (i := 1) (st4 []).sep rfl (by simp) rfl fun σ5 st5 r5 => ?_
  have h5 := ((h2.keep (st3 [])).keep (st4 [])).keep st5
  have r4' := r4.keep st5
  obtain ⟨so, ds, q1, q2, q3, q4⟩ := h5
  have hlt : (l.take j).length = j := by rw [List.length_take]; omega
  have hz : (List.zipWith nodeV (l.take j) ds).length = j := by rw [List.length_zipWith, q1, Nat.min_self]; exact hlt
  refine ⟨so, Row.cell1 q2 st5.sep, ?_⟩
  refine ⟨_, _, _, _, _, Row.cellsAt r5 st5.sep, ?_⟩
  refine nw_cells (tag := tag4) 37 st5.sep fun Y tag6 σ6 st6 r6 => ?_
  refine awp_appendW (l2 := [nodeV l[j] d']) (RowW.keep q3 (st6 [])) (st6 []).sep (Row.readW1 r6 (st6 []).sep rfl (by decide)) (t := 155) (by kernel_rfl) ty159 rfl (by simp [nodeV, storable, Sl.v]) (by rw [hz]; simp; omega) (by decide) fun sn tag7 σ7 st7 r7 => ?_
  have st7' := st7 [75] (.inr (by simp))
  refine ⟨sn, rfl, ?_⟩
  refine row_st0 ((q2.keep (st6 [])).keep st7') st7'.sep rfl fun σ8 st8 r8 => ?_
  rw [Pa.inc j (by omega)]
  have k8 : StepS [11, 36, 37] ro tag2 σ2 tag7 σ8 := ((st3 []).s (by simp)).trans (((st4 []).s (by simp)).trans ((st5.s (by simp)).trans (((st6 []).s (by simp)).trans ((st7'.s (by simp)).trans (st8.s (by simp))))))
  refine ih (j + 1) tag7 σ8 (by omega) (st2.trans k8) ?_
  have etk : l.take (j + 1) = l.take j ++ [l[j]] := by rw [List.take_add_one, hjg]; rfl
  rw [etk]
  refine ⟨sn, ds ++ [d'], by rw [List.length_append, List.length_append, q1]; rfl, r8, ?_, fun i p dd hp hd => ?_⟩
  ·rw [List.zipWith_append q1.symm]
   exact RowW.keep r7 st8
  ·have kd : ∀ (dd : Sl) (x : List Value), Row tag4 σ5 6 5 dd x → Row tag7 σ8 6 5 dd x := fun dd x hx => ((hx.keep (st6 [])).keep st7').keep st8
   rcases Nat.lt_or_ge i (l.take j).length with hh | hh
   ·rw [List.getElem?_append_left hh] at hp
    rw [List.getElem?_append_left (by omega)] at hd
    exact kd _ _ (q4 i p dd hp hd)
   ·rw [List.getElem?_append_right hh] at hp
    rw [List.getElem?_append_right (by omega), q1] at hd
    cases hz : i - (l.take j).length with
    | zero =>
     rw [hz] at hp hd
     cases hp; cases hd
     exact kd _ _ r4'
    | succ k => rw [hz] at hp; cases hp
def ROpsR (ro : AH) (tag : Nat → Nat) (σ : AH) (q : Nat) (s : Sl) (ops : List MOp) : Prop := ∃ ds : List Sl, ds.length = ops.length ∧ RowW tag σ q 179 6 s (List.zipWith opV ops ds) ∧ ∀ (i : Nat) (o : MOp) (d : Sl), ops[i]? = some o → ds[i]? = some d → SL.Read ro (fun _ => none) d (o.data.map vU)
theorem ROpsR.keepS {C : List Nat} {q : Nat} {s : Sl} {ops : List MOp} (h : ROpsR ro tag σ q s ops) (k : StepS C ro tag σ tag' σ') (hq : q % 64 ∉ C := by decide) : ROpsR ro tag' σ' q s ops := by
 obtain ⟨ds, h1, h2, h3⟩ := h
 exact ⟨ds, h1, RowW.keepS h2 k hq, h3⟩
theorem RefIs.retag {tg : Nat → Nat} {r r' T : Nat} {l : St} (h : RefIs tag σ r T l) (h1 : ∀ c, tag c = r → σ c ≠ none → tg c = r') (h2 : ∀ c, tag c = r + 64 → σ c ≠ none → tg c = r' + 64) (h6 : ∀ c, tag c = 6 → σ c ≠ none → tg c = 6) : RefIs tg σ r' T l := by
 obtain ⟨s, ds, g1, g2, g3, g4⟩ := h
 exact ⟨s, ds, g1, Row.retag g2 h1, RowW.retag g3 h2, fun i p d hp hd => Row.retag (g4 i p d hp hd) h6⟩
abbrev DQ : List Nat := [0, 36, 37, 38, 39, 40, 41, 43, 44, 45]
theorem rapply_ok {T b q : Nat} {st : St} {home : Str} {owner qn qb : Int} {ops : List MOp} {s : Sl} {Q : Option Addr → Sl → Sl → Int → Int → AH → Prop} (hq : q % 64 ∉ 11 :: 23 :: DQ) (hU : RefIs tag σ 11 T (srt st)) (hi : InvB b st) (hb : b ≤ 1073741824)
  (hops : ROpsR ro tag σ q s ops)
  (hQ : ∀ (U : Nat) (rs es : Sl) (tag' : Nat → Nat) (σ' : AH), StepS DQ ro tag σ tag' σ' → RefIs tag' σ' 11 U (srt (applyE st home owner qn qb ops).st) → RowW tag' σ' 40 175 2 rs ((applyE st home owner qn qb ops).res.map resV) → RowW tag' σ' 41 180 2 es ((applyE st home owner qn qb ops).eff.map effV) →
   Q (some ⟨U, 0, none⟩) rs es (applyE st home owner qn qb ops).bad (applyE st home owner qn qb ops).err σ') :
  c_ref08_Apply B ro (some ⟨T, 0, none⟩) (S home) owner qn qb s σ Q := by
 refine ref08_Apply_ok fun hs => ?_
 unfold f_ref08_Apply
 have hsl : s.len = ops.length := by
  obtain ⟨ds, h1, h2, h3⟩ := hops
  rw [h2.len, List.length_zipWith, h1, Nat.min_self]
 by_cases c1 : ops.length = 0 ∨ 16 < ops.length
 ·rw [if_pos (by omega)]
  have hE : applyE st home owner qn qb ops = ⟨st, [], [], 0, 80⟩ := by unfold applyE; rw [if_pos c1]
  rw [hE] at hQ
  exact hQ T _ _ tag σ (StepS.refl hs) hU (RowW.nil _ _ _) (RowW.nil _ _ _)
 rw [if_neg (by omega)]
 by_cases c2 : owner < 1 ∨ 4611686018427387903 < owner
 ·rw [if_pos c2]
  have hE : applyE st home owner qn qb ops = ⟨st, [], [], 0, 10⟩ := by unfold applyE; rw [if_neg c1, if_pos c2]
  rw [hE] at hQ
  exact hQ T _ _ tag σ (StepS.refl hs) hU (RowW.nil _ _ _) (RowW.nil _ _ _)
 rw [if_neg c2]
 obtain ⟨R0, hR0⟩ : ∃ R0, applyL home owner qn qb ops 0 ⟨srt st, [], []⟩ = R0 := ⟨_, rfl⟩
 have hAE : applyE st home owner qn qb ops = doneOf st R0 := by unfold applyE; rw [if_neg c1, if_neg c2, hR0]
 have hk := hi.inv.keys
 have hlen := hi.len
 simp only [List.mem_cons, List.not_mem_nil, or_false, not_or] at hq
 let tag0 : Nat → Nat := fun c => if σ c ≠ none ∧ tag c % 64 = 11 then tag c + 12 else tag c
 have t0 : ∀ c, tag c % 64 ≠ 11 → tag0 c = tag c := fun c h => by simp only [tag0]; rw [if_neg (fun h' => h h'.2)]
 have t1 : ∀ c, σ c ≠ none → tag c % 64 = 11 → tag0 c = tag c + 12 := fun c h h' => by simp only [tag0]; rw [if_pos ⟨h, h'⟩]
 have hU0 : RefIs tag0 σ 23 T (srt st) := hU.retag (fun c hc hn => by rw [t1 c hn (by rw [hc]), hc]) (fun c hc hn => by rw [t1 c hn (by rw [hc]), hc]) (fun c hc _ => by rw [t0 c (by rw [hc]; decide), hc])
 have hops0 : ROpsR ro tag0 σ q s ops := by
  obtain ⟨ds, h1, h2, h3⟩ := hops
  exact ⟨ds, h1, RowW.retag h2 fun c hc _ => by rw [t0 c (by omega), hc], h3⟩
 have conv : ∀ (tagE : Nat → Nat) (σE : AH), StepS (11 :: DQ) ro tag0 σ tagE σE → ∀ tagF : Nat → Nat, (∀ c, tagF c = if σ c ≠ none then tag c else tagE c) →
   StepS DQ ro tag σ tagF σE ∧ (∀ c, σE c ≠ none → tagE c % 64 ≠ 23 → tagF c = tagE c) := fun tagE σE stE tagF hF => by
  obtain ⟨R, hR, stR⟩ := stE
  refine ⟨⟨R.filter fun x => decide (x % 64 ≠ 11), fun x hx => ?_, ⟨fun c o hc hn => ?_, fun c o hc => ?_, stR.sep⟩⟩, fun c hcE h23 => ?_⟩
  ·obtain ⟨h1, h2⟩ := List.mem_filter.1 hx
   have := hR x h1
   rcases List.mem_cons.1 this with h | h
   ·exact absurd h (by simpa using h2)
   ·exact h
  ·have hne : σ c ≠ none := by rw [hc]; simp
   refine ⟨by rw [hF, if_pos hne], ?_⟩
   by_cases h : tag c % 64 = 11
   ·refine (stR.keep c o hc fun hm => ?_).2
    have := hR _ hm
    rw [t1 c hne h] at this
    have e : (tag c + 12) % 64 = 23 := by omega
    rw [e] at this
    revert this; decide
   ·refine (stR.keep c o hc fun hm => ?_).2
    rw [t0 c h] at hm
    exact hn (List.mem_filter.2 ⟨hm, by simpa using h⟩)
  ·have hne : σ c ≠ none := by rw [hc]; simp
   exact ⟨by rw [hF, if_pos hne], (stR.old c o hc).2⟩
  ·by_cases hne : σ c ≠ none
   ·rw [hF, if_pos hne]
    have e : tagE c = tag0 c := by
     cases h : σ c with
     | none => exact absurd h hne
     | some o => exact (stR.old c o h).1
    by_cases h : tag c % 64 = 11
    ·rw [e, t1 c hne h] at h23; omega
    ·rw [e, t0 c h]
   ·rw [hF, if_neg hne]
 have hsl' : (srt st).length = st.length := (srt_perm st).length_eq
 refine rcopy_ok (tag := tag0) (r := 23) (by decide) (by decide) hU0 (by omega) (fun p hp => (hi.inv.small p ((srt_perm st).mem_iff.1 hp)).2) fun U tag1 σ1 st1 hU1 => ?_
 have hss : srt (srt st) = srt st := (srt_of (srt_srt hk) (List.Perm.refl _)).symm
 have hops1 : ROpsR ro tag1 σ1 q s ops := hops0.keepS st1 (by simp; omega)
 have k1 : StepS (11 :: DQ) ro tag0 σ tag1 σ1 := st1.mono (by decide)
 suffices ∀ (m j : Nat) (w : Work) (rs es : Sl) (tag6 : Nat → Nat) (σ6 : AH), j + m = ops.length → applyL home owner qn qb (ops.drop j) j w = R0 → InvB (b + j) w.st → w.res.length ≤ j ∧ w.eff.length ≤ j → StepS (11 :: DQ) ro tag1 σ1 tag6 σ6 → RefIs tag6 σ6 11 U (srt w.st) →
   RowW tag6 σ6 40 175 2 rs (w.res.map resV) → RowW tag6 σ6 41 180 2 es (w.eff.map effV) → lfpD (l5_ref08_Apply B ro (some ⟨T, 0, none⟩) (S home) owner qn qb s (some ⟨U, 0, none⟩) Q) (rs, es, (j : Int)) σ6 from
  this _ 0 ⟨srt st, [], []⟩ _ _ tag1 σ1 (Nat.zero_add _) hR0 (invB_srt hi) ⟨by simp, by simp⟩ (StepS.refl st1.sep) (by rw [hss]; exact hU1) (RowW.nil _ _ _) (RowW.nil _ _ _)
 intro m
 induction m with
 | zero =>
  intro j w rs es tag6 σ6 hj hap hi6 hl6 st6 hU6 r6 e6
  refine lfpD.intro ?_
  unfold l5_ref08_Apply
  simp only
  rw [if_neg (by omega)]
  rw [List.drop_of_length_le (by omega)] at hap
  have hAE' : applyE st home owner qn qb ops = ⟨w.st, w.res, w.eff, -1, 0⟩ := by rw [hAE, ← hap]; rfl
  unfold j2_ref08_Apply
  obtain ⟨f1, f2⟩ := conv tag6 σ6 (k1.trans st6) _ fun c => rfl
  rw [hAE'] at hQ
  refine hQ U rs es _ σ6 f1 ?_ ?_ ?_
  ·exact hU6.retag (fun c hc hn => by rw [f2 c hn (by rw [hc]; decide), hc]) (fun c hc hn => by rw [f2 c hn (by rw [hc]; decide), hc]) (fun c hc hn => by rw [f2 c hn (by rw [hc]; decide), hc])
  ·exact RowW.retag r6 fun c hc hn => by rw [f2 c hn (by rw [hc]; decide), hc]
  ·exact RowW.retag e6 fun c hc hn => by rw [f2 c hn (by rw [hc]; decide), hc]
 | succ m ih =>
  intro j w rs es tag6 σ6 hj hap hi6 hl6 st6 hU6 r6 e6
  have hjl : j < ops.length := by omega
  have hops6 := hops1.keepS st6 (by simp; omega)
  obtain ⟨ds, d1, d2, d3⟩ := id hops6
  have hjd : j < ds.length := by omega
  have hz : (List.zipWith opV ops ds)[j]? = some (opV ops[j] ds[j]) := by
   rw [List.getElem?_zipWith, List.getElem?_eq_getElem hjl, List.getElem?_eq_getElem hjd]; try rfl
  have hdj := d3 j ops[j] ds[j] (List.getElem?_eq_getElem hjl) (List.getElem?_eq_getElem hjd)
  have hdrop : ops.drop j = ops[j] :: ops.drop (j + 1) := List.drop_eq_getElem_cons hjl
  have cellsO : ∀ tag7 σ7, StepS (11 :: DQ) ro tag6 σ6 tag7 σ7 → ∃ p, s.a = some p ∧ ∀ i v, (opV ops[j] ds[j])[i]? = some v → acell ro σ7 ((p.add (Int.toNat (j : Int) * 6)).add i) = some v := fun tag7 σ7 k => by
   obtain ⟨bq, hbq, _, hget⟩ := (RowW.keepS d2 k (by simp; omega)).get k.sep hz
   refine ⟨_, hbq, fun i v hv => ?_⟩
   rw [Int.toNat_natCast, add_add, add_add, Nat.zero_add]
   exact hget i v hv
  refine lfpD.intro ?_
  unfold l5_ref08_Apply
  simp only
  rw [if_pos (by omega)]
  obtain ⟨p0, hp0, hc0⟩ := cellsO tag6 σ6 (StepS.refl st6.sep)
  refine ⟨p0, hp0, by omega, by omega, ops[j].kind, S ops[j].path, ds[j], ops[j].ver, ops[j].eph, ops[j].seq, cellsAt_of 0 fun i v hv => by rw [Nat.zero_add]; exact hc0 i v hv, ?_⟩
  rw [hdrop] at hap
  unfold applyL at hap
  refine rone_ok (tag := tag6) (b := b + j) (w := w) hi6 (by omega) hU6 hdj (fun he tag7 σ7 st7 => ?_) fun he tag7 σ7 st7 hU7 => ?_
  ·-- a bad one
   rw [if_pos he] at hap
   have hAE' : applyE st home owner qn qb ops = ⟨st, [], [], (j : Nat), (doE home owner qn qb w ops[j]).1⟩ := by rw [hAE, ← hap]; rfl
   refine nw_st (tag := tag7) 43 st7.sep rfl (by simp [storable]) fun X tag8 σ8 st8 r8 => ?_
   rw [if_pos (by simpa using he)]
   obtain ⟨f1, f2⟩ := conv tag8 σ8 (k1.trans (st6.trans ((st7.mono (by decide)).trans ((st8 []).s (by simp))))) _ fun c => rfl
   rw [hAE'] at hQ
   exact hQ T _ _ _ σ8 f1 (hU.keepS f1) (RowW.nil _ _ _) (RowW.nil _ _ _)
  ·rw [if_neg (by simpa using he)] at hap
   refine nw_st (tag := tag7) 43 st7.sep rfl (by simp [storable]) fun X tag8 σ8 st8 r8 => ?_
   rw [if_neg (by simp)]
   have hw0 : withinE home ops[j] = 0 := by
    by_cases h : withinE home ops[j] = 0
    ·exact h
    ·unfold doE at he; rw [if_pos h] at he; exact absurd he h
   have hkr : 1 ≤ ops[j].kind ∧ ops[j].kind ≤ 4 := by
    unfold withinE at hw0
    split at hw0
    ·cases hw0
    ·omega
   have hdc := doE_core (owner := owner) (qn := qn) (qb := qb) (w := w) hw0
   have hd2 : (doE home owner qn qb w ops[j]).2.res = w.res ++ [((core owner w.st ops[j]).2.1, (core owner w.st ops[j]).2.2.1)] ∧ (doE home owner qn qb w ops[j]).2.eff = if ops[j].kind = 4 then w.eff else w.eff ++ [(ops[j].kind, if ops[j].kind = 1 then (core owner w.st ops[j]).2.1 else ops[j].path)] := by
    rw [hdc] at he ⊢
    split at he
    ·rename_i h; exact absurd he h
    ·split at he
     ·cases he
     ·rename_i h1 h2
      rw [if_neg h1, if_neg h2]
      exact ⟨rfl, rfl⟩
   obtain ⟨hres, heff⟩ := hd2
   have k67 : StepS (11 :: DQ) ro tag6 σ6 tag7 σ7 := st7.mono (by decide)
   have k68 : StepS (11 :: DQ) ro tag6 σ6 tag8 σ8 := k67.trans ((st8 []).s (by simp))
   refine ⟨_, _, Row.cellsAt r8 (st8 []).sep, ?_⟩
   refine nw_cells (tag := tag8) 44 (st8 []).sep fun Y tag9 σ9 st9 r9 => ?_
   have r69 := ((RowW.keepS r6 st7).keep (st8 [])).keep (st9 [])
   have e69 := ((RowW.keepS e6 st7).keep (st8 [])).keep (st9 [])
   refine awp_appendW (l2 := [resV ((core owner w.st ops[j]).2.1, (core owner w.st ops[j]).2.2.1)]) r69 (st9 []).sep (Row.readW1 r9 (st9 []).sep rfl (by decide)) (t := 92) (by kernel_rfl) ty175 rfl (by simp [resV, storable]) (by simp; omega) (by decide) fun rs' taga σa sta ra => ?_
   have sta' := sta [40] (.inr (by simp))
   refine ⟨rs', rfl, ?_⟩
   have ea := RowW.keep e69 sta'
   have k6a : StepS (11 :: DQ) ro tag6 σ6 taga σa := k68.trans (((st9 []).s (by simp)).trans (sta'.s (by simp)))
   have Ua := ((hU7.keep (st8 [])).keep (st9 [])).keep sta'
   have r8a := (r8.keep (st9 [])).keep sta'
   have hi7 : InvB (b + (j + 1)) (doE home owner qn qb w ops[j]).2.st := by
    have hbj : b + j ≤ 4398046511103 := by omega
    have := doE_inv (home := home) (owner := owner) (qn := qn) (qb := qb) (o := ops[j]) hi6 hbj
    exact this
   have hdl := doE_len (home := home) (owner := owner) (qn := qn) (qb := qb) (w := w) (o := ops[j])
   have next : ∀ (es' : Sl) (tagb : Nat → Nat) (σb : AH), StepS [41, 45] ro taga σa tagb σb → RowW tagb σb 41 180 2 es' ((doE home owner qn qb w ops[j]).2.eff.map effV) → j9_ref08_Apply B ro (some ⟨T, 0, none⟩) (S home) owner qn qb s (j : Int) (some ⟨U, 0, none⟩) Q (lfpD (l5_ref08_Apply B ro (some ⟨T, 0, none⟩) (S home) owner qn qb s (some ⟨U, 0, none⟩) Q)) rs' es' σb := fun es' tagb σb stb hes => by
    unfold j9_ref08_Apply
    rw [Pa.inc j (by omega)]
    refine ih (j + 1) _ rs' es' tagb σb (by omega) hap hi7 ⟨by omega, by omega⟩ (st6.trans (k6a.trans (stb.mono (by decide)))) (Ua.keepS stb) ?_ hes
    rw [hres, List.map_append]
    exact RowW.keepS ra stb
   have app : ∀ (pth : Str), ops[j].kind ≠ 4 → (if ops[j].kind = 1 then (core owner w.st ops[j]).2.1 else ops[j].path) = pth → nw ro σa (.cells #[.int .i64 ops[j].kind, .string (S pth)] 180) fun x => awp prog ro (Builtin.append_ #[93, 93] 93 #[Sl.v es, Sl.v (⟨some ⟨x, 0, none⟩, 1, 1⟩ : Sl)]) (fun v σ => ∃ (x80 : Sl), v = Sl.v x80 ∧
     j9_ref08_Apply B ro (some ⟨T, 0, none⟩) (S home) owner qn qb s (j : Int) (some ⟨U, 0, none⟩) Q (lfpD (l5_ref08_Apply B ro (some ⟨T, 0, none⟩) (S home) owner qn qb s (some ⟨U, 0, none⟩) Q)) rs' x80 σ) := fun pth h4 hp => by
    refine nw_cells (tag := taga) 45 sta'.sep fun Z tagb σb stb rb => ?_
    refine awp_appendW (l2 := [effV (ops[j].kind, pth)]) (RowW.keep ea (stb [])) (stb []).sep (Row.readW1 rb (stb []).sep rfl (by decide)) (t := 93) (by kernel_rfl) ty180 rfl (by simp [effV, storable]) (by simp; omega) (by decide) fun es' tagc σc stc rc => ?_
    have stc' := stc [41] (.inr (by simp))
    refine ⟨es', rfl, next es' tagc σc (((stb []).s (by simp)).trans (stc'.s (by simp))) ?_⟩
    rw [heff, if_neg h4, hp, List.map_append]
    exact rc
   obtain ⟨pa, hpa, hca⟩ := cellsO taga σa k6a
   refine ⟨pa, hpa, by omega, by omega, ops[j].kind, by simpa [add_zero] using hca 0 _ rfl, ?_⟩
   by_cases k1' : ops[j].kind = 1
   ·rw [if_pos k1']
    obtain ⟨px, hpx, hgx⟩ := r8a.ptr sta'.sep (by simp)
    cases hpx
    refine ⟨S (core owner w.st ops[j]).2.1, by simpa [add_zero] using hgx 0 _ rfl, ?_⟩
    have := app (core owner w.st ops[j]).2.1 (by omega) (by rw [if_pos k1'])
    rw [k1'] at this
    exact this
   ·rw [if_neg k1']
    refine ⟨pa, hpa, by omega, by omega, ops[j].kind, by simpa [add_zero] using hca 0 _ rfl, ?_⟩
    by_cases k4' : ops[j].kind < 4
    ·rw [if_pos k4']
     refine ⟨pa, hpa, by omega, by omega, pa, hpa, by omega, by omega, ops[j].kind, by simpa [add_zero] using hca 0 _ rfl, S ops[j].path, hca 1 _ rfl, ?_⟩
     exact app ops[j].path (by omega) (by rw [if_neg k1'])
    ·rw [if_neg k4']
     refine next es taga σa (StepS.refl sta'.sep) ?_
     rw [heff, if_pos (by omega)]
     exact ea
end Zt
namespace Zt
open Go SL G Pa Wi
variable {B : World} {ro σ σ' : AH} {tag tag' : Nat → Nat}
theorem op1_ok {o : MOp} {d : Sl} {Q : Int → ByteArray → Sl → Int → Bool → Bool → AH → Prop} (hQ : ∀ tag' σ', StepS [0] ro tag σ tag' σ' → Q o.kind (S o.path) d o.ver o.eph o.seq σ') : c_law08_op B ro o.kind (S o.path) d o.ver o.eph o.seq σ Q := by
 refine law08_op_ok fun hs => ?_
 unfold f_law08_op
 refine nw_cells (tag := tag) 0 hs fun X tag1 σ1 st1 r1 => ?_
 refine nw_cells (tag := tag1) 0 (st1 []).sep fun Y tag2 σ2 st2 r2 => ?_
 have r1' := r1.keep (st2 [])
 obtain ⟨p, hp, hg⟩ := r1'.ptr (st2 []).sep (by simp)
 cases hp
 refine ⟨_, hg 0 _ rfl, _, hg 1 _ rfl, _, hg 2 _ rfl, _, hg 3 _ rfl, _, hg 4 _ rfl, _, hg 5 _ rfl, ?_⟩
 refine stA_cells r2 (st2 []).sep rfl (by simp [storable, Sl.v]) fun σ3 st3 r3 c3 => ?_
 exact ⟨_, _, _, _, _, _, c3, hQ tag2 σ3 (((st1 []).s (by simp)).trans (((st2 []).s (by simp)).trans (st3.s (by simp))))⟩
end Zt
namespace Zt
open Go SL G Pa
variable {B : World} {ro σ σ' : AH} {tag tag' : Nat → Nat}
theorem RowW.cellsR {r : Nat} {e : TypeId} {s : Sl} {l : List (Str × Int)} (h : RowW tag σ r e 2 s (l.map resV)) (hs : SL.Sep ro σ) {j : Nat} {p : Str × Int} (hj : l[j]? = some p) :
  ∃ q, s.a = some q ∧ acell ro σ (q.add (Int.toNat (j : Int) * 2)) = some (.string (S p.1)) ∧ acell ro σ ((q.add (Int.toNat (j : Int) * 2)).add 1) = some (.int .i64 p.2) := by
 obtain ⟨b, ha, _, hg⟩ := RowW.get h hs (j := j) (x := resV p) (by rw [List.getElem?_map, hj]; rfl)
 refine ⟨_, ha, ?_, ?_⟩
 ·have := hg 0 _ rfl
  rw [Int.toNat_natCast, add_add, Nat.zero_add]
  rwa [Nat.add_zero] at this
 ·have := hg 1 _ rfl
  rw [Int.toNat_natCast, add_add, add_add, Nat.zero_add]
  exact this
theorem RowW.cellsE {r : Nat} {e : TypeId} {s : Sl} {l : List (Int × Str)} (h : RowW tag σ r e 2 s (l.map effV)) (hs : SL.Sep ro σ) {j : Nat} {p : Int × Str} (hj : l[j]? = some p) :
  ∃ q, s.a = some q ∧ acell ro σ (q.add (Int.toNat (j : Int) * 2)) = some (.int .i64 p.1) ∧ acell ro σ ((q.add (Int.toNat (j : Int) * 2)).add 1) = some (.string (S p.2)) := by
 obtain ⟨b, ha, _, hg⟩ := RowW.get h hs (j := j) (x := effV p) (by rw [List.getElem?_map, hj]; rfl)
 refine ⟨_, ha, ?_, ?_⟩
 ·have := hg 0 _ rfl
  rw [Int.toNat_natCast, add_add, Nat.zero_add]
  rwa [Nat.add_zero] at this
 ·have := hg 1 _ rfl
  rw [Int.toNat_natCast, add_add, add_add, Nat.zero_add]
  exact this
theorem sameResults_ok {q1 q2 : Nat} {e1 e2 : TypeId} {s1 s2 : Sl} {l : List (Str × Int)} {Q : Bool → AH → Prop} (h1 : RowW tag σ q1 e1 2 s1 (l.map resV)) (h2 : RowW tag σ q2 e2 2 s2 (l.map resV)) (hl : l.length ≤ 4611686018427387903) (hQ : SL.Sep ro σ → Q true σ) : c_law08_sameResults B ro s1 s2 σ Q := by
 refine law08_sameResults_ok fun hs => ?_
 unfold f_law08_sameResults
 have n1 := h1.len
 have n2 := h2.len
 rw [List.length_map] at n1 n2
 rw [if_neg (by rw [n1, n2]; simp)]
 suffices ∀ m j, j + m = l.length → lfpD (l2_law08_sameResults B ro s1 s2 Q) (j : Int) σ from this _ 0 (Nat.zero_add _)
 intro m
 induction m with
 | zero =>
  intro j hj
  refine lfpD.intro ?_
  unfold l2_law08_sameResults
  rw [if_neg (by omega)]
  exact hQ hs
 | succ m ih =>
  intro j hj
  have hjl : j < l.length := by omega
  have hjg : l[j]? = some l[j] := List.getElem?_eq_getElem hjl
  obtain ⟨p, hp, a0, a1⟩ := RowW.cellsR h1 hs hjg
  obtain ⟨q, hq, b0, b1⟩ := RowW.cellsR h2 hs hjg
  refine lfpD.intro ?_
  unfold l2_law08_sameResults
  rw [if_pos (by omega)]
  refine ⟨p, hp, by omega, by omega, q, hq, by omega, by omega, _, a0, _, b0, ?_⟩
  rw [if_neg (by simp)]
  refine ⟨p, hp, by omega, by omega, q, hq, by omega, by omega, _, a1, _, b1, ?_⟩
  unfold j4_law08_sameResults
  rw [if_neg (by simp), Pa.inc j (by omega)]
  exact ih (j + 1) (by omega)
theorem sameEffects_ok {q1 q2 : Nat} {e1 e2 : TypeId} {s1 s2 : Sl} {l : List (Int × Str)} {Q : Bool → AH → Prop} (h1 : RowW tag σ q1 e1 2 s1 (l.map effV)) (h2 : RowW tag σ q2 e2 2 s2 (l.map effV)) (hl : l.length ≤ 4611686018427387903) (hQ : SL.Sep ro σ → Q true σ) : c_law08_sameEffects B ro s1 s2 σ Q := by
 refine law08_sameEffects_ok fun hs => ?_
 unfold f_law08_sameEffects
 have n1 := h1.len
 have n2 := h2.len
 rw [List.length_map] at n1 n2
 rw [if_neg (by rw [n1, n2]; simp)]
 suffices ∀ m j, j + m = l.length → lfpD (l2_law08_sameEffects B ro s1 s2 Q) (j : Int) σ from this _ 0 (Nat.zero_add _)
 intro m
 induction m with
 | zero =>
  intro j hj
  refine lfpD.intro ?_
  unfold l2_law08_sameEffects
  rw [if_neg (by omega)]
  exact hQ hs
 | succ m ih =>
  intro j hj
  have hjl : j < l.length := by omega
  have hjg : l[j]? = some l[j] := List.getElem?_eq_getElem hjl
  obtain ⟨p, hp, a0, a1⟩ := RowW.cellsE h1 hs hjg
  obtain ⟨q, hq, b0, b1⟩ := RowW.cellsE h2 hs hjg
  refine lfpD.intro ?_
  unfold l2_law08_sameEffects
  rw [if_pos (by omega)]
  refine ⟨p, hp, by omega, by omega, q, hq, by omega, by omega, _, a0, _, b0, ?_⟩
  rw [if_neg (by simp)]
  refine ⟨p, hp, by omega, by omega, q, hq, by omega, by omega, _, a1, _, b1, ?_⟩
  unfold j4_law08_sameEffects
  rw [if_neg (by simp), Pa.inc j (by omega)]
  exact ih (j + 1) (by omega)
theorem begin_ok {a0 : Sl} {hs : List Str} {Q : Option Addr → AH → Prop} (hrd : SL.Read ro (fun _ => none) a0 (hs.map Pa.vS)) (hl : hs.length ≤ 1073741824) (hhl : ∀ h ∈ hs, h.length ≤ 4611686018427387903)
  (hQ : ∀ T tag' σ', StepS [11] ro tag σ tag' σ' → RefIs tag' σ' 11 T (srt (startE hs)) → Q (some ⟨T, 0, none⟩) σ') : c_law08_begin B ro a0 σ Q := by
 refine law08_begin_ok fun hsep => ?_
 unfold f_law08_begin
 have hln : a0.len = hs.length := by rw [hrd.1, List.length_map]
 refine rnew_ok (tag := tag) fun T tag1 σ1 st1 h1 => ?_
 have hnew : srt St.new = St.new := (srt_of (List.pairwise_singleton _ _) (List.Perm.refl _)).symm
 suffices ∀ m j tag2 σ2, j + m = hs.length → StepS [11] ro tag σ tag2 σ2 → RefIs tag2 σ2 11 T (srt (startE (hs.take j))) → lfpD (l3_law08_begin B ro a0 (some ⟨T, 0, none⟩) Q) (j : Int) σ2 from
  this _ 0 tag1 σ1 (Nat.zero_add _) (st1.s (by simp)) (by rw [show startE (hs.take 0) = St.new from rfl, hnew]; exact h1)
 intro m
 induction m with
 | zero =>
  intro j tag2 σ2 hj st2 h2
  refine lfpD.intro ?_
  unfold l3_law08_begin
  rw [if_neg (by omega)]
  unfold j2_law08_begin
  rw [List.take_of_length_le (by omega)] at h2
  exact hQ T tag2 σ2 st2 h2
 | succ m ih =>
  intro j tag2 σ2 hj st2 h2
  have hjl : j < hs.length := by omega
  obtain ⟨p, hp⟩ : ∃ p, a0.a = some p := by
   cases e : a0.a with
   | none => have := hrd.2.1 e; simp at this; rw [this] at hjl; simp at hjl
   | some p => exact ⟨p, rfl⟩
  have hcell := (hrd.keep (σ := σ2)).2.2 p hp j (Pa.vS hs[j]) (by rw [List.getElem?_map, List.getElem?_eq_getElem hjl]; rfl)
  have hxl := hhl _ (List.getElem_mem hjl)
  have hi : InvB (hs.take j).length (startE (hs.take j)) := invB_start (hs.take j) (by rw [List.length_take]; omega)
  have hk := hi.inv.keys
  have hil := hi.len
  rw [List.length_take] at hil
  refine lfpD.intro ?_
  unfold l3_law08_begin
  rw [if_pos (by omega)]
  refine ⟨p, hp, by omega, by omega, S hs[j], by rw [Int.toNat_natCast, Nat.mul_one]; exact hcell, ?_⟩
  refine ⟨by rw [show (⟨#[47]⟩ : ByteArray).size = 1 from rfl, show (S hs[j]).size = hs[j].length from by rw [← L_len, L_S]]; omega, ?_⟩
  have hcat : (⟨#[47]⟩ : ByteArray) ++ S hs[j] = S (47 :: hs[j]) := by
   rw [show (⟨#[47]⟩ : ByteArray) = S [47] from rfl, S_append]; rfl
  rw [hcat]
  refine rcreate_ok (d := []) h2 (srt_srt hk).nodup (by rw [(srt_perm _).length_eq]; omega) ⟨rfl, fun _ => rfl, fun p h => by cases h⟩ fun tag3 σ3 st3 h3 => ?_
  rw [rcr_srt hk] at h3
  rw [Pa.inc j (by omega)]
  refine ih (j + 1) tag3 σ3 (by omega) (st2.trans st3) ?_
  have e : startE (hs.take (j + 1)) = (create (startE (hs.take j)) (47 :: hs[j]) [] 0 false).1 := by
   unfold startE
   rw [List.take_add_one, List.getElem?_eq_getElem hjl, List.foldl_append]; rfl
  rw [e]; exact h3
theorem opsR_ok {a0 : Sl} {ops : List MOp} {q : Nat} {Q : Sl → AH → Prop} (hq : q < 64) (hq0 : q ≠ 0) (hq6 : q ≠ 6) (hO : OpsR ro a0 ops) (hl : ops.length ≤ 2199023255488) (hQ : ∀ s tag' σ', StepS [0, q] ro tag σ tag' σ' → ROpsR ro tag' σ' q s ops → Q s σ') : c_law08_ops B ro a0 σ Q := by
 refine law08_ops_ok fun hsep => ?_
 unfold f_law08_ops
 have hqm : q % 64 = q := Nat.mod_eq_of_lt hq
 have hln := hO.1
 suffices ∀ m j s tag2 σ2, j + m = ops.length → StepS [0, q] ro tag σ tag2 σ2 → ROpsR ro tag2 σ2 q s (ops.take j) → lfpD (l3_law08_ops B ro a0 Q) (s, (j : Int)) σ2 from
  this _ 0 ⟨none, 0, 0⟩ tag σ (Nat.zero_add _) (StepS.refl hsep) ⟨[], rfl, RowW.nil _ _ _, fun i o d h => by cases h⟩
 intro m
 induction m with
 | zero =>
  intro j s tag2 σ2 hj st2 h2
  refine lfpD.intro ?_
  unfold l3_law08_ops
  simp only
  rw [if_neg (by omega)]
  unfold j1_law08_ops
  rw [List.take_of_length_le (by omega)] at h2
  exact hQ s tag2 σ2 st2 h2
 | succ m ih =>
  intro j s tag2 σ2 hj st2 h2
  have hjl : j < ops.length := by omega
  obtain ⟨p, ds, hp, hc', hrd, _⟩ := hO.2 j ops[j] (List.getElem?_eq_getElem hjl)
  have hc := hc' σ2
  refine lfpD.intro ?_
  unfold l3_law08_ops
  simp only
  rw [if_pos (by omega)]
  refine ⟨p, hp, by omega, by omega, ops[j].kind, S ops[j].path, ds, ops[j].ver, ops[j].eph, ops[j].seq, by rw [Int.toNat_natCast]; exact hc, ?_⟩
  refine nw_st (tag := tag2) 0 st2.sep rfl (by simp [storable, Sl.v]) fun x tag3 σ3 st3 r3 => ?_
  refine ⟨ops[j].kind, S ops[j].path, ds, ops[j].ver, ops[j].eph, ops[j].seq, Row.cellsAt r3 (st3 []).sep, ?_⟩
  refine op1_ok (tag := tag3) fun tag4 σ4 st4 => ?_
  refine nw_cells (tag := tag4) 0 st4.sep fun y tag6 σ6 st6 r6 => ?_
  have k26 : StepS [0] ro tag2 σ2 tag6 σ6 := ((st3 []).s (by simp)).trans (st4.trans ((st6 []).s (by simp)))
  obtain ⟨dd, d1, d2, d3⟩ := h2.keepS k26 (by simp; omega)
  have hlz : (List.zipWith opV (ops.take j) dd).length = j := by rw [List.length_zipWith, d1, Nat.min_self, List.length_take]; omega
  refine awp_appendW (l2 := [opV ops[j] ds]) d2 (st6 []).sep (Row.readW1 r6 (st6 []).sep rfl (by decide)) (t := 96) (by kernel_rfl) ty179 rfl (by simp [opV, storable, Sl.v]) (by rw [hlz]; simp; omega) (by decide) fun sn tag7 σ7 st7 r7 => ?_
  have st7' := st7 [q] (.inr (by simp))
  have s7 : StepS [q] ro tag6 σ6 tag7 σ7 := st7'.s (by simp [hqm])
  refine ⟨sn, rfl, ?_⟩
  rw [Pa.inc j (by omega)]
  refine ih (j + 1) sn tag7 σ7 (by omega) (st2.trans ((k26.mono (by simp)).trans (s7.mono (by simp)))) ?_
  have etk : ops.take (j + 1) = ops.take j ++ [ops[j]] := by rw [List.take_add_one, List.getElem?_eq_getElem hjl]; rfl
  rw [etk]
  refine ⟨dd ++ [ds], by rw [List.length_append, List.length_append, d1]; rfl, ?_, fun i o d ho hd => ?_⟩
  ·rw [List.zipWith_append d1.symm]; exact r7
  ·rcases Nat.lt_or_ge i (ops.take j).length with h | h
   ·rw [List.getElem?_append_left h] at ho
    rw [List.getElem?_append_left (by omega)] at hd
    exact d3 i o d ho hd
   ·rw [List.getElem?_append_right h] at ho
    rw [List.getElem?_append_right (by omega), d1] at hd
    cases hz : i - (ops.take j).length with
    | zero =>
     rw [hz] at ho hd
     cases ho; cases hd
     exact hrd
    | succ k => rw [hz] at ho; cases ho
end Zt
end Go.Proofs.YthfpmipeejjogaaGreatDoor
