/- MuF, GL8, MuG -/
import Derived.Test.YthfpmipeejjogaaGreatDoorXK
set_option maxRecDepth 100000
set_option maxHeartbeats 4000000
set_option linter.unusedVariables false
set_option linter.unusedSimpArgs false
open Go.IntKind (i64)
open Go.Proofs.Tryz
namespace Go.Proofs.YthfpmipeejjogaaGreatDoor
namespace Zt
open Go SL G Pa
variable {B : World} {ro σ σ' : AH} {tag tag' : Nat → Nat}
def opV (o : MOp) (d : Sl) : List Value := [vI o.kind, Pa.vS o.path, Sl.v d, vI o.ver, .bool o.eph, .bool o.seq]
def OpsAtD (dr : Nat → Nat) (tag : Nat → Nat) (σ : AH) (q : Nat) (s : Sl) (ops : List MOp) : Prop :=
 ∃ ds : List Sl, ds.length = ops.length ∧ RowW tag σ q 82 6 s (List.zipWith opV ops ds) ∧ ∀ (i : Nat) (o : MOp) (d : Sl), ops[i]? = some o → ds[i]? = some d → Row tag σ (dr i) 5 d (o.data.map vU)
abbrev OpsAt (tag : Nat → Nat) (σ : AH) (q : Nat) (s : Sl) (ops : List MOp) : Prop := OpsAtD (fun _ => 6) tag σ q s ops
theorem OpsAtD.keepS {dr : Nat → Nat} {C : List Nat} {q : Nat} {s : Sl} {ops : List MOp} (h : OpsAtD dr tag σ q s ops) (k : StepS C ro tag σ tag' σ') (hq : q % 64 ∉ C := by decide) (h6 : ∀ i, dr i % 64 ∉ C := by decide) : OpsAtD dr tag' σ' q s ops := by
 obtain ⟨ds, h1, h2, h3⟩ := h
 exact ⟨ds, h1, RowW.keepS h2 k hq, fun i o d ho hd => (h3 i o d ho hd).keepS k (h6 i)⟩
theorem OpsAtD.len {dr : Nat → Nat} {q : Nat} {s : Sl} {ops : List MOp} (h : OpsAtD dr tag σ q s ops) : s.len = ops.length := by
 obtain ⟨ds, h1, h2, h3⟩ := h
 rw [h2.len, List.length_zipWith, h1, Nat.min_self]
theorem OpsAtD.retag {dr : Nat → Nat} {tg : Nat → Nat} {q : Nat} {s : Sl} {ops : List MOp} (h : OpsAtD dr tag σ q s ops) (hr : ∀ c, tag c = q ∨ (∃ i, tag c = dr i) → σ c ≠ none → tg c = tag c) : OpsAtD dr tg σ q s ops := by
 obtain ⟨ds, h1, h2, h3⟩ := h
 exact ⟨ds, h1, RowW.retag h2 fun c hc hn => by rw [hr c (.inl hc) hn, hc], fun i o d ho hd => Row.retag (h3 i o d ho hd) fun c hc hn => by rw [hr c (.inr ⟨i, hc⟩) hn, hc]⟩
abbrev DA : List Nat := [0, 1, 2, 3, 4, 5, 12, 13, 14, 15, 17, 18, 19, 20, 21, 25, 26, 27, 30, 31]
theorem dc_da : ∀ c ∈ DC, c ∈ DA := by decide
theorem stA_cells {r : Nat} {e : TypeId} {b n c : Nat} {l vs : List Value} {K : AH → Prop} (h : Row tag σ r e ⟨some ⟨b, 0, none⟩, n, c⟩ l) (hs : SL.Sep ro σ) (hl : vs.length = l.length) (hv : ∀ v ∈ vs, storable v = true)
  (hK : ∀ σ', Step [r] ro tag σ tag σ' → Row tag σ' r e ⟨some ⟨b, 0, none⟩, n, c⟩ vs → SL.cellsAt ro σ' ⟨b, 0, none⟩ 0 vs → K σ') : stN ⟨b, 0, none⟩ K vs 0 σ :=
 h.stAll hs hl hv fun σ' st r' => hK σ' st r' (Row.cellsAt r' st.sep)
theorem applyD_ok {dr : Nat → Nat} {r T b q : Nat} {st : St} {home : Str} {owner qn qb : Int} {ops : List MOp} {s : Sl} {Q : Sl → Sl → Int → Int → AH → Prop} (g : Glob ro) (hr : r < 64) (hrD : r ∉ DA) (hr6 : r ≠ 6) (hr63 : r ≠ 63) (hq : q % 64 ∉ DA) (hq63 : q ≠ 63) (hT : TreeIs tag σ r T st) (hi : InvB b st) (hb : b ≤ 1073741824)
  (hdr : ∀ i, dr i % 64 ∉ r :: DA) (hops : OpsAtD dr tag σ q s ops) (hdl : ∀ o ∈ ops, o.data.length < 4611686018427387904) (hhl : home.length ≤ 4611686018427387903)
  (hQ : ∀ (rs es : Sl) (tag' : Nat → Nat) (σ' : AH), StepS (r :: DA) ro tag σ tag' σ' → TreeIs tag' σ' r T (applyE st home owner qn qb ops).st → RowW tag' σ' 14 84 2 rs ((applyE st home owner qn qb ops).res.map resV) → RowW tag' σ' 15 108 2 es ((applyE st home owner qn qb ops).eff.map effV) →
   Q rs es (applyE st home owner qn qb ops).bad (applyE st home owner qn qb ops).err σ') :
  c_multi_Apply B ro (some ⟨T, 0, none⟩) (S home) owner qn qb s σ Q := by
 refine multi_Apply_ok fun hs => ?_
 unfold f_multi_Apply
 have hsl := hops.len
 let tag0 : Nat → Nat := fun c => if σ c ≠ none ∧ tag c % 64 = 12 then 63 else tag c
 have t0 : ∀ c, tag c % 64 ≠ 12 → tag0 c = tag c := fun c h => by simp only [tag0]; rw [if_neg (fun h' => h h'.2)]
 have hT0 : TreeIs tag0 σ r T st := hT.retag fun c hc _ => t0 c (by
  rcases hc with h | h
  ·intro h'; simp only [List.mem_cons, not_or] at hrD; omega
  ·omega)
 have hops0 : OpsAtD dr tag0 σ q s ops := hops.retag fun c hc _ => t0 c (by
  rcases hc with h | ⟨i, h⟩
  ·intro h'; simp only [List.mem_cons, not_or] at hq; rw [h] at h'; omega
  ·intro h'; have := hdr i; simp only [List.mem_cons, not_or] at this; rw [h] at h'; omega)
 have old12 : ∀ c, σ c ≠ none → tag0 c % 64 ≠ 12 := fun c hc h => by
  simp only [tag0] at h
  split at h
  ·simp at h
  ·rename_i hn; exact hn ⟨hc, h⟩
 have conv : ∀ (tagE : Nat → Nat) (σE : AH), StepS (r :: DA) ro tag0 σ tagE σE → ∀ tagF : Nat → Nat, (∀ c, tagF c = if σ c ≠ none then tag c else if tagE c % 64 = 12 then tagE c - 12 + r else tagE c) →
   StepS (r :: DA) ro tag σ tagF σE ∧ (∀ c, σE c ≠ none → tagE c % 64 ≠ 12 → tagE c ≠ 63 → tagF c = tagE c) ∧ (∀ c, tagE c % 64 = 12 → tagF c = tagE c - 12 + r) := fun tagE σE stE tagF hF => by
  obtain ⟨R, hR, stR⟩ := stE
  have holdE : ∀ c, σ c ≠ none → tagE c = tag0 c := fun c hc => by
   cases h : σ c with
   | none => exact absurd h hc
   | some o => exact (stR.old c o h).1
  refine ⟨⟨R, hR, ⟨fun c o hc hn => ?_, fun c o hc => ?_, stR.sep⟩⟩, fun c hcE h12 h63 => ?_, fun c h12 => ?_⟩
  ·have hne : σ c ≠ none := by rw [hc]; simp
   refine ⟨by rw [hF, if_pos hne], ?_⟩
   by_cases h : tag c % 64 = 12
   ·have e : tag0 c = 63 := by simp only [tag0]; rw [if_pos ⟨hne, h⟩]
    refine (stR.keep c o hc ?_).2
    rw [e]
    intro hm
    have := hR 63 hm
    simp only [List.mem_cons, not_or] at this
    rcases this with h | h
    ·omega
    ·revert h; decide
   ·exact (stR.keep c o hc (by rw [t0 c h]; exact hn)).2
  ·have hne : σ c ≠ none := by rw [hc]; simp
   exact ⟨by rw [hF, if_pos hne], (stR.old c o hc).2⟩
  ·by_cases hne : σ c ≠ none
   ·rw [hF, if_pos hne]
    have e := holdE c hne
    by_cases h : tag c % 64 = 12
    ·have e2 : tag0 c = 63 := by simp only [tag0]; rw [if_pos ⟨hne, h⟩]
     exact absurd (e.trans e2) h63
    ·rw [e, t0 c h]
   ·rw [hF, if_neg hne, if_neg h12]
  ·have hne : ¬ σ c ≠ none := fun hne => old12 c hne (by rw [← holdE c hne]; exact h12)
   rw [hF, if_neg hne, if_pos h12]
 have quick : ∀ (e bad : Int) (tag1 : Nat → Nat) (σ1 : AH) (x10 : Nat), applyE st home owner qn qb ops = ⟨st, [], [], bad, e⟩ → StepS (r :: DA) ro tag0 σ tag1 σ1 → TreeIs tag1 σ1 r T st → Row tag1 σ1 26 77 ⟨some ⟨x10, 0, none⟩, 3, 3⟩ [Sl.v ⟨none, 0, 0⟩, Sl.v ⟨none, 0, 0⟩, vI 0] →
   stN ⟨x10, 0, none⟩ (fun σ => ∃ (x10_3a : Sl) (x10_3b : Sl) (x10_3c : Int), SL.cellsAt ro σ ⟨x10, 0, none⟩ 0 [Sl.v x10_3a, Sl.v x10_3b, .int .i64 x10_3c] ∧ Q x10_3a x10_3b x10_3c e σ) [Sl.v (⟨none, 0, 0⟩ : Sl), Sl.v (⟨none, 0, 0⟩ : Sl), .int .i64 bad] 0 σ1 := by
  intro e bad tag1 σ1 x10 hE st1 hT1 r1
  refine stA_cells r1 st1.sep (by simp) (by simp [storable, Sl.v]) fun σ2 st2 r2 c2 => ?_
  refine ⟨⟨none, 0, 0⟩, ⟨none, 0, 0⟩, bad, c2, ?_⟩
  obtain ⟨k1, k2, _⟩ := conv tag1 σ2 (st1.trans (st2.s (by simp))) _ fun c => rfl
  rw [hE] at hQ
  refine hQ ⟨none, 0, 0⟩ ⟨none, 0, 0⟩ _ σ2 k1 ?_ (RowW.nil _ _ _) (RowW.nil _ _ _)
  refine (hT1.keep st2 (by simp only [List.mem_cons, not_or] at hrD; simp; omega)).retag fun c hc hn => ?_
  refine k2 c hn ?_ ?_
  ·simp only [List.mem_cons, not_or] at hrD
   rcases hc with h | h <;> omega
  ·rcases hc with h | h
   ·intro h'; rw [h'] at h; omega
   ·omega
 refine nw_cells (tag := tag0) 25 hs fun x8 tag1 σ1 st1 r1 => ?_
 refine nw_cells (tag := tag1) 26 (st1 []).sep fun x10 tag2 σ2 st2 r2 => ?_
 have st02 : StepS (r :: DA) ro tag0 σ tag2 σ2 := ((st1 []).s (by simp)).trans ((st2 []).s (by simp))
 have hT2 := (hT0.keep (st1 [])).keep (st2 [])
 have hops2 := (hops0.keepS ((st1 []).s (C := []) (by simp)) (by simp) (by simp)).keepS ((st2 []).s (C := []) (by simp)) (by simp) (by simp)
 by_cases c1 : ops.length = 0 ∨ 16 < ops.length
 ·rw [if_pos (by omega)]
  exact quick 80 0 tag2 σ2 x10 (by unfold applyE; rw [if_pos c1]) st02 hT2 r2
 rw [if_neg (by omega)]
 by_cases c2 : owner < 1 ∨ 4611686018427387903 < owner
 ·rw [if_pos c2]
  exact quick 10 0 tag2 σ2 x10 (by unfold applyE; rw [if_neg c1, if_pos c2]) st02 hT2 r2
 rw [if_neg c2]
 obtain ⟨R0, hR0⟩ : ∃ R0, applyL home owner qn qb ops 0 ⟨srt st, [], []⟩ = R0 := ⟨_, rfl⟩
 have hAE : applyE st home owner qn qb ops = doneOf st R0 := by unfold applyE; rw [if_neg c1, if_neg c2, hR0]
 have hrD' := hrD
 simp only [List.mem_cons, List.not_mem_nil, or_false, not_or] at hrD'
 have hlen := hi.len
 obtain ⟨M2, bs2, hA2⟩ := hT2
 refine encode_ok hr (by omega) (by omega) (by omega) (by omega) hA2 hi.inv.small (by omega) fun se tag3 σ3 st3 r3 => ?_
 have hRr : ∀ x ∈ [30, 94, 1], x % 64 ≠ r % 64 ∧ x ≠ 6 := fun x hx => by
  simp only [List.mem_cons, List.not_mem_nil, or_false] at hx; omega
 have hT3 : TreeIs tag3 σ3 r T st := ⟨M2, bs2, hA2.keep st3 hRr⟩
 have hel := encS_len hi (by omega)
 have hdec := dec_encS (hi.inv3 (by omega)) (by omega)
 refine decode_ok (tag := tag3) (r := 12) g (by decide) (by decide) (by decide) (by decide) (r3.read st3.sep) (by omega) (fun hn => by rw [hdec] at hn; cases hn) fun st' hst' U tag4 σ4 st4 h4 => ?_
 rw [hdec] at hst'
 obtain rfl := Option.some.inj hst'
 have st3s : StepS (r :: DA) ro tag2 σ2 tag3 σ3 := st3.s (by simp)
 have st4s : StepS (r :: DA) ro tag3 σ3 tag4 σ4 := st4.mono (by simp)
 have hT4 := hT3.keepS st4 (by simp; omega) (by decide)
 have hdC : ∀ C : List Nat, (∀ c ∈ C, c ∈ DA) → ∀ i, dr i % 64 ∉ C := fun C hC i hm => hdr i (List.mem_cons_of_mem _ (hC _ hm))
 have hops4 := (hops2.keepS (st3.s (C := [30, 1]) (by decide)) (by simp only [List.mem_cons, not_or] at hq ⊢; simp; omega) (hdC _ (by decide))).keepS st4 (by simp only [List.mem_cons, not_or] at hq ⊢; simp; omega) (hdC _ (by decide))
 have r84 := ((r1.keep (st2 [])).keep st3 (by decide)).keepS st4
 have r104 := (r2.keep st3 (by decide)).keepS st4
 refine ⟨qn, qb, Row.cellsAt r84 st4.sep, ?_⟩
 refine nw_cells (tag := tag4) 13 st4.sep fun W tag5 σ5 st5 r5 => ?_
 have hW5 : WorkAt tag5 σ5 W U home owner qn qb [] [] := ⟨⟨none, 0, 0⟩, ⟨none, 0, 0⟩, r5, RowW.nil _ _ _, RowW.nil _ _ _⟩
 suffices ∀ (m j : Nat) (w : Work) (tag6 : Nat → Nat) (σ6 : AH), j + m = ops.length → applyL home owner qn qb (ops.drop j) j w = R0 → InvB (b + j) w.st → w.res.length ≤ j ∧ w.eff.length ≤ j → StepS (r :: DA) ro tag0 σ tag6 σ6 → WorkAt tag6 σ6 W U home owner qn qb w.res w.eff → TreeIs tag6 σ6 12 U w.st → TreeIs tag6 σ6 r T st → OpsAtD dr tag6 σ6 q s ops →
   Row tag6 σ6 26 77 ⟨some ⟨x10, 0, none⟩, 3, 3⟩ [Sl.v ⟨none, 0, 0⟩, Sl.v ⟨none, 0, 0⟩, vI 0] → lfpD (l16_multi_Apply B ro (some ⟨T, 0, none⟩) s x10 (some ⟨U, 0, none⟩) W Q) (j : Int) σ6 from
  this _ 0 ⟨srt st, [], []⟩ tag5 σ5 (Nat.zero_add _) hR0 (invB_srt hi) ⟨by simp, by simp⟩ (st02.trans (st3s.trans (st4s.trans ((st5 []).s (by simp))))) hW5 (h4.keep (st5 [])) (hT4.keep (st5 [])) (hops4.keepS ((st5 []).s (C := []) (by simp)) (by simp) (by simp)) (r104.keep (st5 []))
 intro m
 induction m with
 | zero =>
  intro j w tag6 σ6 hj hap hi6 hl6 st6 hW6 hU6 hT6 hops6 r106
  refine lfpD.intro ?_
  unfold l16_multi_Apply
  rw [if_neg (by omega)]
  rw [List.drop_of_length_le (by omega)] at hap
  have hAE' : applyE st home owner qn qb ops = ⟨w.st, w.res, w.eff, -1, 0⟩ := by rw [hAE, ← hap]; rfl
  unfold j10_multi_Apply
  obtain ⟨M6, bs6, hA6⟩ := hT6
  obtain ⟨MU, bsU, hAU⟩ := hU6
  refine ⟨_, rfl, some MU, Row.cellsAt hAU.cell st6.sep, _, rfl, ?_⟩
  refine stA_cells hA6.cell st6.sep (by simp) (by simp [storable]) fun σ7 st7 r7 _ => ?_
  obtain ⟨rs, es, a, bb, cc⟩ := hW6.mem
  have hr13 : ∀ x : Nat, x ∈ DA → x ∉ [r] := fun x hx h => by
   rw [List.mem_singleton] at h; rw [h] at hx; exact hrD hx
  refine (a.keep st7 (hr13 13 (by decide))).st (i := 2) st7.sep rfl (by simp) rfl fun σ8 st8 r8 => ?_
  obtain ⟨pw, hpw, hgw⟩ := r8.ptr st8.sep (by simp)
  cases hpw
  refine ⟨rs, es, -1, cellsAt_of 0 fun i v hv => ?_, ?_⟩
  ·rw [Nat.zero_add]
   rcases i with _ | _ | _ | i
   ·cases hv; exact hgw 0 _ rfl
   ·cases hv; exact hgw 1 _ rfl
   ·cases hv; exact hgw 2 _ rfl
   ·cases hv
  have r108 := (r106.keep st7 (hr13 26 (by decide))).keep st8
  refine stA_cells r108 st8.sep (by simp) (by simp [storable, Sl.v]) fun σ9 st9 r9 c9 => ?_
  refine ⟨rs, es, -1, c9, ?_⟩
  have st69 : StepS (r :: DA) ro tag0 σ tag6 σ9 := st6.trans ((st7.s (by simp; omega)).trans ((st8.s (by simp)).trans (st9.s (by simp))))
  obtain ⟨k1, k2, k3⟩ := conv tag6 σ9 st69 _ fun c => rfl
  rw [hAE'] at hQ
  refine hQ rs es _ σ9 k1 ?_ ?_ ?_
  ·-- the tree that has taken the place
   have u7 := hAU.keep st7 (by simp; omega)
   have u8 := u7.keep st8
   have u9 := u8.keep st9
   have c79 := (r7.keep st8 (by simp; omega)).keep st9 (by simp; omega)
   refine ⟨MU, bsU, u9.keys, u9.len, u9.nd, Row.retag c79 fun c hc hn => ?_, MapIs.retag u9.map fun c hc hn => ?_, fun i c p hc hp => ?_⟩
   ·rw [k2 c hn (by rw [hc]; omega) (by omega), hc]
   ·rw [k3 c (by rw [hc]), hc]; omega
   ·obtain ⟨ds, n1, n2⟩ := u9.nodes i c p hc hp
    refine ⟨ds, Row.retag n1 fun c' hc' hn => ?_, Row.retag n2 fun c' hc' hn => ?_⟩
    ·rw [k3 c' (by rw [hc'] <;> omega), hc'] <;> omega
    ·rw [k2 c' hn (by rw [hc']; decide) (by omega), hc']
  ·have := ((bb.keep st7 (hr13 14 (by decide))).keep st8).keep st9
   exact RowW.retag this fun c hc hn => by rw [k2 c hn (by rw [hc]; decide) (by omega), hc]
  ·have := ((cc.keep st7 (hr13 15 (by decide))).keep st8).keep st9
   exact RowW.retag this fun c hc hn => by rw [k2 c hn (by rw [hc]; decide) (by omega), hc]
 | succ m ih =>
  intro j w tag6 σ6 hj hap hi6 hl6 st6 hW6 hU6 hT6 hops6 r106
  have hjl : j < ops.length := by omega
  obtain ⟨ds, d1, d2, d3⟩ := id hops6
  have hjd : j < ds.length := by omega
  have hz : (List.zipWith opV ops ds)[j]? = some (opV ops[j] ds[j]) := by
   rw [List.getElem?_zipWith, List.getElem?_eq_getElem hjl, List.getElem?_eq_getElem hjd]; try rfl
  have hdj := d3 j ops[j] ds[j] (List.getElem?_eq_getElem hjl) (List.getElem?_eq_getElem hjd)
  have hdlj := hdl _ (List.getElem_mem hjl)
  obtain ⟨bq, hbq, _, hget⟩ := d2.get st6.sep hz
  have hdrop : ops.drop j = ops[j] :: ops.drop (j + 1) := List.drop_eq_getElem_cons hjl
  refine lfpD.intro ?_
  unfold l16_multi_Apply
  rw [if_pos (by omega)]
  refine ⟨_, hbq, by omega, by omega, ops[j].kind, S ops[j].path, ds[j], ops[j].ver, ops[j].eph, ops[j].seq, cellsAt_of 0 fun i v hv => ?_, ?_⟩
  ·rw [Int.toNat_natCast, add_add, add_add, Nat.zero_add, Nat.zero_add]
   exact hget i v hv
  refine nw_st (tag := tag6) 27 st6.sep rfl (by simp [storable, Sl.v]) fun x16 tag7 σ7 st7 r7 => ?_
  refine ⟨ops[j].kind, S ops[j].path, ds[j], ops[j].ver, ops[j].eph, ops[j].seq, Row.cellsAt r7 (st7 []).sep, ?_⟩
  have k7 : ∀ C : List Nat, StepS C ro tag6 σ6 tag7 σ7 := fun C => (st7 []).s (by simp)
  have hq' := hq
  simp only [List.mem_cons, List.not_mem_nil, or_false, not_or] at hq'
  rw [hdrop] at hap
  unfold applyL at hap
  refine do_okR (tag := tag7) (b := b + j) (w := w) g (hW6.keepS (k7 []) (by simp) (by simp) (by simp)) (hU6.keep (st7 [])) hi6 (by omega) ⟨by omega, by omega⟩ ((hdj.keep (st7 [])).read (st7 []).sep) hdlj hhl (fun he tag8 σ8 st8 => ?_) fun he tag8 σ8 st8 hW8 hU8 => ?_
  ·rw [if_pos (by simpa using he)]
   rw [if_pos he] at hap
   have hAE' : applyE st home owner qn qb ops = ⟨st, [], [], (j : Nat), (doE home owner qn qb w ops[j]).1⟩ := by rw [hAE, ← hap]; rfl
   refine quick _ (j : Nat) tag8 σ8 x10 hAE' (st6.trans ((k7 _).trans (st8.mono (fun c hc => List.mem_cons_of_mem _ (dc_da c hc))))) ((hT6.keep (st7 [])).keepS st8 (by simp; omega) (by decide)) ((r106.keep (st7 [])).keepS st8)
  ·rw [if_neg (by simp)]
   rw [if_neg (by simpa using he)] at hap
   rw [Pa.inc j (by omega)]
   have hdl' := doE_len (home := home) (owner := owner) (qn := qn) (qb := qb) (w := w) (o := ops[j])
   have hi7 : InvB (b + (j + 1)) (doE home owner qn qb w ops[j]).2.st := by
    have hbj : b + j ≤ 4398046511103 := by omega
    have := doE_inv (home := home) (owner := owner) (qn := qn) (qb := qb) (o := ops[j]) hi6 hbj
    exact this
   refine ih (j + 1) _ tag8 σ8 (by omega) hap hi7 ⟨by omega, by omega⟩ (st6.trans ((k7 _).trans (st8.mono (fun c hc => List.mem_cons_of_mem _ (dc_da c hc))))) hW8 hU8 ((hT6.keep (st7 [])).keepS st8 (by simp; omega) (by decide)) ((hops6.keepS (k7 []) (by simp) (by simp)).keepS st8 (by simp; omega) (hdC _ (by decide))) ((r106.keep (st7 [])).keepS st8)
theorem apply_ok {r T b q : Nat} {st : St} {home : Str} {owner qn qb : Int} {ops : List MOp} {s : Sl} {Q : Sl → Sl → Int → Int → AH → Prop} (g : Glob ro) (hr : r < 64) (hrD : r ∉ DA) (hr6 : r ≠ 6) (hr63 : r ≠ 63) (hq : q % 64 ∉ DA) (hq63 : q ≠ 63) (hT : TreeIs tag σ r T st) (hi : InvB b st) (hb : b ≤ 1073741824)
  (hops : OpsAt tag σ q s ops) (hdl : ∀ o ∈ ops, o.data.length < 4611686018427387904) (hhl : home.length ≤ 4611686018427387903)
  (hQ : ∀ (rs es : Sl) (tag' : Nat → Nat) (σ' : AH), StepS (r :: DA) ro tag σ tag' σ' → TreeIs tag' σ' r T (applyE st home owner qn qb ops).st → RowW tag' σ' 14 84 2 rs ((applyE st home owner qn qb ops).res.map resV) → RowW tag' σ' 15 108 2 es ((applyE st home owner qn qb ops).eff.map effV) →
   Q rs es (applyE st home owner qn qb ops).bad (applyE st home owner qn qb ops).err σ') :
  c_multi_Apply B ro (some ⟨T, 0, none⟩) (S home) owner qn qb s σ Q :=
 applyD_ok (dr := fun _ => 6) g hr hrD hr6 hr63 hq hq63 hT hi hb (fun _ => by simp only [List.mem_cons, not_or]; exact ⟨by omega, by decide⟩) hops hdl hhl hQ
end Zt
namespace G
open Go SL
variable {B : World} {ro σ : AH}
def j3_law08_MultiPlays (B : World) (ro : AH) (Q : Bool → AH → Prop) (σ : AH) : Prop :=
 c_law08_awake B ro σ fun u0 σ =>
 Q u0 σ
def j8_law08_MultiPlays (B : World) (ro : AH) (a1 : Sl) (u0 : Option Addr) (u1 : Int) (Q : Bool → AH → Prop) (Y5 : (Option Addr × Int) → AH → Prop) (u2 : Option Addr) (σ : AH) : Prop :=
 Y5 (u2, i64.wrap (u1 + 1)) σ
def j50_law08_MultiPlays (B : World) (ro : AH) (a1 : Sl) (u0 : Option Addr) (u1 : Int) (u2 : Option Addr) (Q : Bool → AH → Prop) (Y5 : (Option Addr × Int) → AH → Prop) (u3 : Bool) (σ : AH) : Prop :=
 if u3 = true then
 Q false σ
 else
 j8_law08_MultiPlays B ro a1 u0 u1 Q Y5 u2 σ
def j48_law08_MultiPlays (B : World) (ro : AH) (a1 : Sl) (u0 : Option Addr) (u1 : Int) (u2 : Option Addr) (Q : Bool → AH → Prop) (Y5 : (Option Addr × Int) → AH → Prop) (u3 : Bool) (σ : AH) : Prop :=
 if u3 = true then
 j50_law08_MultiPlays B ro a1 u0 u1 u2 Q Y5 true σ
 else
 c_ztree_Tree_Encode B ro u0 σ fun u4 σ =>
 c_ref07_Tree_Encode B ro u2 σ fun u5 σ =>
 c_ref01_Same B ro u4 u5 σ fun u6 σ =>
 j50_law08_MultiPlays B ro a1 u0 u1 u2 Q Y5 (!u6) σ
def j39_law08_MultiPlays (B : World) (ro : AH) (a1 : Sl) (u0 : Nat) (u1 : Option Addr) (u2 : Int) (u3 : Option Addr) (Q : Bool → AH → Prop) (Y5 : (Option Addr × Int) → AH → Prop) (u4 : Bool) (σ : AH) : Prop :=
 if u4 = true then
 Q false σ
 else
 ∃ u5, acell ro σ ⟨u0, 0, none⟩ = some (.string u5) ∧
 c_ref08_Usage B ro u3 u5 σ fun u6 u7 σ =>
 ∃ u8, acell ro σ ⟨u0, 0, none⟩ = some (.string u8) ∧
 nw ro σ (.cells #[.string u8] 9) fun u9 σ =>
 c_multi_Usage B ro u1 (⟨some ⟨u9, 0, none⟩, 1, 1⟩ : Sl) σ fun u10 u11 σ =>
 awp prog ro (do eqGuard .neq 69 (.tmp 149) (.tmp 152) (.agg #[.int .i64 u10, .int .i64 u11]) (.agg #[.int .i64 u6, .int .i64 u7]); Go.binOp .neq 69 (.agg #[.int .i64 u10, .int .i64 u11]) (.agg #[.int .i64 u6, .int .i64 u7])) (fun v σ => ∃ u12 : Bool, v = .bool u12 ∧
 if u12 = true then
  j48_law08_MultiPlays B ro a1 u1 u2 u3 Q Y5 true σ
 else
 ∃ u13, acell ro σ ⟨u0, 0, none⟩ = some (.string u13) ∧
 ∃ u14, acell ro σ ⟨u0, 0, none⟩ = some (.string u14) ∧
 nw ro σ (.cells #[.string u13, .string u14] 9) fun u15 σ =>
 c_multi_Usage B ro u1 (⟨some ⟨u15, 0, none⟩, 2, 2⟩ : Sl) σ fun u16 u17 σ =>
 awp prog ro (do eqGuard .neq 69 (.tmp 161) (.tmp 166) (.agg #[.int .i64 u16, .int .i64 u17]) (.agg #[.int .i64 (i64.wrap (2 * u6)), .int .i64 (i64.wrap (2 * u7))]); Go.binOp .neq 69 (.agg #[.int .i64 u16, .int .i64 u17]) (.agg #[.int .i64 (i64.wrap (2 * u6)), .int .i64 (i64.wrap (2 * u7))])) (fun v σ => ∃ u18 : Bool, v = .bool u18 ∧
  j48_law08_MultiPlays B ro a1 u1 u2 u3 Q Y5 u18 σ) σ) σ
def j37_law08_MultiPlays (B : World) (ro : AH) (a1 : Sl) (u0 : Nat) (u1 : Option Addr) (u2 : Int) (u3 : Option Addr) (Q : Bool → AH → Prop) (Y5 : (Option Addr × Int) → AH → Prop) (u4 : Bool) (σ : AH) : Prop :=
 if u4 = true then
 Q false σ
 else
 lent σ fun ψ σ =>
 ∃ u5, acell (join ro ψ) σ ((⟨u0, 0, none⟩ : Addr).add 5) = some (.bool u5) ∧
 if u5 = true then
  ∃ u6, acell (join ro ψ) (fun _ => none) ⟨u0, 0, none⟩ = some (.string u6) ∧
  ∃ u7, acell (join ro ψ) (fun _ => none) ((⟨u0, 0, none⟩ : Addr).add 1) = some (.int .i64 u7) ∧
  ∃ u8, acell (join ro ψ) σ ⟨u0, 0, none⟩ = some (.string u8) ∧
  ∃ u9, acell (join ro ψ) σ ((⟨u0, 0, none⟩ : Addr).add 1) = some (.int .i64 u9) ∧
  nw (join ro ψ) σ (.cells #[.int .i64 u9] 3) fun u10 σ =>
  c_multi_Sweep B (join ro ψ) u1 u8 (⟨some ⟨u10, 0, none⟩, 1, 1⟩ : Sl) σ fun u11 σ =>
  nw (join ro ψ) σ (.cells #[.int .i64 u7] 3) fun u12 σ =>
  c_ref08_Sweep B (join ro ψ) u3 u6 (⟨some ⟨u12, 0, none⟩, 1, 1⟩ : Sl) σ fun u13 σ =>
  c_law08_sameEffects B (join ro ψ) u11 u13 σ fun u14 σ =>
  (Disj ψ σ → (fun σ => 
  j39_law08_MultiPlays B ro a1 u0 u1 u2 u3 Q Y5 (!u14) σ) (join ψ σ))
 else
 (Disj ψ σ → (fun σ => 
  j39_law08_MultiPlays B ro a1 u0 u1 u2 u3 Q Y5 false σ) (join ψ σ))
def j35_law08_MultiPlays (B : World) (ro : AH) (a1 : Sl) (u0 : Nat) (u1 : Nat) (u2 : Option Addr) (u3 : Int) (u4 : Option Addr) (u5 : Sl) (Q : Bool → AH → Prop) (Y5 : (Option Addr × Int) → AH → Prop) (u6 : Bool) (σ : AH) : Prop :=
 if u6 = true then
 j37_law08_MultiPlays B ro a1 u0 u2 u3 u4 Q Y5 true σ
 else
 ∃ u7, acell ro σ ((⟨u1, 0, none⟩ : Addr).add 1) = some (Sl.v u7) ∧
 c_law08_sameEffects B ro u7 u5 σ fun u8 σ =>
 j37_law08_MultiPlays B ro a1 u0 u2 u3 u4 Q Y5 (!u8) σ
def j33_law08_MultiPlays (B : World) (ro : AH) (a1 : Sl) (u0 : Nat) (u1 : Nat) (u2 : Option Addr) (u3 : Int) (u4 : Option Addr) (u5 : Sl) (u6 : Sl) (Q : Bool → AH → Prop) (Y5 : (Option Addr × Int) → AH → Prop) (u7 : Bool) (σ : AH) : Prop :=
 if u7 = true then
 j35_law08_MultiPlays B ro a1 u0 u1 u2 u3 u4 u6 Q Y5 true σ
 else
 ∃ u8, acell ro σ ⟨u1, 0, none⟩ = some (Sl.v u8) ∧
 c_law08_sameResults B ro u8 u5 σ fun u9 σ =>
 j35_law08_MultiPlays B ro a1 u0 u1 u2 u3 u4 u6 Q Y5 (!u9) σ
def j32_law08_MultiPlays (B : World) (ro : AH) (a1 : Sl) (u0 : Nat) (u1 : Nat) (u2 : Option Addr) (u3 : Int) (u4 : Int) (u5 : Option Addr) (u6 : Sl) (u7 : Sl) (u8 : Int) (u9 : Int) (Q : Bool → AH → Prop) (Y5 : (Option Addr × Int) → AH → Prop) (σ : AH) : Prop :=
 if ¬ (u4 = u9) then
 j33_law08_MultiPlays B ro a1 u0 u1 u2 u3 u5 u6 u7 Q Y5 true σ
 else
 ∃ u10, acell ro σ ((⟨u1, 0, none⟩ : Addr).add 2) = some (.int .i64 u10) ∧
 j33_law08_MultiPlays B ro a1 u0 u1 u2 u3 u5 u6 u7 Q Y5 (!(decide (u10 = u8))) σ
def j77_law08_MultiPlays (B : World) (ro : AH) (a1 : Sl) (u0 : Nat) (u1 : Nat) (u2 : Option Addr) (u3 : Int) (u4 : Sl) (u5 : Int) (u6 : Option Addr) (u7 : Sl) (u8 : Sl) (u9 : Int) (u10 : Int) (u11 : Int) (Q : Bool → AH → Prop) (Y5 : (Option Addr × Int) → AH → Prop) (Y75 : (Int) → AH → Prop) (σ : AH) : Prop :=
 Y75 (i64.wrap (u11 + 1)) σ
def l82_law08_MultiPlays (B : World) (ro : AH) (a1 : Sl) (u0 : Nat) (u1 : Nat) (u2 : Nat) (u3 : Option Addr) (u4 : Int) (u5 : Sl) (u6 : Int) (u7 : Option Addr) (u8 : Sl) (u9 : Sl) (u10 : Int) (u11 : Int) (u12 : Int) (u13 : Sl) (Q : Bool → AH → Prop) (Y5 : (Option Addr × Int) → AH → Prop) (Y75 : (Int) → AH → Prop) : (Int) → AH → ((Int) → AH → Prop) → Prop := fun u14 σ Y82 =>
 if u14 < (u13.len : Int) then
 ∃ u15, acell ro σ ((⟨u2, 0, none⟩ : Addr).add 2) = some (Sl.v u15) ∧
 ∃ u16, acell ro σ ((⟨u2, 0, none⟩ : Addr).add 2) = some (Sl.v u16) ∧
 ∃ p17, u16.a = some p17 ∧ (0 : Int) ≤ u14 ∧ u14 < (u16.len : Int) ∧
 ∃ u18, acell ro σ (p17.add (Int.toNat u14 * 1)) = some (.int .u8 u18) ∧
 ∃ p19, u15.a = some p19 ∧ (0 : Int) ≤ u14 ∧ u14 < (u15.len : Int) ∧
 stN (p19.add (Int.toNat u14 * 1)) (fun σ =>
  Y82 (i64.wrap (u14 + 1)) σ) [.int .u8 (bitXor .u8 (if IntKind.u8.signed then -1 else IntKind.u8.max) u18)] 0 σ
 else
 j77_law08_MultiPlays B ro a1 u0 u1 u3 u4 u5 u6 u7 u8 u9 u10 u11 u12 Q Y5 Y75 σ
def l75_law08_MultiPlays (B : World) (ro : AH) (a1 : Sl) (u0 : Nat) (u1 : Nat) (u2 : Option Addr) (u3 : Int) (u4 : Sl) (u5 : Int) (u6 : Option Addr) (u7 : Sl) (u8 : Sl) (u9 : Int) (u10 : Int) (Q : Bool → AH → Prop) (Y5 : (Option Addr × Int) → AH → Prop) : (Int) → AH → ((Int) → AH → Prop) → Prop := fun u11 σ Y75 =>
 if u11 < (u4.len : Int) then
 ∃ p12, u4.a = some p12 ∧ (0 : Int) ≤ u11 ∧ u11 < (u4.len : Int) ∧
 ∃ u13 u14 u15 u16 u17 u18, cellsAt ro σ (p12.add (Int.toNat u11 * 6)) 0 [.int .i64 u13, .string u14, Sl.v u15, .int .i64 u16, .bool u17, .bool u18] ∧
 nw ro σ (.cells #[.int .i64 0, .string ByteArray.empty, Sl.v (⟨none, 0, 0⟩ : Sl), .int .i64 0, .bool false, .bool false] 82) fun u19 σ =>
 stN ⟨u19, 0, none⟩ (fun σ =>
  ∃ u20, acell ro σ ((⟨u19, 0, none⟩ : Addr).add 2) = some (Sl.v u20) ∧
  lfpD (l82_law08_MultiPlays B ro a1 u0 u1 u19 u2 u3 u4 u5 u6 u7 u8 u9 u10 u11 u20 Q Y5 Y75 ) (0) σ) [.int .i64 u13, .string u14, Sl.v u15, .int .i64 u16, .bool u17, .bool u18] 0 σ
 else
 j32_law08_MultiPlays B ro a1 u0 u1 u2 u3 u5 u6 u7 u8 u9 u10 Q Y5 σ
def l5_law08_MultiPlays (B : World) (ro : AH) (a1 : Sl) (u0 : Option Addr) (Q : Bool → AH → Prop) : (Option Addr × Int) → AH → ((Option Addr × Int) → AH → Prop) → Prop := fun ⟨u1, u2⟩ σ Y5 =>
 if u2 < (a1.len : Int) then
 ∃ p3, a1.a = some p3 ∧ (0 : Int) ≤ u2 ∧ u2 < (a1.len : Int) ∧
 ∃ u4 u5 u6 u7 u8 u9, cellsAt ro σ (p3.add (Int.toNat u2 * 6)) 0 [.string u4, .int .i64 u5, .int .i64 u6, .int .i64 u7, Sl.v u8, .bool u9] ∧
 nw ro σ (.cells #[.string ByteArray.empty, .int .i64 0, .int .i64 0, .int .i64 0, Sl.v (⟨none, 0, 0⟩ : Sl), .bool false] 72) fun u10 σ =>
 stN ⟨u10, 0, none⟩ (fun σ =>
  ∃ u11, acell ro σ ((⟨u10, 0, none⟩ : Addr).add 4) = some (Sl.v u11) ∧
  c_law08_copied B ro u11 σ fun u12 σ =>
  ∃ u13, acell ro σ ⟨u10, 0, none⟩ = some (.string u13) ∧
  ∃ u14, acell ro σ ((⟨u10, 0, none⟩ : Addr).add 1) = some (.int .i64 u14) ∧
  ∃ u15 u16, cellsAt ro σ ((⟨u10, 0, none⟩ : Addr).add 2) 0 [.int .i64 u15, .int .i64 u16] ∧
  c_multi_Apply B ro u0 u13 u14 u15 u16 u12 σ fun u17 u18 u19 u20 σ =>
  nw ro σ (.cells #[Sl.v (⟨none, 0, 0⟩ : Sl), Sl.v (⟨none, 0, 0⟩ : Sl), .int .i64 0] 77) fun u21 σ =>
  stN ⟨u21, 0, none⟩ (fun σ =>
  lent σ fun ψ σ =>
   ∃ u22, acell (join ro ψ) (fun _ => none) ⟨u10, 0, none⟩ = some (.string u22) ∧
   ∃ u23, acell (join ro ψ) (fun _ => none) ((⟨u10, 0, none⟩ : Addr).add 1) = some (.int .i64 u23) ∧
   ∃ u24, acell (join ro ψ) (fun _ => none) ((⟨u10, 0, none⟩ : Addr).add 2) = some (.int .i64 u24) ∧
   ∃ u25, acell (join ro ψ) (fun _ => none) (((⟨u10, 0, none⟩ : Addr).add 2).add 1) = some (.int .i64 u25) ∧
   ∃ u26, acell (join ro ψ) σ ((⟨u10, 0, none⟩ : Addr).add 4) = some (Sl.v u26) ∧
   c_law08_ops B (join ro ψ) u26 σ fun u27 σ =>
   c_ref08_Apply B (join ro ψ) u1 u22 u23 u24 u25 u27 σ fun u28 u29 u30 u31 u32 σ =>
   (Disj ψ σ → (fun σ => 
   lfpD (l75_law08_MultiPlays B ro a1 u10 u21 u0 u2 u12 u20 u28 u29 u30 u31 u32 Q Y5 ) (0) σ) (join ψ σ))) [Sl.v u17, Sl.v u18, .int .i64 u19] 0 σ) [.string u4, .int .i64 u5, .int .i64 u6, .int .i64 u7, Sl.v u8, .bool u9] 0 σ
 else
 j3_law08_MultiPlays B ro Q σ
def f_law08_MultiPlays (B : World) (ro : AH) (a0 : Sl) (a1 : Sl) (σ : AH) (Q : Bool → AH → Prop) : Prop :=
 c_law08_start B ro a0 σ fun u0 σ =>
 c_law08_begin B ro a0 σ fun u1 σ =>
 if u0 = none then
 Q false σ
 else
 lfpD (l5_law08_MultiPlays B ro a1 u0 Q ) (u1, 0) σ
theorem law08_MultiPlays_ok {a0 : Sl} {a1 : Sl} {Q : Bool → AH → Prop} (h : Sep ro σ → f_law08_MultiPlays B ro a0 a1 σ Q) : c_law08_MultiPlays B ro a0 a1 σ Q := by
 refine zb h func11 ntmps11 fun h => ?_; unfold f_law08_MultiPlays at h; refine z3 ?_; refine zp ?_; refine z4 ?_; refine zp ?_; refine zc func35 h ?_; rintro v σ ⟨u0, rfl, h⟩; refine zp ?_; refine z4 ?_; refine zp ?_; refine zc func40 h ?_; rintro v σ ⟨u1, rfl, h⟩; refine zp ?_; refine z2 (AW.seq (z3 ?_))
 refine zp ?_; refine zm (V_eqP rfl underlying23 rfl rfl) ?_; refine z2 ?_; refine AW.iff rfl isNone_iff h (fun h => ?_) (fun h => ?_)
 ·refine z3 ?_; refine zp ?_; refine z2 ?_; refine AW.ret ?_; refine thenR ?_; exact bR1 results11 rfl ⟨_, rfl, h⟩
 refine AW.skip ?_; refine thenN ?_; refine AW.seqJ (fun fr σ => FrLe [] fr ∧ j3_law08_MultiPlays B ro Q σ) ?_ ?_
 ·rintro fr σ ⟨hl, h⟩; refine AW.weaken ?_ hl (HLe.refl _)
  unfold j3_law08_MultiPlays at h; refine z3 ?_; refine zc func38 h ?_; rintro v σ ⟨u2, rfl, h⟩; refine zp ?_; refine z2 ?_; refine AW.ret ?_; exact bR1 results11 rfl ⟨_, rfl, h⟩
 refine z3 ?_; refine zp ?_; refine zm (V_lenL rfl rfl underlying67 rfl rfl) ?_; refine zp ?_; refine z2 (AW.block ?_)
 refine ARound.loop (fr' := [(5, .pointer u0), (28, Sl.v a1), (29, .int .i64 (a1.len : Int)), (6, .pointer u1), (30, .int .i64 0)]) ?_ FL
 refine h (fun ⟨u3, u4⟩ σ => ARound _ _ _ _ _ _ [(5, .pointer u0), (28, Sl.v a1), (29, .int .i64 (a1.len : Int)), (6, .pointer u3), (30, .int .i64 u4)] σ) ?_
 rintro ⟨u3, u4⟩ σ Y5 hY5 h
 show AW _ _ _ _ _ _ _ _
 unfold l5_law08_MultiPlays at h; dsimp only at h; refine z3 ?_; refine zp ?_; refine z2 (AW.seq ?_)
 refine zi h (fun h => ?_) fun h => ?_
 rotate_left
 ·refine AW.exit ?_; refine thenE (thenE ?_); refine blockE ?_
  refine thenN ?_; exact ⟨FL, h⟩
 refine AW.skip ?_; refine thenN ?_; refine AW.seqJ (fun fr σ => ∃ (u5 : Option Addr), FrLe [(5, .pointer u0), (28, Sl.v a1), (29, .int .i64 (a1.len : Int)), (30, .int .i64 u4), (6, .pointer u5)] fr ∧ j8_law08_MultiPlays B ro a1 u0 u4 Q Y5 u5 σ) ?_ ?_
 ·rintro fr σ ⟨u5, hl, h⟩; refine AW.weaken ?_ hl (HLe.refl _)
  unfold j8_law08_MultiPlays at h; refine AW.reg ?_; iterate 2 refine zp ?_
  refine z2 ?_; refine ARound.head (fr' := [(5, .pointer u0), (28, Sl.v a1), (29, .int .i64 (a1.len : Int)), (6, .pointer u5), (30, .int .i64 (i64.wrap (u4 + 1)))]) ?_ FL
  exact hY5 _ _ h
 refine AW.block (z3 ?_); obtain ⟨p6, ha, h0, h1, h⟩ := h
 refine zm (V_ixA rfl underlying67 ty72 (ixL rfl ha) rfl h0 h1) ?_; obtain ⟨u7, u8, u9, u10, u11, u12, hc, h⟩ := h
 refine zl (X_lda rfl underlying72 rfl ty72 rfl hc ?_)
 refine zA (A_alloc rfl ty72) h fun u13 h => ?_; refine zs ty72 h fun σ h => ?_; refine z4 ?_; refine zf underlying72 ty70 ?_; refine zL underlying70 h fun u14 h => ?_; refine zc func37 h ?_; rintro v σ ⟨u15, rfl, h⟩; refine zp ?_; refine z4 ?_; refine zp ?_; refine zf underlying72 ty9 ?_; refine zL underlying9 h fun u16 h => ?_; refine zf underlying72 ty3 ?_; refine zL underlying3 h fun u17 h => ?_
 refine zf underlying72 ty69 ?_; obtain ⟨u18, u19, hc, h⟩ := h
 refine zl (X_lda rfl underlying69 rfl ty69 rfl hc ?_)
 refine zp ?_; refine zc func36 h ?_; rintro v σ ⟨u20, u21, u22, u23, rfl, h⟩; iterate 3 refine zp ?_
 refine zA (A_alloc rfl ty77) h fun u24 h => ?_; refine zs ty77 h fun σ h => ?_; refine zp ?_; refine z2 (AW.seq ?_)
 refine AW.drawnL (fun i => ([0, 0, 0, 0, 0, 0, 0, 0, 0, 0, 0, 0, 3, 2, 2, 0, 0, 0, 0, 0, 0, 0, 0, 0, 0, 0] : List Nat).getD i 2) [(12, 13), (12, 14)] [0, 1, 2, 3, 4, 5, 6, 7, 8, 9, 10, 11, 12, 13, 14, 15, 16, 17, 18, 19, 20, 21, 22, 23, 24, 25] mixed h (by decide +kernel) ?_
 clear h
 intro ψ σ h
 refine zq ?_; refine zg underlying72 ty9 ?_; obtain ⟨u25, hc, h⟩ := h
 refine Dp rfl rfl rfl rfl (V_ld rfl underlying9 rfl rfl hc) ?_
 refine zg underlying72 ty3 ?_; obtain ⟨u26, hc, h⟩ := h
 refine Dp rfl rfl rfl rfl (V_ld rfl underlying3 rfl rfl hc) ?_
 refine zg underlying72 ty69 ?_; refine zg underlying69 ty3 ?_; obtain ⟨u27, hc, h⟩ := h
 refine Dp rfl rfl rfl rfl (V_ld rfl underlying3 rfl rfl hc) ?_
 refine zg underlying72 ty69 ?_; refine zg underlying69 ty3 ?_; obtain ⟨u28, hc, h⟩ := h
 refine Dp rfl rfl rfl rfl (V_ld rfl underlying3 rfl rfl hc) ?_
 refine zg underlying72 ty70 ?_; obtain ⟨u29, hc, h⟩ := h
 refine Dr rfl rfl rfl rfl (R_ld rfl underlying70 rfl rfl hc) ?_
 refine Dg rfl rfl rfl rfl (X_call rfl func42 rfl rfl rfl (ACalls.mono h ?_))
 rintro v σ ⟨u30, rfl, h⟩; refine Dg rfl rfl rfl rfl (X_call rfl func41 rfl rfl rfl (ACalls.mono h ?_))
 rintro v σ ⟨u31, u32, u33, u34, u35, rfl, h⟩; iterate 11 refine zq ?_
 refine ⟨_, FrEq.refl _, fun hdj => ?_⟩
 replace h := h hdj
 refine thenN (z3 ?_); iterate 2 refine zp ?_
 refine z2 ?_; refine AW.seqJ (fun fr σ => FrLe [(5, .pointer u0), (6, .pointer u31), (8, .pointer (some ⟨u13, 0, none⟩)), (10, .pointer (some ⟨u24, 0, none⟩)), (11, .int .i64 u23), (13, Sl.v u32), (14, Sl.v u33), (15, .int .i64 u34), (16, .int .i64 u35), (28, Sl.v a1), (29, .int .i64 (a1.len : Int)), (30, .int .i64 u4)] fr ∧ j32_law08_MultiPlays B ro a1 u13 u24 u0 u4 u23 u31 u32 u33 u34 u35 Q Y5 σ) ?_ ?_
 rotate_left
 ·refine z3 ?_; refine zp ?_; refine zm (V_lenL rfl rfl underlying70 rfl rfl) ?_; refine zp ?_; refine z2 (AW.block ?_)
  refine ARound.loop (fr' := [(5, .pointer u0), (6, .pointer u31), (8, .pointer (some ⟨u13, 0, none⟩)), (10, .pointer (some ⟨u24, 0, none⟩)), (11, .int .i64 u23), (13, Sl.v u32), (14, Sl.v u33), (15, .int .i64 u34), (16, .int .i64 u35), (28, Sl.v a1), (29, .int .i64 (a1.len : Int)), (30, .int .i64 u4), (71, Sl.v u15), (72, .int .i64 (u15.len : Int)), (73, .int .i64 0)]) ?_ FL
  refine h (fun u36 σ => ARound _ _ _ _ _ _ [(5, .pointer u0), (6, .pointer u31), (8, .pointer (some ⟨u13, 0, none⟩)), (10, .pointer (some ⟨u24, 0, none⟩)), (11, .int .i64 u23), (13, Sl.v u32), (14, Sl.v u33), (15, .int .i64 u34), (16, .int .i64 u35), (28, Sl.v a1), (29, .int .i64 (a1.len : Int)), (30, .int .i64 u4), (71, Sl.v u15), (72, .int .i64 (u15.len : Int)), (73, .int .i64 u36)] σ) ?_
  rintro u36 σ Y75 hY75 h
  show AW _ _ _ _ _ _ _ _
  unfold l75_law08_MultiPlays at h; refine z3 ?_; refine zp ?_; refine z2 (AW.seq ?_)
  refine zi h (fun h => ?_) fun h => ?_
  rotate_left
  ·refine AW.exit ?_; refine thenE (thenE ?_); refine blockE ?_
   refine thenN ?_; exact ⟨FL, h⟩
  refine AW.skip ?_; refine thenN ?_; refine AW.seqJ (fun fr σ => FrLe [(5, .pointer u0), (6, .pointer u31), (8, .pointer (some ⟨u13, 0, none⟩)), (10, .pointer (some ⟨u24, 0, none⟩)), (11, .int .i64 u23), (13, Sl.v u32), (14, Sl.v u33), (15, .int .i64 u34), (16, .int .i64 u35), (28, Sl.v a1), (29, .int .i64 (a1.len : Int)), (30, .int .i64 u4), (71, Sl.v u15), (72, .int .i64 (u15.len : Int)), (73, .int .i64 u36)] fr ∧ j77_law08_MultiPlays B ro a1 u13 u24 u0 u4 u15 u23 u31 u32 u33 u34 u35 u36 Q Y5 Y75 σ) ?_ ?_
  ·rintro fr σ ⟨hl, h⟩; refine AW.weaken ?_ hl (HLe.refl _)
   unfold j77_law08_MultiPlays at h; refine AW.reg ?_; iterate 2 refine zp ?_
   refine z2 ?_; refine ARound.head (fr' := [(5, .pointer u0), (6, .pointer u31), (8, .pointer (some ⟨u13, 0, none⟩)), (10, .pointer (some ⟨u24, 0, none⟩)), (11, .int .i64 u23), (13, Sl.v u32), (14, Sl.v u33), (15, .int .i64 u34), (16, .int .i64 u35), (28, Sl.v a1), (29, .int .i64 (a1.len : Int)), (30, .int .i64 u4), (71, Sl.v u15), (72, .int .i64 (u15.len : Int)), (73, .int .i64 (i64.wrap (u36 + 1)))]) ?_ FL
   exact hY75 _ _ h
  refine AW.block (z3 ?_); obtain ⟨p37, ha, h0, h1, h⟩ := h
  refine zm (V_ixA rfl underlying70 ty82 (ixL rfl ha) rfl h0 h1) ?_; obtain ⟨u38, u39, u40, u41, u42, u43, hc, h⟩ := h
  refine zl (X_lda rfl underlying82 rfl ty82 rfl hc ?_)
  refine zA (A_alloc rfl ty82) h fun u44 h => ?_; refine zs ty82 h fun σ h => ?_; refine z4 ?_; refine zf underlying82 ty30 ?_; refine zL underlying30 h fun u45 h => ?_; refine zm (V_lenL rfl rfl underlying30 rfl rfl) ?_; refine zp ?_; refine z2 (AW.block ?_)
  refine ARound.loop (fr' := [(5, .pointer u0), (6, .pointer u31), (8, .pointer (some ⟨u13, 0, none⟩)), (10, .pointer (some ⟨u24, 0, none⟩)), (11, .int .i64 u23), (13, Sl.v u32), (14, Sl.v u33), (15, .int .i64 u34), (16, .int .i64 u35), (18, .pointer (some ⟨u44, 0, none⟩)), (28, Sl.v a1), (29, .int .i64 (a1.len : Int)), (30, .int .i64 u4), (71, Sl.v u15), (72, .int .i64 (u15.len : Int)), (73, .int .i64 u36), (79, .int .i64 (u45.len : Int)), (80, .int .i64 0)]) ?_ FL
  refine h (fun u46 σ => ARound _ _ _ _ _ _ [(5, .pointer u0), (6, .pointer u31), (8, .pointer (some ⟨u13, 0, none⟩)), (10, .pointer (some ⟨u24, 0, none⟩)), (11, .int .i64 u23), (13, Sl.v u32), (14, Sl.v u33), (15, .int .i64 u34), (16, .int .i64 u35), (18, .pointer (some ⟨u44, 0, none⟩)), (28, Sl.v a1), (29, .int .i64 (a1.len : Int)), (30, .int .i64 u4), (71, Sl.v u15), (72, .int .i64 (u15.len : Int)), (73, .int .i64 u36), (79, .int .i64 (u45.len : Int)), (80, .int .i64 u46)] σ) ?_
  rintro u46 σ Y82 hY82 h
  show AW _ _ _ _ _ _ _ _
  unfold l82_law08_MultiPlays at h; refine z3 ?_; refine zp ?_; refine z2 (AW.seq ?_)
  refine zi h (fun h => ?_) fun h => ?_
  rotate_left
  ·refine AW.exit ?_; refine thenE (thenE ?_); refine blockE ?_
   refine blockN (thenN ?_); exact ⟨FL, h⟩
  refine AW.skip ?_; refine thenN (AW.seq (AW.block (z3 ?_))); iterate 2 refine zp ?_
  refine z2 ?_; refine AW.drawn0 (fun i => ([0, 3, 0, 0, 3, 0, 0, 3, 0, 0, 2] : List Nat).getD i 2) [] [0, 2, 3, 5, 1, 4, 6, 7, 8, 9, 10] mixed (by decide +kernel) ?_
  refine zg underlying82 ty30 ?_; refine zq ?_; refine zg underlying82 ty30 ?_; refine zq ?_; obtain ⟨u47, hc, h⟩ := h
  refine Dr rfl rfl rfl rfl (R_ld rfl underlying30 rfl rfl hc) ?_
  obtain ⟨u48, hc, h⟩ := h
  refine Dr rfl rfl rfl rfl (R_ld rfl underlying30 rfl rfl hc) ?_
  obtain ⟨p49, ha, h0, h1, h⟩ := h
  refine Dp rfl rfl rfl rfl (V_ixA rfl underlying30 ty5 (ixL rfl ha) rfl h0 h1) ?_
  obtain ⟨u50, hc, h⟩ := h
  refine Dr rfl rfl rfl rfl (R_ld rfl underlying5 rfl rfl hc) ?_
  refine Dp rfl rfl rfl rfl (V_inv rfl rfl) ?_
  obtain ⟨p51, ha, h0, h1, h⟩ := h
  refine Dp rfl rfl rfl rfl (V_ixA rfl underlying30 ty5 (ixL rfl ha) rfl h0 h1) ?_
  refine Dg rfl rfl rfl rfl (X_st rfl ty5 rfl rfl rfl rfl (stN_mono h fun σ h => ?_))
  refine Dend ?_
  refine blockN (thenN (AW.reg ?_)); iterate 2 refine zp ?_
  refine z2 ?_; refine ARound.head (fr' := [(5, .pointer u0), (6, .pointer u31), (8, .pointer (some ⟨u13, 0, none⟩)), (10, .pointer (some ⟨u24, 0, none⟩)), (11, .int .i64 u23), (13, Sl.v u32), (14, Sl.v u33), (15, .int .i64 u34), (16, .int .i64 u35), (18, .pointer (some ⟨u44, 0, none⟩)), (28, Sl.v a1), (29, .int .i64 (a1.len : Int)), (30, .int .i64 u4), (71, Sl.v u15), (72, .int .i64 (u15.len : Int)), (73, .int .i64 u36), (79, .int .i64 (u45.len : Int)), (80, .int .i64 (i64.wrap (u46 + 1)))]) ?_ FL
  exact hY82 _ _ h
 rintro fr σ ⟨hl, h⟩; refine AW.weaken ?_ hl (HLe.refl _)
 unfold j32_law08_MultiPlays at h; refine AW.seq (z3 ?_); iterate 4 refine zp ?_
 refine LsplitJ 5 (!(decide (u23 = u35))) (bnot_iff decide_eq_true_iff) h (fun fr σ => ∃ (u52 : Bool), FrLe [(5, .pointer u0), (6, .pointer u31), (8, .pointer (some ⟨u13, 0, none⟩)), (10, .pointer (some ⟨u24, 0, none⟩)), (13, Sl.v u32), (14, Sl.v u33), (28, Sl.v a1), (29, .int .i64 (a1.len : Int)), (30, .int .i64 u4), (103, .bool u52)] fr ∧ j33_law08_MultiPlays B ro a1 u13 u24 u0 u4 u31 u32 u33 Q Y5 u52 σ) ?_ ?_ ?_
 ·intro h e3 hk3; iterate 4 refine zn e3 ?_
  refine zk e3 ?_; exact hk3 _ _ ⟨_, FL, h⟩
 ·intro h e3 hk3; refine Lypb (V_fld rfl underlying77 rfl ty3 (by decide) rfl) rfl rfl rfl rfl e3 ?_
  obtain ⟨u53, hc, h⟩ := h
  refine Lyb rfl rfl rfl rfl e3 (X_ld rfl underlying3 rfl rfl hc ?_)
  refine zy e3 ?_; refine zy e3 ?_; refine zk e3 ?_; exact hk3 _ _ ⟨_, FL, h⟩
 rintro fr σ ⟨u52, hl, h⟩; unfold j33_law08_MultiPlays at h; refine Lfr hl ?_
 refine zp ?_; refine LsplitJ 6 u52 Iff.rfl h (fun fr σ => ∃ (u54 : Bool), FrLe [(5, .pointer u0), (6, .pointer u31), (8, .pointer (some ⟨u13, 0, none⟩)), (10, .pointer (some ⟨u24, 0, none⟩)), (14, Sl.v u33), (28, Sl.v a1), (29, .int .i64 (a1.len : Int)), (30, .int .i64 u4), (110, .bool u54)] fr ∧ j35_law08_MultiPlays B ro a1 u13 u24 u0 u4 u31 u33 Q Y5 u54 σ) ?_ ?_ ?_
 ·intro h e9 hk9; iterate 5 refine zn e9 ?_
  refine zk e9 ?_; exact hk9 _ _ ⟨_, FL, h⟩
 ·intro h e9 hk9; refine Lypb (V_fld rfl underlying77 rfl ty74 (by decide) rfl) rfl rfl rfl rfl e9 ?_
  obtain ⟨u55, hc, h⟩ := h
  refine Lyb rfl rfl rfl rfl e9 (X_ld rfl underlying74 rfl rfl hc ?_)
  refine zy e9 ?_; refine Lyb rfl rfl rfl rfl e9 (X_call rfl func43 rfl rfl rfl (ACalls.mono h ?_))
  rintro v σ ⟨u56, rfl, h⟩; refine zy e9 ?_; refine zk e9 ?_; exact hk9 _ _ ⟨_, FL, h⟩
 rintro fr σ ⟨u54, hl, h⟩; unfold j35_law08_MultiPlays at h; refine Lfr hl ?_
 refine zp ?_; refine LsplitJ 6 u54 Iff.rfl h (fun fr σ => ∃ (u57 : Bool), FrLe [(5, .pointer u0), (6, .pointer u31), (8, .pointer (some ⟨u13, 0, none⟩)), (28, Sl.v a1), (29, .int .i64 (a1.len : Int)), (30, .int .i64 u4), (117, .bool u57)] fr ∧ j37_law08_MultiPlays B ro a1 u13 u0 u4 u31 Q Y5 u57 σ) ?_ ?_ ?_
 ·intro h e16 hk16; iterate 5 refine zn e16 ?_
  refine zk e16 ?_; exact hk16 _ _ ⟨_, FL, h⟩
 ·intro h e16 hk16; refine Lypb (V_fld rfl underlying77 rfl ty75 (by decide) rfl) rfl rfl rfl rfl e16 ?_
  obtain ⟨u58, hc, h⟩ := h
  refine Lyb rfl rfl rfl rfl e16 (X_ld rfl underlying75 rfl rfl hc ?_)
  refine zy e16 ?_; refine Lyb rfl rfl rfl rfl e16 (X_call rfl func44 rfl rfl rfl (ACalls.mono h ?_))
  rintro v σ ⟨u59, rfl, h⟩; refine zy e16 ?_; refine zk e16 ?_; exact hk16 _ _ ⟨_, FL, h⟩
 rintro fr σ ⟨u57, hl, h⟩; unfold j37_law08_MultiPlays at h; refine Lfr hl ?_
 refine z2 ?_; refine zj h (fun h => ?_) fun h => ?_
 ·refine z3 ?_; refine zp ?_; refine z2 ?_; refine AW.ret ?_; refine thenR (blockR (thenR (thenR (blockR (thenR ?_))))); exact bR1 results11 rfl ⟨_, rfl, h⟩
 refine AW.skip ?_; refine thenN (AW.seq ?_); refine AW.seqJ (fun fr σ => ∃ (u60 : Bool), FrLe [(5, .pointer u0), (6, .pointer u31), (8, .pointer (some ⟨u13, 0, none⟩)), (28, Sl.v a1), (29, .int .i64 (a1.len : Int)), (30, .int .i64 u4), (137, .bool u60)] fr ∧ j39_law08_MultiPlays B ro a1 u13 u0 u4 u31 Q Y5 u60 σ) ?_ ?_
 rotate_left
 ·refine AW.drawnL (fun i => ([0, 3, 0, 0, 0, 3, 0, 3, 1, 2, 0, 0, 0, 0, 0, 1, 2, 2, 0, 0] : List Nat).getD i 2) [(1, 2), (1, 3), (1, 9), (1, 10), (1, 16), (1, 17), (5, 9), (5, 16), (5, 17), (7, 8), (7, 9), (7, 16), (7, 17), (8, 9), (8, 16), (8, 17), (15, 16), (15, 17)] [0, 1, 2, 3, 4, 6, 10, 11, 12, 13, 14, 5, 7, 8, 9, 15, 16, 17, 18, 19] mixed h (by decide +kernel) ?_
  clear h
  intro ψ σ h
  refine zg underlying72 ty4 ?_; obtain ⟨u61, hc, h⟩ := h
  refine Dr rfl rfl rfl rfl (R_ld rfl underlying4 rfl rfl hc) ?_
  refine zq ?_; refine splitP u61 Iff.rfl h ?_ ?_
  rotate_left
  ·intro h e2
   refine Dpn rfl rfl rfl rfl rfl (.inl (by rw [e2]; rfl)) rfl ?_
   refine Dpn rfl rfl rfl rfl rfl (.inl (by rw [e2]; rfl)) rfl ?_
   refine Dpn rfl rfl rfl rfl rfl (.inl (by rw [e2]; rfl)) rfl ?_
   refine Dpn rfl rfl rfl rfl rfl (.inl (by rw [e2]; rfl)) rfl ?_
   refine Dpn rfl rfl rfl rfl rfl (.inl (by rw [e2]; rfl)) rfl ?_
   refine Dpn rfl rfl rfl rfl rfl (.inl (by rw [e2]; rfl)) rfl ?_
   refine Dpn rfl rfl rfl rfl rfl (.inl (by rw [e2]; rfl)) rfl ?_
   refine Dpn rfl rfl rfl rfl rfl (.inl (by rw [e2]; rfl)) rfl ?_
   refine Drn rfl rfl rfl rfl rfl (.inl (by rw [e2]; rfl)) rfl ?_
   refine Drn rfl rfl rfl rfl rfl (.inl (by rw [e2]; rfl)) rfl ?_
   refine Dan rfl rfl rfl rfl rfl (.inl (by rw [e2]; rfl)) rfl ?_
   refine Dgn rfl rfl rfl rfl rfl (.inl (by rw [e2]; rfl)) rfl ?_
   refine Dan rfl rfl rfl rfl rfl (.inl (by rw [e2]; rfl)) rfl ?_
   refine Dgn rfl rfl rfl rfl rfl (.inl (by rw [e2]; rfl)) rfl ?_
   refine Dgn rfl rfl rfl rfl rfl (.inl (by rw [e2]; rfl)) rfl ?_
   refine Dpn rfl rfl rfl rfl rfl (.inl (by rw [e2]; rfl)) rfl ?_
   refine Dp rfl rfl rfl rfl (V_pickF rfl (evb e2) rfl) ?_
   refine ⟨_, FrEq.refl _, fun hdj => ?_⟩
   replace h := h hdj
   refine thenN ?_; exact ⟨_, FL, h⟩
  intro h e2
  refine Dpy rfl rfl rfl rfl rfl e2 rfl (V_move rfl rfl) ?_
  refine Dpy rfl rfl rfl rfl rfl e2 rfl (V_fld rfl underlying72 rfl ty9 (by decide) rfl) ?_
  refine Dpy rfl rfl rfl rfl rfl e2 rfl (V_fld rfl underlying72 rfl ty3 (by decide) rfl) ?_
  refine Dpy rfl rfl rfl rfl rfl e2 rfl (V_move rfl rfl) ?_
  refine Dpy rfl rfl rfl rfl rfl e2 rfl (V_fld rfl underlying72 rfl ty9 (by decide) rfl) ?_
  obtain ⟨u62, hc, h⟩ := h
  refine Dpy rfl rfl rfl rfl rfl e2 rfl (V_ld rfl underlying9 rfl rfl hc) ?_
  refine Dpy rfl rfl rfl rfl rfl e2 rfl (V_fld rfl underlying72 rfl ty3 (by decide) rfl) ?_
  obtain ⟨u63, hc, h⟩ := h
  refine Dpy rfl rfl rfl rfl rfl e2 rfl (V_ld rfl underlying3 rfl rfl hc) ?_
  obtain ⟨u64, hc, h⟩ := h
  refine Dry rfl rfl rfl rfl rfl e2 rfl (R_ld rfl underlying9 rfl rfl hc) ?_
  obtain ⟨u65, hc, h⟩ := h
  refine Dry rfl rfl rfl rfl rfl e2 rfl (R_ld rfl underlying3 rfl rfl hc) ?_
  refine Day rfl rfl rfl rfl rfl e2 rfl (A_bsl (vs := [(0, .int .i64 u65)]) (cs := #[.int .i64 u65]) rfl underlying58 ty3 (by decide) rfl rfl) fun u66 g1 g2 => ?_
  replace h := h u66 g1 g2
  refine Dgy rfl rfl rfl rfl rfl e2 rfl (X_call rfl func45 rfl rfl rfl (ACalls.mono h ?_))
  rintro v σ ⟨u67, rfl, h⟩; refine Day rfl rfl rfl rfl rfl e2 rfl (A_bsl (vs := [(0, .int .i64 u63)]) (cs := #[.int .i64 u63]) rfl underlying58 ty3 (by decide) rfl rfl) fun u68 g1 g2 => ?_
  replace h := h u68 g1 g2
  refine Dgy rfl rfl rfl rfl rfl e2 rfl (X_call rfl func46 rfl rfl rfl (ACalls.mono h ?_))
  rintro v σ ⟨u69, rfl, h⟩; refine Dgy rfl rfl rfl rfl rfl e2 rfl (X_call rfl func44 rfl rfl rfl (ACalls.mono h ?_))
  rintro v σ ⟨u70, rfl, h⟩; refine Dpy rfl rfl rfl rfl rfl e2 rfl (V_not rfl rfl) ?_
  refine Dp rfl rfl rfl rfl (V_pickT rfl (evb e2) rfl) ?_
  refine ⟨_, FrEq.refl _, fun hdj => ?_⟩
  replace h := h hdj
  refine thenN ?_; exact ⟨_, FL, h⟩
 rintro fr σ ⟨u60, hl, h⟩; refine AW.weaken ?_ hl (HLe.refl _)
 unfold j39_law08_MultiPlays at h; refine zj h (fun h => ?_) fun h => ?_
 ·refine z3 ?_; refine zp ?_; refine z2 ?_; refine AW.ret ?_; refine thenR (blockR (thenR (thenR (blockR (thenR ?_))))); exact bR1 results11 rfl ⟨_, rfl, h⟩
 refine AW.skip ?_; refine thenN (z3 ?_); refine zp ?_; refine zf underlying72 ty9 ?_; refine zL underlying9 h fun u71 h => ?_; refine zc func47 h ?_; rintro v σ ⟨u72, u73, rfl, h⟩; iterate 5 refine zp ?_
 refine z4 ?_; refine zp ?_; refine zf underlying72 ty9 ?_; refine zL underlying9 h fun u74 h => ?_; refine zA (A_bsl (vs := [(0, .string u74)]) (cs := #[.string u74]) rfl underlying25 ty9 (by decide) rfl rfl) h fun u75 h => ?_; refine zc func39 h ?_; rintro v σ ⟨u76, u77, rfl, h⟩; iterate 2 refine zp ?_
 refine zm (V_bld (vs := [(0, .int .i64 u72), (1, .int .i64 u73)]) (cs := #[.int .i64 u72, .int .i64 u73]) rfl underlying69 ty69 pl69 rfl rfl) ?_; refine zl (X_eq rfl rfl rfl (awp_mono _ h ?_))
 rintro v σ ⟨u78, rfl, h⟩; refine zp ?_; refine LsplitJ 14 u78 Iff.rfl h (fun fr σ => ∃ (u79 : Bool), FrLe [(5, .pointer u0), (6, .pointer u31), (28, Sl.v a1), (29, .int .i64 (a1.len : Int)), (30, .int .i64 u4), (168, .bool u79)] fr ∧ j48_law08_MultiPlays B ro a1 u0 u4 u31 Q Y5 u79 σ) ?_ ?_ ?_
 ·intro h e9 hk9; iterate 13 refine zn e9 ?_
  refine zk e9 ?_; exact hk9 _ _ ⟨_, FL, h⟩
 ·intro h e9 hk9; refine zy e9 ?_; refine Lypb (V_fld rfl underlying72 rfl ty9 (by decide) rfl) rfl rfl rfl rfl e9 ?_
  obtain ⟨u80, hc, h⟩ := h
  refine Lyb rfl rfl rfl rfl e9 (X_ld rfl underlying9 rfl rfl hc ?_)
  refine Lypb (V_fld rfl underlying72 rfl ty9 (by decide) rfl) rfl rfl rfl rfl e9 ?_
  obtain ⟨u81, hc, h⟩ := h
  refine Lyb rfl rfl rfl rfl e9 (X_ld rfl underlying9 rfl rfl hc ?_)
  refine Lyb rfl rfl rfl rfl e9 (X_new (A_bsl (vs := [(0, .string u80), (1, .string u81)]) (cs := #[.string u80, .string u81]) rfl underlying25 ty9 (by decide) rfl rfl) fun u82 g1 g2 => ?_)
  replace h := h u82 g1 g2
  refine Lyb rfl rfl rfl rfl e9 (X_call rfl func39 rfl rfl rfl (ACalls.mono h ?_))
  rintro v σ ⟨u83, u84, rfl, h⟩; refine zy e9 ?_; refine zy e9 ?_; refine zy e9 ?_; refine zy e9 ?_; refine Lypb (V_bld (vs := [(0, .int .i64 (i64.wrap (2 * u72))), (1, .int .i64 (i64.wrap (2 * u73)))]) (cs := #[.int .i64 (i64.wrap (2 * u72)), .int .i64 (i64.wrap (2 * u73))]) rfl underlying69 ty69 pl69 rfl rfl) rfl rfl rfl rfl e9 ?_
  refine Lyb rfl rfl rfl rfl e9 (X_eq rfl rfl rfl (awp_mono _ h ?_))
  rintro v σ ⟨u85, rfl, h⟩; refine zk e9 ?_; exact hk9 _ _ ⟨_, FL, h⟩
 rintro fr σ ⟨u79, hl, h⟩; unfold j48_law08_MultiPlays at h; refine Lfr hl ?_
 refine zp ?_; refine LsplitJ 7 u79 Iff.rfl h (fun fr σ => ∃ (u86 : Bool), FrLe [(5, .pointer u0), (6, .pointer u31), (28, Sl.v a1), (29, .int .i64 (a1.len : Int)), (30, .int .i64 u4), (176, .bool u86)] fr ∧ j50_law08_MultiPlays B ro a1 u0 u4 u31 Q Y5 u86 σ) ?_ ?_ ?_
 ·intro h e24 hk24; iterate 6 refine zn e24 ?_
  refine zk e24 ?_; exact hk24 _ _ ⟨_, FL, h⟩
 ·intro h e24 hk24; refine zy e24 ?_; refine Lyb rfl rfl rfl rfl e24 (X_call rfl func21 rfl rfl rfl (ACalls.mono h ?_))
  rintro v σ ⟨u87, rfl, h⟩; refine zy e24 ?_; refine Lyb rfl rfl rfl rfl e24 (X_call rfl func48 rfl rfl rfl (ACalls.mono h ?_))
  rintro v σ ⟨u88, rfl, h⟩; refine Lyb rfl rfl rfl rfl e24 (X_call rfl func26 rfl rfl rfl (ACalls.mono h ?_))
  rintro v σ ⟨u89, rfl, h⟩; refine zy e24 ?_; refine zk e24 ?_; exact hk24 _ _ ⟨_, FL, h⟩
 rintro fr σ ⟨u86, hl, h⟩; unfold j50_law08_MultiPlays at h; refine Lfr hl ?_
 refine z2 ?_; refine zj h (fun h => ?_) fun h => ?_
 rotate_left
 ·refine AW.skip ?_; refine blockN (thenN ?_); exact ⟨_, FL, h⟩
 refine z3 ?_; refine zp ?_; refine z2 ?_; refine AW.ret ?_; refine blockR (thenR (thenR (blockR (thenR ?_)))); exact bR1 results11 rfl ⟨_, rfl, h⟩
def j2_law08_start (B : World) (ro : AH) (u0 : Option Addr) (Q : Option Addr → AH → Prop) (σ : AH) : Prop :=
 Q u0 σ
def l3_law08_start (B : World) (ro : AH) (a0 : Sl) (u0 : Option Addr) (Q : Option Addr → AH → Prop) : (Int) → AH → ((Int) → AH → Prop) → Prop := fun u1 σ Y3 =>
 if u1 < (a0.len : Int) then
 ∃ p2, a0.a = some p2 ∧ (0 : Int) ≤ u1 ∧ u1 < (a0.len : Int) ∧
 ∃ u3, acell ro σ (p2.add (Int.toNat u1 * 1)) = some (.string u3) ∧
 (⟨#[47]⟩ : ByteArray).size + u3.size ≤ 9223372036854775807 ∧
 c_ztree_Tree_Create B ro u0 ((⟨#[47]⟩ : ByteArray) ++ u3) (⟨none, 0, 0⟩ : Sl) 0 false σ fun u4 u5 σ =>
 Y3 (i64.wrap (u1 + 1)) σ
 else
 j2_law08_start B ro u0 Q σ
def f_law08_start (B : World) (ro : AH) (a0 : Sl) (σ : AH) (Q : Option Addr → AH → Prop) : Prop :=
 c_ztree_New B ro σ fun u0 σ =>
 if u0 = none then
 Q none σ
 else
 lfpD (l3_law08_start B ro a0 u0 Q ) (0) σ
theorem law08_start_ok {a0 : Sl} {Q : Option Addr → AH → Prop} (h : Sep ro σ → f_law08_start B ro a0 σ Q) : c_law08_start B ro a0 σ Q := by
 refine zb h func35 ntmps35 fun h => ?_; unfold f_law08_start at h; refine z3 ?_; refine zp ?_; refine z4 ?_; refine zc func30 h ?_; rintro v σ ⟨u0, rfl, h⟩; refine zp ?_; refine z2 (AW.seq (z3 ?_))
 refine zp ?_; refine zm (V_eqP rfl underlying23 rfl rfl) ?_; refine z2 ?_; refine AW.iff rfl isNone_iff h (fun h => ?_) (fun h => ?_)
 ·refine z3 ?_; refine zp ?_; refine z2 ?_; refine AW.ret ?_; refine thenR ?_; exact bR1 results35 rfl ⟨_, rfl, h⟩
 refine AW.skip ?_; refine thenN ?_; refine AW.seqJ (fun fr σ => FrLe [(3, .pointer u0)] fr ∧ j2_law08_start B ro u0 Q σ) ?_ ?_
 ·rintro fr σ ⟨hl, h⟩; refine AW.weaken ?_ hl (HLe.refl _)
  unfold j2_law08_start at h; refine z3 ?_; iterate 2 refine zp ?_
  refine z2 ?_; refine AW.ret ?_; exact bR1 results35 rfl ⟨_, rfl, h⟩
 refine z3 ?_; refine zp ?_; refine zm (V_lenL rfl rfl underlying25 rfl rfl) ?_; refine zp ?_; refine z2 (AW.block ?_)
 refine ARound.loop (fr' := [(3, .pointer u0), (9, Sl.v a0), (10, .int .i64 (a0.len : Int)), (11, .int .i64 0)]) ?_ FL
 refine h (fun u1 σ => ARound _ _ _ _ _ _ [(3, .pointer u0), (9, Sl.v a0), (10, .int .i64 (a0.len : Int)), (11, .int .i64 u1)] σ) ?_
 rintro u1 σ Y3 hY3 h
 show AW _ _ _ _ _ _ _ _
 unfold l3_law08_start at h; refine z3 ?_; refine zp ?_; refine z2 (AW.seq ?_)
 refine zi h (fun h => ?_) fun h => ?_
 rotate_left
 ·refine AW.exit ?_; refine thenE (thenE ?_); refine blockE ?_
  refine thenN ?_; exact ⟨FL, h⟩
 refine AW.skip ?_; refine thenN (AW.seq (AW.block (z3 ?_))); obtain ⟨p2, ha, h0, h1, h⟩ := h
 refine zm (V_ixA rfl underlying25 ty9 (ixL rfl ha) rfl h0 h1) ?_; refine zL underlying9 h fun u3 h => ?_; refine zp ?_; refine z2 (AW.reg ?_)
 iterate 2 refine zp ?_
 obtain ⟨hc, h⟩ := h
 refine zm (V_cat rfl rfl rfl hc) ?_; refine zc func22 h ?_; rintro v σ ⟨u4, u5, rfl, h⟩; refine Lnil (blockN (thenN (AW.reg ?_))); iterate 2 refine zp ?_
 refine z2 ?_; refine ARound.head (fr' := [(3, .pointer u0), (9, Sl.v a0), (10, .int .i64 (a0.len : Int)), (11, .int .i64 (i64.wrap (u1 + 1)))]) ?_ FL
 exact hY3 _ _ h
def j1_law08_copied (B : World) (ro : AH) (Q : Sl → AH → Prop) (u0 : Sl) (σ : AH) : Prop :=
 Q u0 σ
def l3_law08_copied (B : World) (ro : AH) (a0 : Sl) (Q : Sl → AH → Prop) : (Sl × Int) → AH → ((Sl × Int) → AH → Prop) → Prop := fun ⟨u0, u1⟩ σ Y3 =>
 if u1 < (a0.len : Int) then
 ∃ p2, a0.a = some p2 ∧ (0 : Int) ≤ u1 ∧ u1 < (a0.len : Int) ∧
 ∃ u3 u4 u5 u6 u7 u8, cellsAt ro σ (p2.add (Int.toNat u1 * 6)) 0 [.int .i64 u3, .string u4, Sl.v u5, .int .i64 u6, .bool u7, .bool u8] ∧
 nw ro σ (.cells #[.int .i64 0, .string ByteArray.empty, Sl.v (⟨none, 0, 0⟩ : Sl), .int .i64 0, .bool false, .bool false] 82) fun u9 σ =>
 stN ⟨u9, 0, none⟩ (fun σ =>
  ∃ u10, acell ro σ ((⟨u9, 0, none⟩ : Addr).add 2) = some (Sl.v u10) ∧
  c_ref01_Copy B ro u10 σ fun u11 σ =>
  stN ((⟨u9, 0, none⟩ : Addr).add 2) (fun σ =>
  ∃ u12 u13 u14 u15 u16 u17, cellsAt ro σ ⟨u9, 0, none⟩ 0 [.int .i64 u12, .string u13, Sl.v u14, .int .i64 u15, .bool u16, .bool u17] ∧
  nw ro σ (.cells #[.int .i64 u12, .string u13, Sl.v u14, .int .i64 u15, .bool u16, .bool u17] 82) fun u18 σ =>
  awp prog ro (Builtin.append_ #[70, 70] 70 #[Sl.v u0, Sl.v (⟨some ⟨u18, 0, none⟩, 1, 1⟩ : Sl)]) (fun v σ => ∃ (u19 : Sl), v = Sl.v u19 ∧
   Y3 (u19, i64.wrap (u1 + 1)) σ) σ) [Sl.v u11] 0 σ) [.int .i64 u3, .string u4, Sl.v u5, .int .i64 u6, .bool u7, .bool u8] 0 σ
 else
 j1_law08_copied B ro Q u0 σ
def f_law08_copied (B : World) (ro : AH) (a0 : Sl) (σ : AH) (Q : Sl → AH → Prop) : Prop :=
 lfpD (l3_law08_copied B ro a0 Q ) ((⟨none, 0, 0⟩ : Sl), 0) σ
theorem law08_copied_ok {a0 : Sl} {Q : Sl → AH → Prop} (h : Sep ro σ → f_law08_copied B ro a0 σ Q) : c_law08_copied B ro a0 σ Q := by
 refine zb h func37 ntmps37 fun h => ?_; unfold f_law08_copied at h; refine z3 ?_; refine zp ?_; refine z4 ?_; refine zp ?_; refine z2 ?_; refine AW.seqJ (fun fr σ => ∃ (u0 : Sl), FrLe [(3, Sl.v u0)] fr ∧ j1_law08_copied B ro Q u0 σ) ?_ ?_
 ·rintro fr σ ⟨u0, hl, h⟩; refine AW.weaken ?_ hl (HLe.refl _)
  unfold j1_law08_copied at h; refine z3 ?_; iterate 2 refine zp ?_
  refine z2 ?_; refine AW.ret ?_; exact bR1 results37 rfl ⟨_, rfl, h⟩
 refine z3 ?_; refine zp ?_; refine zm (V_lenL rfl rfl underlying70 rfl rfl) ?_; refine zp ?_; refine z2 (AW.block ?_)
 refine ARound.loop (fr' := [(6, Sl.v a0), (7, .int .i64 (a0.len : Int)), (3, Sl.v (⟨none, 0, 0⟩ : Sl)), (8, .int .i64 0)]) ?_ FL
 refine h (fun ⟨u1, u2⟩ σ => ARound _ _ _ _ _ _ [(6, Sl.v a0), (7, .int .i64 (a0.len : Int)), (3, Sl.v u1), (8, .int .i64 u2)] σ) ?_
 rintro ⟨u1, u2⟩ σ Y3 hY3 h
 show AW _ _ _ _ _ _ _ _
 unfold l3_law08_copied at h; dsimp only at h; refine z3 ?_; refine zp ?_; refine z2 (AW.seq ?_)
 refine zi h (fun h => ?_) fun h => ?_
 rotate_left
 ·refine AW.exit ?_; refine thenE (thenE ?_); refine blockE ?_
  refine thenN ?_; exact ⟨_, FL, h⟩
 refine AW.skip ?_; refine thenN (AW.seq (AW.block (z3 ?_))); obtain ⟨p3, ha, h0, h1, h⟩ := h
 refine zm (V_ixA rfl underlying70 ty82 (ixL rfl ha) rfl h0 h1) ?_; obtain ⟨u4, u5, u6, u7, u8, u9, hc, h⟩ := h
 refine zl (X_lda rfl underlying82 rfl ty82 rfl hc ?_)
 refine zA (A_alloc rfl ty82) h fun u10 h => ?_; refine zs ty82 h fun σ h => ?_; refine z4 ?_; refine zf underlying82 ty30 ?_; refine zL underlying30 h fun u11 h => ?_; refine zc func23 h ?_; rintro v σ ⟨u12, rfl, h⟩; refine zf underlying82 ty30 ?_; refine zs ty30 h fun σ h => ?_; refine z2 (AW.reg ?_)
 refine zp ?_; obtain ⟨u13, u14, u15, u16, u17, u18, hc, h⟩ := h
 refine zl (X_lda rfl underlying82 rfl ty82 rfl hc ?_)
 refine zA (A_bsl (vs := [(0, .agg #[.int .i64 u13, .string u14, Sl.v u15, .int .i64 u16, .bool u17, .bool u18])]) (cs := #[.int .i64 u13, .string u14, Sl.v u15, .int .i64 u16, .bool u17, .bool u18]) rfl underlying70 ty82 (by decide) rfl rfl) h fun u19 h => ?_; refine zl (X_bi (s := Builtin.append_ #[70, 70] 70 #[Sl.v u1, Sl.v (⟨some ⟨u19, 0, none⟩, 1, 1⟩ : Sl)]) rfl rfl (fun _ => rfl) (awp_mono _ h ?_))
 rintro v σ ⟨u20, rfl, h⟩; refine zp ?_; refine Lnil (blockN (thenN (AW.reg ?_))); iterate 2 refine zp ?_
 refine z2 ?_; refine ARound.head (fr' := [(6, Sl.v a0), (7, .int .i64 (a0.len : Int)), (3, Sl.v u20), (8, .int .i64 (i64.wrap (u2 + 1)))]) ?_ FL
 exact hY3 _ _ h
def j13_law08_awake (B : World) (ro : AH) (Q : Bool → AH → Prop) (u0 : Bool) (σ : AH) : Prop :=
 Q u0 σ
def j11_law08_awake (B : World) (ro : AH) (u0 : Option Addr) (Q : Bool → AH → Prop) (u1 : Bool) (σ : AH) : Prop :=
 if u1 = true then
 c_ztree_Tree_Size B ro u0 σ fun u2 σ =>
 j13_law08_awake B ro Q (decide (u2 = 3)) σ
 else
 j13_law08_awake B ro Q false σ
def j9_law08_awake (B : World) (ro : AH) (u0 : Nat) (u1 : Option Addr) (Q : Bool → AH → Prop) (u2 : Bool) (σ : AH) : Prop :=
 if u2 = true then
 ∃ u3, acell ro σ ⟨u0, 0, none⟩ = some (Sl.v u3) ∧
 ∃ p4, u3.a = some p4 ∧ (0 : Int) ≤ 0 ∧ 0 < (u3.len : Int) ∧
 ∃ u5, acell ro σ (p4.add (Int.toNat 0 * 2)) = some (.string u5) ∧
 j11_law08_awake B ro u1 Q (decide (u5 = (⟨#[47, 97, 47, 120]⟩ : ByteArray))) σ
 else
 j11_law08_awake B ro u1 Q false σ
def j7_law08_awake (B : World) (ro : AH) (u0 : Nat) (u1 : Option Addr) (Q : Bool → AH → Prop) (u2 : Bool) (σ : AH) : Prop :=
 if u2 = true then
 ∃ u3, acell ro σ ⟨u0, 0, none⟩ = some (Sl.v u3) ∧
 j9_law08_awake B ro u0 u1 Q (decide ((u3.len : Int) = 1)) σ
 else
 j9_law08_awake B ro u0 u1 Q false σ
def f_law08_awake (B : World) (ro : AH) (σ : AH) (Q : Bool → AH → Prop) : Prop :=
 nw ro σ (.cells #[.string (⟨#[97]⟩ : ByteArray)] 9) fun u0 σ =>
 c_law08_start B ro (⟨some ⟨u0, 0, none⟩, 1, 1⟩ : Sl) σ fun u1 σ =>
 if u1 = none then
 Q false σ
 else
 nw ro σ (.cells #[.int .i64 1, .string (⟨#[47, 97, 47, 120]⟩ : ByteArray), Sl.v (⟨none, 0, 0⟩ : Sl), .int .i64 0, .bool false, .bool false] 82) fun u2 σ =>
 c_multi_Apply B ro u1 (⟨#[97]⟩ : ByteArray) 5 9 99 (⟨some ⟨u2, 0, none⟩, 1, 1⟩ : Sl) σ fun u3 u4 u5 u6 σ =>
 nw ro σ (.cells #[Sl.v (⟨none, 0, 0⟩ : Sl), Sl.v (⟨none, 0, 0⟩ : Sl), .int .i64 0] 77) fun u7 σ =>
 stN ⟨u7, 0, none⟩ (fun σ =>
 if u6 = 0 then
  ∃ u8, acell ro σ ((⟨u7, 0, none⟩ : Addr).add 2) = some (.int .i64 u8) ∧
  j7_law08_awake B ro u7 u1 Q (decide (u8 = (-1))) σ
 else
 j7_law08_awake B ro u7 u1 Q false σ) [Sl.v u3, Sl.v u4, .int .i64 u5] 0 σ
theorem law08_awake_ok {Q : Bool → AH → Prop} (h : Sep ro σ → f_law08_awake B ro σ Q) : c_law08_awake B ro σ Q := by
 refine zb h func38 ntmps38 fun h => ?_; unfold f_law08_awake at h; refine z3 ?_; refine zp ?_; refine z4 ?_; refine zA (A_bsl (vs := [(0, .string (⟨#[97]⟩ : ByteArray))]) (cs := #[.string (⟨#[97]⟩ : ByteArray)]) rfl underlying25 ty9 (by decide) rfl rfl) h fun u0 h => ?_; refine zc func35 h ?_; rintro v σ ⟨u1, rfl, h⟩; refine zp ?_; refine z2 (AW.seq (z3 ?_))
 refine zp ?_; refine zm (V_eqP rfl underlying23 rfl rfl) ?_; refine z2 ?_; refine AW.iff rfl isNone_iff h (fun h => ?_) (fun h => ?_)
 ·refine z3 ?_; refine zp ?_; refine z2 ?_; refine AW.ret ?_; refine thenR ?_; exact bR1 results38 rfl ⟨_, rfl, h⟩
 refine AW.skip ?_; refine thenN (z3 ?_); refine zp ?_; refine zm (V_bld (vs := [(0, .int .i64 9), (1, .int .i64 99)]) (cs := #[.int .i64 9, .int .i64 99]) rfl underlying69 ty69 pl69 rfl rfl) ?_; refine zm (V_bld (vs := [(0, .int .i64 1), (1, .string (⟨#[47, 97, 47, 120]⟩ : ByteArray))]) (cs := #[.int .i64 1, .string (⟨#[47, 97, 47, 120]⟩ : ByteArray), Sl.v (⟨none, 0, 0⟩ : Sl), .int .i64 0, .bool false, .bool false]) rfl underlying82 ty82 pl82 rfl rfl) ?_
 refine zA (A_bsl (vs := [(0, .agg #[.int .i64 1, .string (⟨#[47, 97, 47, 120]⟩ : ByteArray), Sl.v (⟨none, 0, 0⟩ : Sl), .int .i64 0, .bool false, .bool false])]) (cs := #[.int .i64 1, .string (⟨#[47, 97, 47, 120]⟩ : ByteArray), Sl.v (⟨none, 0, 0⟩ : Sl), .int .i64 0, .bool false, .bool false]) rfl underlying70 ty82 (by decide) rfl rfl) h fun u2 h => ?_; refine zc func36 h ?_; rintro v σ ⟨u3, u4, u5, u6, rfl, h⟩
 iterate 3 refine zp ?_
 refine zA (A_alloc rfl ty77) h fun u7 h => ?_; refine zs ty77 h fun σ h => ?_; refine zp ?_; refine z4 ?_; iterate 3 refine zp ?_
 refine LsplitJ 4 (decide (u6 = 0)) decide_eq_true_iff h (fun fr σ => ∃ (u8 : Bool), FrLe [(1, .pointer u1), (2, .pointer (some ⟨u7, 0, none⟩)), (22, .bool u8)] fr ∧ j7_law08_awake B ro u7 u1 Q u8 σ) ?_ ?_ ?_
 ·intro h e2 hk2; refine Lypb (V_fld rfl underlying77 rfl ty3 (by decide) rfl) rfl rfl rfl rfl e2 ?_
  obtain ⟨u9, hc, h⟩ := h
  refine Lyb rfl rfl rfl rfl e2 (X_ld rfl underlying3 rfl rfl hc ?_)
  refine zy e2 ?_; refine zk e2 ?_; exact hk2 _ _ ⟨_, FL, h⟩
 ·intro h e2 hk2; iterate 3 refine zn e2 ?_
  refine zk e2 ?_; exact hk2 _ _ ⟨_, FL, h⟩
 rintro fr σ ⟨u8, hl, h⟩; unfold j7_law08_awake at h; refine Lfr hl ?_
 refine zp ?_; refine LsplitJ 5 u8 Iff.rfl h (fun fr σ => ∃ (u10 : Bool), FrLe [(1, .pointer u1), (2, .pointer (some ⟨u7, 0, none⟩)), (28, .bool u10)] fr ∧ j9_law08_awake B ro u7 u1 Q u10 σ) ?_ ?_ ?_
 ·intro h e7 hk7; refine Lypb (V_fld rfl underlying77 rfl ty74 (by decide) rfl) rfl rfl rfl rfl e7 ?_
  obtain ⟨u11, hc, h⟩ := h
  refine Lyb rfl rfl rfl rfl e7 (X_ld rfl underlying74 rfl rfl hc ?_)
  refine Lypb (V_lenL rfl rfl underlying74 rfl rfl) rfl rfl rfl rfl e7 ?_
  refine zy e7 ?_; refine zk e7 ?_; exact hk7 _ _ ⟨_, FL, h⟩
 ·intro h e7 hk7; iterate 4 refine zn e7 ?_
  refine zk e7 ?_; exact hk7 _ _ ⟨_, FL, h⟩
 rintro fr σ ⟨u10, hl, h⟩; unfold j9_law08_awake at h; refine Lfr hl ?_
 refine zp ?_; refine LsplitJ 7 u10 Iff.rfl h (fun fr σ => ∃ (u12 : Bool), FrLe [(1, .pointer u1), (36, .bool u12)] fr ∧ j11_law08_awake B ro u1 Q u12 σ) ?_ ?_ ?_
 ·intro h e13 hk13; refine Lypb (V_fld rfl underlying77 rfl ty74 (by decide) rfl) rfl rfl rfl rfl e13 ?_
  obtain ⟨u13, hc, h⟩ := h
  refine Lyb rfl rfl rfl rfl e13 (X_ld rfl underlying74 rfl rfl hc ?_)
  obtain ⟨p14, ha, h0, h1, h⟩ := h
  refine Lypb (V_ixA rfl underlying74 ty84 (ixL rfl ha) rfl h0 h1) rfl rfl rfl rfl e13 ?_
  refine Lypb (V_fld rfl underlying84 rfl ty9 (by decide) rfl) rfl rfl rfl rfl e13 ?_
  obtain ⟨u15, hc, h⟩ := h
  refine Lyb rfl rfl rfl rfl e13 (X_ld rfl underlying9 rfl rfl hc ?_)
  refine zy e13 ?_; refine zk e13 ?_; exact hk13 _ _ ⟨_, FL, h⟩
 ·intro h e13 hk13; iterate 6 refine zn e13 ?_
  refine zk e13 ?_; exact hk13 _ _ ⟨_, FL, h⟩
 rintro fr σ ⟨u12, hl, h⟩; unfold j11_law08_awake at h; refine Lfr hl ?_
 refine zp ?_; refine LsplitJ 4 u12 Iff.rfl h (fun fr σ => ∃ (u16 : Bool), FrLe [(41, .bool u16)] fr ∧ j13_law08_awake B ro Q u16 σ) ?_ ?_ ?_
 ·intro h e21 hk21; refine zy e21 ?_; refine Lyb rfl rfl rfl rfl e21 (X_call rfl func16 rfl rfl rfl (ACalls.mono h ?_))
  rintro v σ ⟨u17, rfl, h⟩; refine zy e21 ?_; refine zk e21 ?_; exact hk21 _ _ ⟨_, FL, h⟩
 ·intro h e21 hk21; iterate 3 refine zn e21 ?_
  refine zk e21 ?_; exact hk21 _ _ ⟨_, FL, h⟩
 rintro fr σ ⟨u16, hl, h⟩; unfold j13_law08_awake at h; refine Lfr hl ?_
 refine zp ?_; refine z2 ?_; refine AW.ret ?_; exact bR1 results38 rfl ⟨_, rfl, h⟩
def j2_law08_begin (B : World) (ro : AH) (u0 : Option Addr) (Q : Option Addr → AH → Prop) (σ : AH) : Prop :=
 Q u0 σ
def l3_law08_begin (B : World) (ro : AH) (a0 : Sl) (u0 : Option Addr) (Q : Option Addr → AH → Prop) : (Int) → AH → ((Int) → AH → Prop) → Prop := fun u1 σ Y3 =>
 if u1 < (a0.len : Int) then
 ∃ p2, a0.a = some p2 ∧ (0 : Int) ≤ u1 ∧ u1 < (a0.len : Int) ∧
 ∃ u3, acell ro σ (p2.add (Int.toNat u1 * 1)) = some (.string u3) ∧
 (⟨#[47]⟩ : ByteArray).size + u3.size ≤ 9223372036854775807 ∧
 c_ref07_Tree_Create B ro u0 ((⟨#[47]⟩ : ByteArray) ++ u3) (⟨none, 0, 0⟩ : Sl) 0 false σ fun u4 u5 σ =>
 Y3 (i64.wrap (u1 + 1)) σ
 else
 j2_law08_begin B ro u0 Q σ
def f_law08_begin (B : World) (ro : AH) (a0 : Sl) (σ : AH) (Q : Option Addr → AH → Prop) : Prop :=
 c_ref07_New B ro σ fun u0 σ =>
 lfpD (l3_law08_begin B ro a0 u0 Q ) (0) σ
theorem law08_begin_ok {a0 : Sl} {Q : Option Addr → AH → Prop} (h : Sep ro σ → f_law08_begin B ro a0 σ Q) : c_law08_begin B ro a0 σ Q := by
 refine zb h func40 ntmps40 fun h => ?_; unfold f_law08_begin at h; refine z3 ?_; refine zp ?_; refine z4 ?_; refine zc func31 h ?_; rintro v σ ⟨u0, rfl, h⟩; refine zp ?_; refine z2 ?_; refine AW.seqJ (fun fr σ => FrLe [(3, .pointer u0)] fr ∧ j2_law08_begin B ro u0 Q σ) ?_ ?_
 ·rintro fr σ ⟨hl, h⟩; refine AW.weaken ?_ hl (HLe.refl _)
  unfold j2_law08_begin at h; refine z3 ?_; iterate 2 refine zp ?_
  refine z2 ?_; refine AW.ret ?_; exact bR1 results40 rfl ⟨_, rfl, h⟩
 refine z3 ?_; refine zp ?_; refine zm (V_lenL rfl rfl underlying25 rfl rfl) ?_; refine zp ?_; refine z2 (AW.block ?_)
 refine ARound.loop (fr' := [(3, .pointer u0), (7, Sl.v a0), (8, .int .i64 (a0.len : Int)), (9, .int .i64 0)]) ?_ FL
 refine h (fun u1 σ => ARound _ _ _ _ _ _ [(3, .pointer u0), (7, Sl.v a0), (8, .int .i64 (a0.len : Int)), (9, .int .i64 u1)] σ) ?_
 rintro u1 σ Y3 hY3 h
 show AW _ _ _ _ _ _ _ _
 unfold l3_law08_begin at h; refine z3 ?_; refine zp ?_; refine z2 (AW.seq ?_)
 refine zi h (fun h => ?_) fun h => ?_
 rotate_left
 ·refine AW.exit ?_; refine thenE (thenE ?_); refine blockE ?_
  refine thenN ?_; exact ⟨FL, h⟩
 refine AW.skip ?_; refine thenN (AW.seq (AW.block (z3 ?_))); obtain ⟨p2, ha, h0, h1, h⟩ := h
 refine zm (V_ixA rfl underlying25 ty9 (ixL rfl ha) rfl h0 h1) ?_; refine zL underlying9 h fun u3 h => ?_; refine zp ?_; refine z2 (AW.reg ?_)
 iterate 2 refine zp ?_
 obtain ⟨hc, h⟩ := h
 refine zm (V_cat rfl rfl rfl hc) ?_; refine zc func32 h ?_; rintro v σ ⟨u4, u5, rfl, h⟩; refine Lnil (blockN (thenN (AW.reg ?_))); iterate 2 refine zp ?_
 refine z2 ?_; refine ARound.head (fr' := [(3, .pointer u0), (7, Sl.v a0), (8, .int .i64 (a0.len : Int)), (9, .int .i64 (i64.wrap (u1 + 1)))]) ?_ FL
 exact hY3 _ _ h
def j1_law08_ops (B : World) (ro : AH) (Q : Sl → AH → Prop) (u0 : Sl) (σ : AH) : Prop :=
 Q u0 σ
def l3_law08_ops (B : World) (ro : AH) (a0 : Sl) (Q : Sl → AH → Prop) : (Sl × Int) → AH → ((Sl × Int) → AH → Prop) → Prop := fun ⟨u0, u1⟩ σ Y3 =>
 if u1 < (a0.len : Int) then
 ∃ p2, a0.a = some p2 ∧ (0 : Int) ≤ u1 ∧ u1 < (a0.len : Int) ∧
 ∃ u3 u4 u5 u6 u7 u8, cellsAt ro σ (p2.add (Int.toNat u1 * 6)) 0 [.int .i64 u3, .string u4, Sl.v u5, .int .i64 u6, .bool u7, .bool u8] ∧
 nw ro σ (.cells #[.int .i64 0, .string ByteArray.empty, Sl.v (⟨none, 0, 0⟩ : Sl), .int .i64 0, .bool false, .bool false] 82) fun u9 σ =>
 stN ⟨u9, 0, none⟩ (fun σ =>
  ∃ u10 u11 u12 u13 u14 u15, cellsAt ro σ ⟨u9, 0, none⟩ 0 [.int .i64 u10, .string u11, Sl.v u12, .int .i64 u13, .bool u14, .bool u15] ∧
  c_law08_op B ro u10 u11 u12 u13 u14 u15 σ fun u16 u17 u18 u19 u20 u21 σ =>
  nw ro σ (.cells #[.int .i64 u16, .string u17, Sl.v u18, .int .i64 u19, .bool u20, .bool u21] 179) fun u22 σ =>
  awp prog ro (Builtin.append_ #[96, 96] 96 #[Sl.v u0, Sl.v (⟨some ⟨u22, 0, none⟩, 1, 1⟩ : Sl)]) (fun v σ => ∃ (u23 : Sl), v = Sl.v u23 ∧
  Y3 (u23, i64.wrap (u1 + 1)) σ) σ) [.int .i64 u3, .string u4, Sl.v u5, .int .i64 u6, .bool u7, .bool u8] 0 σ
 else
 j1_law08_ops B ro Q u0 σ
def f_law08_ops (B : World) (ro : AH) (a0 : Sl) (σ : AH) (Q : Sl → AH → Prop) : Prop :=
 lfpD (l3_law08_ops B ro a0 Q ) ((⟨none, 0, 0⟩ : Sl), 0) σ
theorem law08_ops_ok {a0 : Sl} {Q : Sl → AH → Prop} (h : Sep ro σ → f_law08_ops B ro a0 σ Q) : c_law08_ops B ro a0 σ Q := by
 refine zb h func42 ntmps42 fun h => ?_; unfold f_law08_ops at h; refine z3 ?_; refine zp ?_; refine z4 ?_; refine zp ?_; refine z2 ?_; refine AW.seqJ (fun fr σ => ∃ (u0 : Sl), FrLe [(3, Sl.v u0)] fr ∧ j1_law08_ops B ro Q u0 σ) ?_ ?_
 ·rintro fr σ ⟨u0, hl, h⟩; refine AW.weaken ?_ hl (HLe.refl _)
  unfold j1_law08_ops at h; refine z3 ?_; iterate 2 refine zp ?_
  refine z2 ?_; refine AW.ret ?_; exact bR1 results42 rfl ⟨_, rfl, h⟩
 refine z3 ?_; refine zp ?_; refine zm (V_lenL rfl rfl underlying70 rfl rfl) ?_; refine zp ?_; refine z2 (AW.block ?_)
 refine ARound.loop (fr' := [(6, Sl.v a0), (7, .int .i64 (a0.len : Int)), (3, Sl.v (⟨none, 0, 0⟩ : Sl)), (8, .int .i64 0)]) ?_ FL
 refine h (fun ⟨u1, u2⟩ σ => ARound _ _ _ _ _ _ [(6, Sl.v a0), (7, .int .i64 (a0.len : Int)), (3, Sl.v u1), (8, .int .i64 u2)] σ) ?_
 rintro ⟨u1, u2⟩ σ Y3 hY3 h
 show AW _ _ _ _ _ _ _ _
 unfold l3_law08_ops at h; dsimp only at h; refine z3 ?_; refine zp ?_; refine z2 (AW.seq ?_)
 refine zi h (fun h => ?_) fun h => ?_
 rotate_left
 ·refine AW.exit ?_; refine thenE (thenE ?_); refine blockE ?_
  refine thenN ?_; exact ⟨_, FL, h⟩
 refine AW.skip ?_; refine thenN (AW.seq (AW.block (z3 ?_))); obtain ⟨p3, ha, h0, h1, h⟩ := h
 refine zm (V_ixA rfl underlying70 ty82 (ixL rfl ha) rfl h0 h1) ?_; obtain ⟨u4, u5, u6, u7, u8, u9, hc, h⟩ := h
 refine zl (X_lda rfl underlying82 rfl ty82 rfl hc ?_)
 refine zA (A_alloc rfl ty82) h fun u10 h => ?_; refine zs ty82 h fun σ h => ?_; refine z2 (AW.reg ?_)
 refine zp ?_; obtain ⟨u11, u12, u13, u14, u15, u16, hc, h⟩ := h
 refine zl (X_lda rfl underlying82 rfl ty82 rfl hc ?_)
 refine zc func100 h ?_; rintro v σ ⟨u17, u18, u19, u20, u21, u22, rfl, h⟩; refine zA (A_bsl (vs := [(0, .agg #[.int .i64 u17, .string u18, Sl.v u19, .int .i64 u20, .bool u21, .bool u22])]) (cs := #[.int .i64 u17, .string u18, Sl.v u19, .int .i64 u20, .bool u21, .bool u22]) rfl underlying96 ty179 (by decide) rfl rfl) h fun u23 h => ?_; refine zl (X_bi (s := Builtin.append_ #[96, 96] 96 #[Sl.v u1, Sl.v (⟨some ⟨u23, 0, none⟩, 1, 1⟩ : Sl)]) rfl rfl (fun _ => rfl) (awp_mono _ h ?_))
 rintro v σ ⟨u24, rfl, h⟩; refine zp ?_; refine Lnil (blockN (thenN (AW.reg ?_))); iterate 2 refine zp ?_
 refine z2 ?_; refine ARound.head (fr' := [(6, Sl.v a0), (7, .int .i64 (a0.len : Int)), (3, Sl.v u24), (8, .int .i64 (i64.wrap (u2 + 1)))]) ?_ FL
 exact hY3 _ _ h
def j1_law08_sameResults (B : World) (ro : AH) (Q : Bool → AH → Prop) (σ : AH) : Prop :=
 Q true σ
def j4_law08_sameResults (B : World) (ro : AH) (a0 : Sl) (a1 : Sl) (u0 : Int) (Q : Bool → AH → Prop) (Y2 : (Int) → AH → Prop) (u1 : Bool) (σ : AH) : Prop :=
 if u1 = true then
 Q false σ
 else
 Y2 (i64.wrap (u0 + 1)) σ
def l2_law08_sameResults (B : World) (ro : AH) (a0 : Sl) (a1 : Sl) (Q : Bool → AH → Prop) : (Int) → AH → ((Int) → AH → Prop) → Prop := fun u0 σ Y2 =>
 if u0 < (a0.len : Int) then
 ∃ p1, a0.a = some p1 ∧ (0 : Int) ≤ u0 ∧ u0 < (a0.len : Int) ∧
 ∃ p2, a1.a = some p2 ∧ (0 : Int) ≤ u0 ∧ u0 < (a1.len : Int) ∧
 ∃ u3, acell ro σ (p1.add (Int.toNat u0 * 2)) = some (.string u3) ∧
 ∃ u4, acell ro σ (p2.add (Int.toNat u0 * 2)) = some (.string u4) ∧
 if ¬ (u3 = u4) then
  j4_law08_sameResults B ro a0 a1 u0 Q Y2 true σ
 else
 ∃ p5, a0.a = some p5 ∧ (0 : Int) ≤ u0 ∧ u0 < (a0.len : Int) ∧
 ∃ p6, a1.a = some p6 ∧ (0 : Int) ≤ u0 ∧ u0 < (a1.len : Int) ∧
 ∃ u7, acell ro σ ((p5.add (Int.toNat u0 * 2)).add 1) = some (.int .i64 u7) ∧
 ∃ u8, acell ro σ ((p6.add (Int.toNat u0 * 2)).add 1) = some (.int .i64 u8) ∧
 j4_law08_sameResults B ro a0 a1 u0 Q Y2 (!(decide (u7 = u8))) σ
 else
 j1_law08_sameResults B ro Q σ
def f_law08_sameResults (B : World) (ro : AH) (a0 : Sl) (a1 : Sl) (σ : AH) (Q : Bool → AH → Prop) : Prop :=
 if ¬ ((a0.len : Int) = (a1.len : Int)) then
 Q false σ
 else
 lfpD (l2_law08_sameResults B ro a0 a1 Q ) (0) σ
theorem law08_sameResults_ok {a0 : Sl} {a1 : Sl} {Q : Bool → AH → Prop} (h : Sep ro σ → f_law08_sameResults B ro a0 a1 σ Q) : c_law08_sameResults B ro a0 a1 σ Q := by
 refine zb h func43 ntmps43 fun h => ?_; unfold f_law08_sameResults at h; refine z3 ?_; refine zp ?_; refine z2 (AW.seq (z3 ?_))
 refine zp ?_; refine zm (V_lenL rfl rfl underlying74 rfl rfl) ?_; refine zp ?_; refine zm (V_lenL rfl rfl underlying92 rfl rfl) ?_; refine zp ?_; refine z2 ?_; refine AW.iff rfl (bnot_iff decide_eq_true_iff) h (fun h => ?_) (fun h => ?_)
 ·refine z3 ?_; refine zp ?_; refine z2 ?_; refine AW.ret ?_; refine thenR ?_; exact bR1 results43 rfl ⟨_, rfl, h⟩
 refine AW.skip ?_; refine thenN ?_; refine AW.seqJ (fun fr σ => FrLe [] fr ∧ j1_law08_sameResults B ro Q σ) ?_ ?_
 ·rintro fr σ ⟨hl, h⟩; refine AW.weaken ?_ hl (HLe.refl _)
  unfold j1_law08_sameResults at h; refine z3 ?_; refine zp ?_; refine z2 ?_; refine AW.ret ?_; exact bR1 results43 rfl ⟨_, rfl, h⟩
 refine z3 ?_; refine zp ?_; refine zm (V_lenL rfl rfl underlying74 rfl rfl) ?_; refine zp ?_; refine z2 (AW.block ?_)
 refine ARound.loop (fr' := [(0, Sl.v a0), (1, Sl.v a1), (12, .int .i64 (a0.len : Int)), (13, .int .i64 0)]) ?_ FL
 refine h (fun u0 σ => ARound _ _ _ _ _ _ [(0, Sl.v a0), (1, Sl.v a1), (12, .int .i64 (a0.len : Int)), (13, .int .i64 u0)] σ) ?_
 rintro u0 σ Y2 hY2 h
 show AW _ _ _ _ _ _ _ _
 unfold l2_law08_sameResults at h; refine z3 ?_; refine zp ?_; refine z2 (AW.seq ?_)
 refine zi h (fun h => ?_) fun h => ?_
 rotate_left
 ·refine AW.exit ?_; refine thenE (thenE ?_); refine blockE ?_
  refine thenN ?_; exact ⟨FL, h⟩
 refine AW.skip ?_; refine thenN (AW.seq (AW.block (z3 ?_))); iterate 2 refine zp ?_
 refine z2 ?_; refine AW.seqJ (fun fr σ => ∃ (u1 : Bool), FrLe [(0, Sl.v a0), (1, Sl.v a1), (12, .int .i64 (a0.len : Int)), (13, .int .i64 u0), (39, .bool u1)] fr ∧ j4_law08_sameResults B ro a0 a1 u0 Q Y2 u1 σ) ?_ ?_
 ·rintro fr σ ⟨u1, hl, h⟩; refine AW.weaken ?_ hl (HLe.refl _)
  unfold j4_law08_sameResults at h; refine zj h (fun h => ?_) fun h => ?_
  ·refine z3 ?_; refine zp ?_; refine z2 ?_; refine AW.ret ?_; refine blockR (thenR (thenR (blockR (thenR ?_)))); exact bR1 results43 rfl ⟨_, rfl, h⟩
  refine AW.skip ?_; refine blockN (thenN (AW.reg ?_)); iterate 2 refine zp ?_
  refine z2 ?_; refine ARound.head (fr' := [(0, Sl.v a0), (1, Sl.v a1), (12, .int .i64 (a0.len : Int)), (13, .int .i64 (i64.wrap (u0 + 1)))]) ?_ FL
  exact hY2 _ _ h
 refine AW.drawn0 (fun i => ([0, 0, 0, 0, 3, 0, 0, 0, 0, 3, 0, 0, 0, 0, 0, 0, 3, 0, 0, 0, 0, 3, 0, 0] : List Nat).getD i 2) [] [0, 1, 2, 3, 5, 6, 7, 8, 4, 9, 10, 11, 12, 13, 14, 15, 17, 18, 19, 20, 16, 21, 22, 23] mixed (by decide +kernel) ?_
 iterate 2 refine zq ?_
 obtain ⟨p2, ha, h0, h1, h⟩ := h
 refine Dp rfl rfl rfl rfl (V_ixA rfl underlying74 ty84 (ixL rfl ha) rfl h0 h1) ?_
 refine zg underlying84 ty9 ?_; iterate 2 refine zq ?_
 obtain ⟨p3, ha, h0, h1, h⟩ := h
 refine Dp rfl rfl rfl rfl (V_ixA rfl underlying92 ty175 (ixL rfl ha) rfl h0 h1) ?_
 refine zg underlying175 ty9 ?_; obtain ⟨u4, hc, h⟩ := h
 refine Dr rfl rfl rfl rfl (R_ld rfl underlying9 rfl rfl hc) ?_
 obtain ⟨u5, hc, h⟩ := h
 refine Dr rfl rfl rfl rfl (R_ld rfl underlying9 rfl rfl hc) ?_
 refine Dp rfl rfl rfl rfl (V_neqS rfl rfl rfl) ?_
 refine zq ?_; refine splitP (!(decide (u4 = u5))) (bnot_iff decide_eq_true_iff) h ?_ ?_
 ·intro h e11
  refine Dpn rfl rfl rfl rfl rfl (.inl (by rw [e11]; rfl)) rfl ?_
  refine Dpn rfl rfl rfl rfl rfl (.inl (by rw [e11]; rfl)) rfl ?_
  refine Dpn rfl rfl rfl rfl rfl (.inl (by rw [e11]; rfl)) rfl ?_
  refine Dpn rfl rfl rfl rfl rfl (.inl (by rw [e11]; rfl)) rfl ?_
  refine Dpn rfl rfl rfl rfl rfl (.inl (by rw [e11]; rfl)) rfl ?_
  refine Dpn rfl rfl rfl rfl rfl (.inl (by rw [e11]; rfl)) rfl ?_
  refine Dpn rfl rfl rfl rfl rfl (.inl (by rw [e11]; rfl)) rfl ?_
  refine Dpn rfl rfl rfl rfl rfl (.inl (by rw [e11]; rfl)) rfl ?_
  refine Drn rfl rfl rfl rfl rfl (.inl (by rw [e11]; rfl)) rfl ?_
  refine Drn rfl rfl rfl rfl rfl (.inl (by rw [e11]; rfl)) rfl ?_
  refine Dpn rfl rfl rfl rfl rfl (.inl (by rw [e11]; rfl)) rfl ?_
  refine Dp rfl rfl rfl rfl (V_pickT rfl (evb e11) rfl) ?_
  refine Dend ?_
  refine thenN ?_; exact ⟨_, FL, h⟩
 intro h e11
 refine Dpy rfl rfl rfl rfl rfl e11 rfl (V_move rfl rfl) ?_
 refine Dpy rfl rfl rfl rfl rfl e11 rfl (V_move rfl rfl) ?_
 obtain ⟨p6, ha, h0, h1, h⟩ := h
 refine Dpy rfl rfl rfl rfl rfl e11 rfl (V_ixA rfl underlying74 ty84 (ixL rfl ha) rfl h0 h1) ?_
 refine Dpy rfl rfl rfl rfl rfl e11 rfl (V_fld rfl underlying84 rfl ty3 (by decide) rfl) ?_
 refine Dpy rfl rfl rfl rfl rfl e11 rfl (V_move rfl rfl) ?_
 refine Dpy rfl rfl rfl rfl rfl e11 rfl (V_move rfl rfl) ?_
 obtain ⟨p7, ha, h0, h1, h⟩ := h
 refine Dpy rfl rfl rfl rfl rfl e11 rfl (V_ixA rfl underlying92 ty175 (ixL rfl ha) rfl h0 h1) ?_
 refine Dpy rfl rfl rfl rfl rfl e11 rfl (V_fld rfl underlying175 rfl ty3 (by decide) rfl) ?_
 obtain ⟨u8, hc, h⟩ := h
 refine Dry rfl rfl rfl rfl rfl e11 rfl (R_ld rfl underlying3 rfl rfl hc) ?_
 obtain ⟨u9, hc, h⟩ := h
 refine Dry rfl rfl rfl rfl rfl e11 rfl (R_ld rfl underlying3 rfl rfl hc) ?_
 refine Dpy rfl rfl rfl rfl rfl e11 rfl (V_neq rfl rfl rfl) ?_
 refine Dp rfl rfl rfl rfl (V_pickF rfl (evb e11) rfl) ?_
 refine Dend ?_
 refine thenN ?_; exact ⟨_, FL, h⟩
def j1_law08_sameEffects (B : World) (ro : AH) (Q : Bool → AH → Prop) (σ : AH) : Prop :=
 Q true σ
def j4_law08_sameEffects (B : World) (ro : AH) (a0 : Sl) (a1 : Sl) (u0 : Int) (Q : Bool → AH → Prop) (Y2 : (Int) → AH → Prop) (u1 : Bool) (σ : AH) : Prop :=
 if u1 = true then
 Q false σ
 else
 Y2 (i64.wrap (u0 + 1)) σ
def l2_law08_sameEffects (B : World) (ro : AH) (a0 : Sl) (a1 : Sl) (Q : Bool → AH → Prop) : (Int) → AH → ((Int) → AH → Prop) → Prop := fun u0 σ Y2 =>
 if u0 < (a0.len : Int) then
 ∃ p1, a0.a = some p1 ∧ (0 : Int) ≤ u0 ∧ u0 < (a0.len : Int) ∧
 ∃ p2, a1.a = some p2 ∧ (0 : Int) ≤ u0 ∧ u0 < (a1.len : Int) ∧
 ∃ u3, acell ro σ (p1.add (Int.toNat u0 * 2)) = some (.int .i64 u3) ∧
 ∃ u4, acell ro σ (p2.add (Int.toNat u0 * 2)) = some (.int .i64 u4) ∧
 if ¬ (u3 = u4) then
  j4_law08_sameEffects B ro a0 a1 u0 Q Y2 true σ
 else
 ∃ p5, a0.a = some p5 ∧ (0 : Int) ≤ u0 ∧ u0 < (a0.len : Int) ∧
 ∃ p6, a1.a = some p6 ∧ (0 : Int) ≤ u0 ∧ u0 < (a1.len : Int) ∧
 ∃ u7, acell ro σ ((p5.add (Int.toNat u0 * 2)).add 1) = some (.string u7) ∧
 ∃ u8, acell ro σ ((p6.add (Int.toNat u0 * 2)).add 1) = some (.string u8) ∧
 j4_law08_sameEffects B ro a0 a1 u0 Q Y2 (!(decide (u7 = u8))) σ
 else
 j1_law08_sameEffects B ro Q σ
def f_law08_sameEffects (B : World) (ro : AH) (a0 : Sl) (a1 : Sl) (σ : AH) (Q : Bool → AH → Prop) : Prop :=
 if ¬ ((a0.len : Int) = (a1.len : Int)) then
 Q false σ
 else
 lfpD (l2_law08_sameEffects B ro a0 a1 Q ) (0) σ
theorem law08_sameEffects_ok {a0 : Sl} {a1 : Sl} {Q : Bool → AH → Prop} (h : Sep ro σ → f_law08_sameEffects B ro a0 a1 σ Q) : c_law08_sameEffects B ro a0 a1 σ Q := by
 refine zb h func44 ntmps44 fun h => ?_; unfold f_law08_sameEffects at h; refine z3 ?_; refine zp ?_; refine z2 (AW.seq (z3 ?_))
 refine zp ?_; refine zm (V_lenL rfl rfl underlying75 rfl rfl) ?_; refine zp ?_; refine zm (V_lenL rfl rfl underlying93 rfl rfl) ?_; refine zp ?_; refine z2 ?_; refine AW.iff rfl (bnot_iff decide_eq_true_iff) h (fun h => ?_) (fun h => ?_)
 ·refine z3 ?_; refine zp ?_; refine z2 ?_; refine AW.ret ?_; refine thenR ?_; exact bR1 results44 rfl ⟨_, rfl, h⟩
 refine AW.skip ?_; refine thenN ?_; refine AW.seqJ (fun fr σ => FrLe [] fr ∧ j1_law08_sameEffects B ro Q σ) ?_ ?_
 ·rintro fr σ ⟨hl, h⟩; refine AW.weaken ?_ hl (HLe.refl _)
  unfold j1_law08_sameEffects at h; refine z3 ?_; refine zp ?_; refine z2 ?_; refine AW.ret ?_; exact bR1 results44 rfl ⟨_, rfl, h⟩
 refine z3 ?_; refine zp ?_; refine zm (V_lenL rfl rfl underlying75 rfl rfl) ?_; refine zp ?_; refine z2 (AW.block ?_)
 refine ARound.loop (fr' := [(0, Sl.v a0), (1, Sl.v a1), (12, .int .i64 (a0.len : Int)), (13, .int .i64 0)]) ?_ FL
 refine h (fun u0 σ => ARound _ _ _ _ _ _ [(0, Sl.v a0), (1, Sl.v a1), (12, .int .i64 (a0.len : Int)), (13, .int .i64 u0)] σ) ?_
 rintro u0 σ Y2 hY2 h
 show AW _ _ _ _ _ _ _ _
 unfold l2_law08_sameEffects at h; refine z3 ?_; refine zp ?_; refine z2 (AW.seq ?_)
 refine zi h (fun h => ?_) fun h => ?_
 rotate_left
 ·refine AW.exit ?_; refine thenE (thenE ?_); refine blockE ?_
  refine thenN ?_; exact ⟨FL, h⟩
 refine AW.skip ?_; refine thenN (AW.seq (AW.block (z3 ?_))); iterate 2 refine zp ?_
 refine z2 ?_; refine AW.seqJ (fun fr σ => ∃ (u1 : Bool), FrLe [(0, Sl.v a0), (1, Sl.v a1), (12, .int .i64 (a0.len : Int)), (13, .int .i64 u0), (39, .bool u1)] fr ∧ j4_law08_sameEffects B ro a0 a1 u0 Q Y2 u1 σ) ?_ ?_
 ·rintro fr σ ⟨u1, hl, h⟩; refine AW.weaken ?_ hl (HLe.refl _)
  unfold j4_law08_sameEffects at h; refine zj h (fun h => ?_) fun h => ?_
  ·refine z3 ?_; refine zp ?_; refine z2 ?_; refine AW.ret ?_; refine blockR (thenR (thenR (blockR (thenR ?_)))); exact bR1 results44 rfl ⟨_, rfl, h⟩
  refine AW.skip ?_; refine blockN (thenN (AW.reg ?_)); iterate 2 refine zp ?_
  refine z2 ?_; refine ARound.head (fr' := [(0, Sl.v a0), (1, Sl.v a1), (12, .int .i64 (a0.len : Int)), (13, .int .i64 (i64.wrap (u0 + 1)))]) ?_ FL
  exact hY2 _ _ h
 refine AW.drawn0 (fun i => ([0, 0, 0, 0, 3, 0, 0, 0, 0, 3, 0, 0, 0, 0, 0, 0, 3, 0, 0, 0, 0, 3, 0, 0] : List Nat).getD i 2) [] [0, 1, 2, 3, 5, 6, 7, 8, 4, 9, 10, 11, 12, 13, 14, 15, 17, 18, 19, 20, 16, 21, 22, 23] mixed (by decide +kernel) ?_
 iterate 2 refine zq ?_
 obtain ⟨p2, ha, h0, h1, h⟩ := h
 refine Dp rfl rfl rfl rfl (V_ixA rfl underlying75 ty108 (ixL rfl ha) rfl h0 h1) ?_
 refine zg underlying108 ty3 ?_; iterate 2 refine zq ?_
 obtain ⟨p3, ha, h0, h1, h⟩ := h
 refine Dp rfl rfl rfl rfl (V_ixA rfl underlying93 ty180 (ixL rfl ha) rfl h0 h1) ?_
 refine zg underlying180 ty3 ?_; obtain ⟨u4, hc, h⟩ := h
 refine Dr rfl rfl rfl rfl (R_ld rfl underlying3 rfl rfl hc) ?_
 obtain ⟨u5, hc, h⟩ := h
 refine Dr rfl rfl rfl rfl (R_ld rfl underlying3 rfl rfl hc) ?_
 iterate 2 refine zq ?_
 refine splitP (!(decide (u4 = u5))) (bnot_iff decide_eq_true_iff) h ?_ ?_
 ·intro h e11
  refine Dpn rfl rfl rfl rfl rfl (.inl (by rw [e11]; rfl)) rfl ?_
  refine Dpn rfl rfl rfl rfl rfl (.inl (by rw [e11]; rfl)) rfl ?_
  refine Dpn rfl rfl rfl rfl rfl (.inl (by rw [e11]; rfl)) rfl ?_
  refine Dpn rfl rfl rfl rfl rfl (.inl (by rw [e11]; rfl)) rfl ?_
  refine Dpn rfl rfl rfl rfl rfl (.inl (by rw [e11]; rfl)) rfl ?_
  refine Dpn rfl rfl rfl rfl rfl (.inl (by rw [e11]; rfl)) rfl ?_
  refine Dpn rfl rfl rfl rfl rfl (.inl (by rw [e11]; rfl)) rfl ?_
  refine Dpn rfl rfl rfl rfl rfl (.inl (by rw [e11]; rfl)) rfl ?_
  refine Drn rfl rfl rfl rfl rfl (.inl (by rw [e11]; rfl)) rfl ?_
  refine Drn rfl rfl rfl rfl rfl (.inl (by rw [e11]; rfl)) rfl ?_
  refine Dpn rfl rfl rfl rfl rfl (.inl (by rw [e11]; rfl)) rfl ?_
  refine Dp rfl rfl rfl rfl (V_pickT rfl (evb e11) rfl) ?_
  refine Dend ?_
  refine thenN ?_; exact ⟨_, FL, h⟩
 intro h e11
 refine Dpy rfl rfl rfl rfl rfl e11 rfl (V_move rfl rfl) ?_
 refine Dpy rfl rfl rfl rfl rfl e11 rfl (V_move rfl rfl) ?_
 obtain ⟨p6, ha, h0, h1, h⟩ := h
 refine Dpy rfl rfl rfl rfl rfl e11 rfl (V_ixA rfl underlying75 ty108 (ixL rfl ha) rfl h0 h1) ?_
 refine Dpy rfl rfl rfl rfl rfl e11 rfl (V_fld rfl underlying108 rfl ty9 (by decide) rfl) ?_
 refine Dpy rfl rfl rfl rfl rfl e11 rfl (V_move rfl rfl) ?_
 refine Dpy rfl rfl rfl rfl rfl e11 rfl (V_move rfl rfl) ?_
 obtain ⟨p7, ha, h0, h1, h⟩ := h
 refine Dpy rfl rfl rfl rfl rfl e11 rfl (V_ixA rfl underlying93 ty180 (ixL rfl ha) rfl h0 h1) ?_
 refine Dpy rfl rfl rfl rfl rfl e11 rfl (V_fld rfl underlying180 rfl ty9 (by decide) rfl) ?_
 obtain ⟨u8, hc, h⟩ := h
 refine Dry rfl rfl rfl rfl rfl e11 rfl (R_ld rfl underlying9 rfl rfl hc) ?_
 obtain ⟨u9, hc, h⟩ := h
 refine Dry rfl rfl rfl rfl rfl e11 rfl (R_ld rfl underlying9 rfl rfl hc) ?_
 refine Dpy rfl rfl rfl rfl rfl e11 rfl (V_neqS rfl rfl rfl) ?_
 refine Dp rfl rfl rfl rfl (V_pickF rfl (evb e11) rfl) ?_
 refine Dend ?_
 refine thenN ?_; exact ⟨_, FL, h⟩
def f_law08_op (B : World) (ro : AH) (a0_0 : Int) (a0_1 : ByteArray) (a0_2 : Sl) (a0_3 : Int) (a0_4 : Bool) (a0_5 : Bool) (σ : AH) (Q : Int → ByteArray → Sl → Int → Bool → Bool → AH → Prop) : Prop :=
 nw ro σ (.cells #[.int .i64 a0_0, .string a0_1, Sl.v a0_2, .int .i64 a0_3, .bool a0_4, .bool a0_5] 82) fun u0 σ =>
 nw ro σ (.cells #[.int .i64 0, .string ByteArray.empty, Sl.v (⟨none, 0, 0⟩ : Sl), .int .i64 0, .bool false, .bool false] 179) fun u1 σ =>
 ∃ u2, acell ro σ ⟨u0, 0, none⟩ = some (.int .i64 u2) ∧
 ∃ u3, acell ro σ ((⟨u0, 0, none⟩ : Addr).add 1) = some (.string u3) ∧
 ∃ u4, acell ro σ ((⟨u0, 0, none⟩ : Addr).add 2) = some (Sl.v u4) ∧
 ∃ u5, acell ro σ ((⟨u0, 0, none⟩ : Addr).add 3) = some (.int .i64 u5) ∧
 ∃ u6, acell ro σ ((⟨u0, 0, none⟩ : Addr).add 4) = some (.bool u6) ∧
 ∃ u7, acell ro σ ((⟨u0, 0, none⟩ : Addr).add 5) = some (.bool u7) ∧
 stN ⟨u1, 0, none⟩ (fun σ =>
 ∃ u8 u9 u10 u11 u12 u13, cellsAt ro σ ⟨u1, 0, none⟩ 0 [.int .i64 u8, .string u9, Sl.v u10, .int .i64 u11, .bool u12, .bool u13] ∧
 Q u8 u9 u10 u11 u12 u13 σ) [.int .i64 u2, .string u3, Sl.v u4, .int .i64 u5, .bool u6, .bool u7] 0 σ
theorem law08_op_ok {a0_0 : Int} {a0_1 : ByteArray} {a0_2 : Sl} {a0_3 : Int} {a0_4 : Bool} {a0_5 : Bool} {Q : Int → ByteArray → Sl → Int → Bool → Bool → AH → Prop} (h : Sep ro σ → f_law08_op B ro a0_0 a0_1 a0_2 a0_3 a0_4 a0_5 σ Q) : c_law08_op B ro a0_0 a0_1 a0_2 a0_3 a0_4 a0_5 σ Q := by
 refine zb h func100 ntmps100 fun h => ?_; unfold f_law08_op at h; refine z3 ?_; refine zA (A_box rfl rfl) h fun u0 h => ?_; refine zA (A_alloc rfl ty179) h fun u1 h => ?_; refine z4 ?_; refine zf underlying82 ty3 ?_; refine zL underlying3 h fun u2 h => ?_; refine zf underlying82 ty9 ?_; refine zL underlying9 h fun u3 h => ?_; refine zf underlying82 ty30 ?_; refine zL underlying30 h fun u4 h => ?_
 refine zf underlying82 ty3 ?_; refine zL underlying3 h fun u5 h => ?_; refine zf underlying82 ty4 ?_; refine zL underlying4 h fun u6 h => ?_; refine zf underlying82 ty4 ?_; refine zL underlying4 h fun u7 h => ?_; refine zm (V_bld (vs := [(0, .int .i64 u2), (1, .string u3), (2, Sl.v u4), (3, .int .i64 u5), (4, .bool u6), (5, .bool u7)]) (cs := #[.int .i64 u2, .string u3, Sl.v u4, .int .i64 u5, .bool u6, .bool u7]) rfl underlying179 ty179 pl179 rfl rfl) ?_
 refine zs ty179 h fun σ h => ?_; refine z2 ?_; refine AW.ret ?_; obtain ⟨u8, u9, u10, u11, u12, u13, hc0, h⟩ := h
 exact bRM1 results100 (rCons (rAgg rfl underlying179 rfl ty179 hc0) rNil) ⟨_, _, _, _, _, _, rfl, h⟩
end G
namespace Zt
open Go SL G Pa
variable {B : World} {ro σ σ' : AH} {tag tag' : Nat → Nat}
def startE (hs : List Str) : St := hs.foldl (fun st h => (create st (47 :: h) [] 0 false).1) St.new
theorem invB_start : ∀ (hs : List Str), hs.length ≤ 1073741824 → InvB hs.length (startE hs) := by
 intro hs hl
 have key : ∀ (l : List Str) (b : Nat) (st : St), InvB b st → b + l.length ≤ 1073741824 → InvB (b + l.length) (l.foldl (fun st h => (create st (47 :: h) [] 0 false).1) st) := by
  intro l
  induction l with
  | nil => intro b st h _; exact h
  | cons x l ih =>
   intro b st h hb
   simp only [List.length_cons] at hb ⊢
   have h1 := ih (b + 1) _ (invB_create (p := 47 :: x) (d := []) (o := 0) (seq := false) h (by omega)) (by omega)
   rw [List.foldl_cons, show b + (l.length + 1) = b + 1 + l.length by omega]
   exact h1
 have := key hs 0 St.new invB_new (by omega)
 rw [Nat.zero_add] at this; exact this
theorem start_ok {a0 : Sl} {hs : List Str} {Q : Option Addr → AH → Prop} (r : Nat) (g : Glob ro) (hr : r < 64) (hr6 : r ≠ 6) (hr0 : r ≠ 0) (hrd : ∀ tag' σ', StepC r ro tag σ tag' σ' → SL.Read ro σ' a0 (hs.map Pa.vS)) (hl : hs.length ≤ 1073741824) (hhl : ∀ h ∈ hs, h.length ≤ 4611686018427387903)
  (hQ : ∀ T tag' σ', StepC r ro tag σ tag' σ' → TreeIs tag' σ' r T (startE hs) → InvB hs.length (startE hs) → Q (some ⟨T, 0, none⟩) σ') : c_law08_start B ro a0 σ Q := by
 refine law08_start_ok fun hsep => ?_
 unfold f_law08_start
 refine new_ok (tag := tag) r hr hr6 fun T tag1 σ1 st1 h1 => ?_
 rw [if_neg (by simp)]
 have hln : a0.len = hs.length := by rw [(hrd tag1 σ1 st1).1, List.length_map]
 suffices ∀ m j tag2 σ2, j + m = hs.length → StepC r ro tag σ tag2 σ2 → TreeIs tag2 σ2 r T (startE (hs.take j)) → lfpD (l3_law08_start B ro a0 (some ⟨T, 0, none⟩) Q) (j : Int) σ2 from
  this _ 0 tag1 σ1 (Nat.zero_add _) st1 h1
 intro m
 induction m with
 | zero =>
  intro j tag2 σ2 hj st2 h2
  refine lfpD.intro ?_
  unfold l3_law08_start
  rw [if_neg (by omega)]
  unfold j2_law08_start
  rw [List.take_of_length_le (by omega)] at h2
  exact hQ T tag2 σ2 st2 h2 (invB_start hs hl)
 | succ m ih =>
  intro j tag2 σ2 hj st2 h2
  have hjl : j < hs.length := by omega
  have rd := hrd tag2 σ2 st2
  obtain ⟨p, hp⟩ : ∃ p, a0.a = some p := by
   cases e : a0.a with
   | none => have := rd.2.1 e; simp at this; rw [this] at hjl; simp at hjl
   | some p => exact ⟨p, rfl⟩
  have hcell := rd.2.2 p hp j (Pa.vS hs[j]) (by rw [List.getElem?_map, List.getElem?_eq_getElem hjl]; rfl)
  have hxl := hhl _ (List.getElem_mem hjl)
  refine lfpD.intro ?_
  unfold l3_law08_start
  rw [if_pos (by omega)]
  refine ⟨p, hp, by omega, by omega, S hs[j], by rw [Int.toNat_natCast, Nat.mul_one]; exact hcell, ?_⟩
  refine ⟨by rw [show (⟨#[47]⟩ : ByteArray).size = 1 from rfl, show (S hs[j]).size = hs[j].length from by rw [← L_len, L_S]]; omega, ?_⟩
  have hcat : (⟨#[47]⟩ : ByteArray) ++ S hs[j] = S (47 :: hs[j]) := by
   rw [show (⟨#[47]⟩ : ByteArray) = S [47] from rfl, S_append]; rfl
  rw [hcat]
  refine create_ok (d := []) g hr hr6 hr0 h2 ⟨rfl, fun _ => rfl, fun p h => by cases h⟩ (by decide) fun tag3 σ3 st3 h3 => ?_
  rw [L_S] at h3
  rw [Pa.inc j (by omega)]
  refine ih (j + 1) tag3 σ3 (by omega) (st2.trans st3) ?_
  have e : startE (hs.take (j + 1)) = (create (startE (hs.take j)) (47 :: hs[j]) [] 0 false).1 := by
   unfold startE
   rw [List.take_add_one, List.getElem?_eq_getElem hjl, List.foldl_append]; rfl
  rw [e]; exact h3
def OpsR (ro : AH) (s : Sl) (ops : List MOp) : Prop := s.len = ops.length ∧ ∀ j o, ops[j]? = some o → ∃ q ds, s.a = some q ∧ (∀ σ, SL.cellsAt ro σ (q.add (j * 6)) 0 (opV o ds)) ∧ SL.Read ro (fun _ => none) ds (o.data.map vU) ∧ o.data.length ≤ 140737488351232
theorem OpsR.data {s : Sl} {ops : List MOp} (h : OpsR ro s ops) : ∀ o ∈ ops, o.data.length < 4611686018427387904 := fun o ho => by
 obtain ⟨j, hj, rfl⟩ := List.getElem_of_mem ho
 obtain ⟨_, _, _, _, _, h5⟩ := h.2 j _ (List.getElem?_eq_getElem hj)
 omega
def OpsM (ro σ : AH) (s : Sl) (ops : List MOp) : Prop := s.len = ops.length ∧ ∀ j o, ops[j]? = some o → ∃ q ds, s.a = some q ∧ SL.cellsAt ro σ (q.add (j * 6)) 0 (opV o ds) ∧ SL.Read ro (fun _ => none) ds (o.data.map vU) ∧ o.data.length ≤ 140737488351232
theorem OpsR.m {s : Sl} {ops : List MOp} (h : OpsR ro s ops) (σ : AH) : OpsM ro σ s ops := ⟨h.1, fun j o ho => by
 obtain ⟨q, ds, h1, h2, h3, h4⟩ := h.2 j o ho
 exact ⟨q, ds, h1, h2 σ, h3, h4⟩⟩
theorem fresh_roleN {tag1 : Nat → Nat} {σ1 : AH} (st : ∀ R, Step R ro (fun _ => 7) σ tag1 σ1) (tag : Nat → Nat) (q : Nat) :
  ∃ tag', (∀ R, Step R ro tag σ tag' σ1) ∧ ∀ e s l, Row tag1 σ1 6 e s l → Row tag' σ1 q e s l := by
 refine ⟨fun c => if (σ c).isSome then tag c else q, fun R => ⟨fun b o hb _ => ⟨by simp [hb], ((st []).keep b o hb (by simp)).2⟩, fun b o hb => ⟨by simp [hb], o, ((st []).keep b o hb (by simp)).2⟩, (st []).sep⟩, fun e s l h => ?_⟩
 rcases h with h | ⟨b, cs, ha, ht, hb, hx'⟩
 ·exact .inl h
 ·refine .inr ⟨b, cs, ha, ?_, hb, hx'⟩
  cases e : σ b with
  | none => simp [e]
  | some o =>
   have := ((st []).old b o e).1
   rw [ht] at this; cases this
theorem copyQ_ok (q : Nat) {s : Sl} {l : List Value} {Q : Sl → AH → Prop} (h : SL.Read ro σ s l) (hs : SL.Sep ro σ) (hl : l.length ≤ 140737488355328) (hv : ∀ v ∈ l, storable v = true) (hQ : ∀ s' tag' σ', (∀ R, Step R ro tag σ tag' σ') → Row tag' σ' q 5 s' l → Q s' σ') : c_ref01_Copy B ro s σ Q :=
 copy_ok (tag := fun _ => 7) h hs hl hv fun s' tag1 σ1 st r => by
  obtain ⟨tg, k1, k2⟩ := fresh_roleN st tag q
  exact hQ s' tg σ1 k1 (k2 _ _ _ r)
theorem copiedD_in (dr : Nat → Nat) (hdr : ∀ i, dr i % 64 ∉ [0, 24, 28]) {a0 : Sl} {ops : List MOp} {Q : Sl → AH → Prop} (hO : ∀ tag' σ', StepS [0, 24, 28] ro tag σ tag' σ' → OpsM ro σ' a0 ops) (hl : ops.length ≤ 2199023255488) (hQ : ∀ s tag' σ', StepS [0, 24, 28] ro tag σ tag' σ' → OpsAtD dr tag' σ' 24 s ops → Q s σ') : c_law08_copied B ro a0 σ Q := by
 refine law08_copied_ok fun hsep => ?_
 unfold f_law08_copied
 have hln := (hO tag σ (StepS.refl hsep)).1
 suffices ∀ m j s tag2 σ2, j + m = ops.length → StepS [0, 24, 28] ro tag σ tag2 σ2 → OpsAtD dr tag2 σ2 24 s (ops.take j) → lfpD (l3_law08_copied B ro a0 Q) (s, (j : Int)) σ2 from
  this _ 0 ⟨none, 0, 0⟩ tag σ (Nat.zero_add _) (StepS.refl hsep) ⟨[], rfl, RowW.nil _ _ _, fun i o d h => by cases h⟩
 intro m
 induction m with
 | zero =>
  intro j s tag2 σ2 hj st2 h2
  refine lfpD.intro ?_
  unfold l3_law08_copied
  simp only
  rw [if_neg (by omega)]
  unfold j1_law08_copied
  rw [List.take_of_length_le (by omega)] at h2
  exact hQ s tag2 σ2 st2 h2
 | succ m ih =>
  intro j s tag2 σ2 hj st2 h2
  have hjl : j < ops.length := by omega
  obtain ⟨q, ds, hq, hc, hrd, hdl⟩ := (hO tag2 σ2 st2).2 j ops[j] (List.getElem?_eq_getElem hjl)
  refine lfpD.intro ?_
  unfold l3_law08_copied
  simp only
  rw [if_pos (by omega)]
  refine ⟨q, hq, by omega, by omega, ops[j].kind, S ops[j].path, ds, ops[j].ver, ops[j].eph, ops[j].seq, by rw [Int.toNat_natCast]; exact hc, ?_⟩
  refine nw_st (tag := tag2) 28 st2.sep rfl (by simp [storable, Sl.v]) fun x tag3 σ3 st3 r3 => ?_
  obtain ⟨p3, hp3, hg3⟩ := r3.ptr (st3 []).sep (by simp)
  cases hp3
  refine ⟨ds, hg3 2 _ rfl, ?_⟩
  refine copyQ_ok (tag := tag3) (dr j) (hrd.keep) (st3 []).sep (by simp; omega) (by simp [storable]) fun s' tag4 σ4 st4 r4 => ?_
  refine (r3.keep (st4 [])).st (i := 2) (st4 []).sep rfl (by simp) rfl fun σ5 st5 r5 => ?_
  refine ⟨ops[j].kind, S ops[j].path, s', ops[j].ver, ops[j].eph, ops[j].seq, Row.cellsAt r5 st5.sep, ?_⟩
  refine nw_cells (tag := tag4) 0 st5.sep fun y tag6 σ6 st6 r6 => ?_
  have st26 : StepS [0, 24, 28] ro tag2 σ2 tag6 σ6 := ((st3 []).s (by simp)).trans (((st4 []).s (by simp)).trans ((st5.s (by simp)).trans ((st6 []).s (by simp))))
  have k26 : StepS [28] ro tag2 σ2 tag6 σ6 := ((st3 []).s (by simp)).trans (((st4 []).s (by simp)).trans ((st5.s (by simp)).trans ((st6 []).s (by simp))))
  have hdS : ∀ (C : List Nat), (∀ c ∈ C, c ∈ [0, 24, 28]) → ∀ i, dr i % 64 ∉ C := fun C hC i hm => hdr i (hC _ hm)
  have hdN : ∀ (x : Nat), x ∈ [0, 24, 28] → ∀ i, dr i ∉ [x] := fun x hx i hm => hdr i (by rw [List.mem_singleton.1 hm]; exact (show ∀ x ∈ [0, 24, 28], x % 64 ∈ [0, 24, 28] from by decide) x hx)
  obtain ⟨dd, d1, d2, d3⟩ := h2.keepS k26 (by decide) (hdS _ (by decide))
  have hlz : (List.zipWith opV (ops.take j) dd).length = j := by rw [List.length_zipWith, d1, Nat.min_self, List.length_take]; omega
  refine awp_appendW (l2 := [opV ops[j] s']) d2 (st6 []).sep (Row.readW1 r6 (st6 []).sep rfl (by decide)) (t := 70) (by kernel_rfl) ty82 rfl (by simp [opV, storable, Sl.v]) (by rw [hlz]; simp; omega) (by decide) fun sn tag7 σ7 st7 r7 => ?_
  have st7' := st7 [24] (.inr (by simp))
  refine ⟨sn, rfl, ?_⟩
  rw [Pa.inc j (by omega)]
  refine ih (j + 1) sn tag7 σ7 (by omega) (st2.trans (st26.trans (st7'.s (by simp)))) ?_
  have etk : ops.take (j + 1) = ops.take j ++ [ops[j]] := by rw [List.take_add_one, List.getElem?_eq_getElem hjl]; rfl
  rw [etk]
  refine ⟨dd ++ [s'], by rw [List.length_append, List.length_append, d1]; rfl, ?_, fun i o d ho hd => ?_⟩
  ·rw [List.zipWith_append d1.symm]; exact r7
  ·rcases Nat.lt_or_ge i (ops.take j).length with h | h
   ·rw [List.getElem?_append_left h] at ho
    rw [List.getElem?_append_left (by omega)] at hd
    exact (d3 i o d ho hd).keep st7' (hdN 24 (by decide) i)
   ·rw [List.getElem?_append_right h] at ho
    rw [List.getElem?_append_right (by omega), d1] at hd
    cases hz : i - (ops.take j).length with
    | zero =>
     rw [hz] at ho hd
     cases ho; cases hd
     have hij : i = j := by rw [List.length_take, Nat.min_eq_left (by omega)] at hz h; omega
     subst hij
     exact ((r4.keep st5 (hdN 28 (by decide) _)).keep (st6 [])).keep st7' (hdN 24 (by decide) _)
    | succ k => rw [hz] at ho; cases ho
def awakeSt : St := [([47], ⟨0, 1, 0, 1, []⟩), ([47, 97], ⟨0, 0, 0, 0, []⟩)]
theorem awake_start : startE [[97]] = awakeSt := by rfl
theorem awake_srt : srt awakeSt = awakeSt := by
 refine (srt_of ?_ (List.Perm.refl _)).symm
 unfold Srt awakeSt
 simp [List.pairwise_cons]
def awakeOp : MOp := ⟨1, [47, 97, 47, 120], [], 0, false, false⟩
theorem awake_apply : (applyE (startE [[97]]) [97] 5 9 99 [awakeOp]).err = 0 ∧ (applyE (startE [[97]]) [97] 5 9 99 [awakeOp]).bad = -1 ∧ (applyE (startE [[97]]) [97] 5 9 99 [awakeOp]).res = [([47, 97, 47, 120], 0)] ∧ (applyE (startE [[97]]) [97] 5 9 99 [awakeOp]).st.length = 3 := by
 rw [awake_start]
 unfold applyE
 rw [if_neg (by decide), if_neg (by decide), awake_srt]
 refine ⟨by decide, by decide, by decide, by decide⟩
theorem awake8_ok {Q : Bool → AH → Prop} (g : Glob ro) (hQ : ∀ σ, SL.Sep ro σ → Q true σ) : c_law08_awake B ro σ Q := by
 refine law08_awake_ok fun hs => ?_
 unfold f_law08_awake
 refine nw_cells (tag := fun _ => 0) 22 hs fun x4 tag1 σ1 st1 r1 => ?_
 have e97 : (⟨#[97]⟩ : ByteArray) = S [97] := rfl
 refine start_ok (tag := tag1) (hs := [[97]]) 10 g (by decide) (by decide) (by decide) (fun tag2 σ2 st2 => (r1.keepC st2).read st2.sep) (by decide) (by simp) fun T tag2 σ2 st2 h2 hi => ?_
 rw [if_neg (by simp)]
 refine nw_cells (tag := tag2) 24 st2.sep fun x12 tag3 σ3 st3 r3 => ?_
 have hops : OpsAt tag3 σ3 24 ⟨some ⟨x12, 0, none⟩, 1, 1⟩ [awakeOp] := by
  refine ⟨[⟨none, 0, 0⟩], rfl, ?_, fun i o d ho hd => ?_⟩
  ·rcases r3 with ⟨h, _⟩ | ⟨b, cs, ha, htg, hbk, hln, hcp, hle, hg⟩
   ·cases h
   ·cases ha
    refine .inr ⟨x12, cs, rfl, htg, hbk, rfl, by simpa using hcp.symm, by simp, by simp [opV], fun i v hv => ?_⟩
    have hv' : [vI 1, Pa.vS [47, 97, 47, 120], Sl.v ⟨none, 0, 0⟩, vI 0, Value.bool false, Value.bool false][i]? = some v := by simpa [opV, awakeOp] using hv
    have hi6 : i < 6 := by
     rcases Nat.lt_or_ge i 6 with h | h
     ·exact h
     ·rw [List.getElem?_eq_none (by simpa using h)] at hv'; cases hv'
    rw [hg i (by simpa using hi6)]; exact hv'
  ·rcases i with _ | i
   ·cases ho; cases hd; exact Row.nil _ _
   ·cases ho
 have hap := awake_apply
 rw [e97]
 refine apply_ok (b := 1) (q := 24) g (by decide) (by decide) (by decide) (by decide) (by decide) (by decide) (h2.keep (st3 [])) hi (by decide) hops (fun o ho => by rw [List.mem_singleton.1 ho]; decide) (by decide) fun rs es tag4 σ4 st4 h4 r4 _ => ?_
 obtain ⟨a1, a2, a3, a4⟩ := hap
 rw [a3] at r4
 refine nw_st (tag := tag4) 22 st4.sep rfl (by simp [storable, Sl.v]) fun x2 tag5 σ5 st5 r5 => ?_
 have r45 := r4.keep (st5 [])
 obtain ⟨p5, hp5, hg5⟩ := r5.ptr (st5 []).sep (by simp)
 cases hp5
 rw [a1, if_pos rfl]
 refine ⟨_, hg5 2 _ rfl, ?_⟩
 rw [a2, show decide ((-1 : Int) = -1) = true from rfl]
 unfold j7_law08_awake
 rw [if_pos rfl]
 refine ⟨rs, hg5 0 _ rfl, ?_⟩
 rw [show decide ((rs.len : Int) = 1) = true from by rw [r45.len]; rfl]
 unfold j9_law08_awake
 rw [if_pos rfl]
 obtain ⟨b, hb, _, hget⟩ := r45.get (st5 []).sep (j := 0) rfl
 refine ⟨rs, hg5 0 _ rfl, _, hb, by decide, by rw [r45.len]; decide, S [47, 97, 47, 120], hget 0 _ rfl, ?_⟩
 rw [show decide (S [47, 97, 47, 120] = (⟨#[47, 97, 47, 120]⟩ : ByteArray)) = true from by decide]
 unfold j11_law08_awake
 rw [if_pos rfl]
 obtain ⟨M, bs, hA⟩ := h4.keep (st5 [])
 refine size_ok hA ?_
 unfold j13_law08_awake
 rw [a4]
 exact hQ σ5 (st5 []).sep
end Zt
end Go.Proofs.YthfpmipeejjogaaGreatDoor
