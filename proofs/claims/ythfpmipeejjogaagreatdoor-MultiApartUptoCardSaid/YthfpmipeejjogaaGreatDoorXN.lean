/- MuAp, ZtR, MuR, MuQ -/
import Derived.Test.YthfpmipeejjogaaGreatDoorXM
/- Transactions of two homes in either order, the walk. -/
namespace Go.Proofs.YthfpmipeejjogaaGreatDoor.Zt
open Go Go.Proofs.YthfpmipeejjogaaGreatDoor.SL Go.Proofs.YthfpmipeejjogaaGreatDoor.G Go.Proofs.YthfpmipeejjogaaGreatDoor.Pa
set_option linter.unusedSimpArgs false
set_option linter.unusedVariables false
variable {B : World} {ro σ σ' : AH} {tag tag' : Nat → Nat}

theorem txn_a {r T b X : Nat} {st : St} {t : Txn} {os : Sl} {K : Sl → Sl → Int → Int → AH → AH → Prop} (g : Glob ro) (hs : SL.Sep ro σ) (hr : r < 64) (hrD : r ∉ DA) (hr6 : r ≠ 6) (hr63 : r ≠ 63) (hrX : r ∉ [0, 24, 28, 29]) (hT : TreeIs tag σ r T st) (hi : InvB b st) (hb : b ≤ 1073741824)
    (hX : Row tag σ 29 72 ⟨some ⟨X, 0, none⟩, 6, 6⟩ (txV t os)) (hO : OpsR ro os t.ops) (hol : t.ops.length ≤ 2199023255488) (hhl : t.home.length ≤ 4611686018427387903)
    (hK : ∀ rs es σ1, (Disj (SL.one σ X) σ1 → ∃ tag2, StepS (0 :: 24 :: 28 :: r :: DA) ro tag σ tag2 (join (SL.one σ X) σ1) ∧ TreeIs tag2 (join (SL.one σ X) σ1) r T (txE st t).st) → K rs es (txE st t).bad (txE st t).err (SL.one σ X) σ1) :
    lent σ fun ψ σ => ∃ x1 : ByteArray, acell (join ro ψ) (fun _ => none) ⟨X, 0, none⟩ = some (.string x1) ∧
      ∃ x2 : Int, acell (join ro ψ) (fun _ => none) ((⟨X, 0, none⟩ : Addr).add 1) = some (.int .i64 x2) ∧
      ∃ (x3 x4 : Int), cellsAt (join ro ψ) (fun _ => none) ((⟨X, 0, none⟩ : Addr).add 2) 0 [.int .i64 x3, .int .i64 x4] ∧
      ∃ x5 : Sl, acell (join ro ψ) σ ((⟨X, 0, none⟩ : Addr).add 4) = some (Sl.v x5) ∧
      c_law08_copied B (join ro ψ) x5 σ fun x6 σ =>
      c_multi_Apply B (join ro ψ) (some ⟨T, 0, none⟩) x1 x2 x3 x4 x6 σ fun rs es bad err σ => K rs es bad err ψ σ := by
  refine txn_in (b := b) (t := t) g hs hr hrD hr6 hr63 hrX hT hi hb hX hO hol hhl fun rs es tag1 σ1 st1 h1 r14 r15 => ?_
  refine hK rs es σ1 fun hdis => ?_
  obtain ⟨tX, o1, hX'⟩ := hX.tagOf
  obtain ⟨tag7, st7, bT, bW, bR⟩ := region_back hs ⟨_, hX'⟩ hdis st1
  exact ⟨tag7, st7, bT _ _ _ h1⟩
set_option maxRecDepth 100000 in
theorem txn_b (q13 : Nat) {r T b X : Nat} {st : St} {t : Txn} {os : Sl} {K : Nat → Sl → Sl → Int → Int → AH → AH → Prop} (g : Glob ro) (hs : SL.Sep ro σ) (hr : r < 64) (hrD : r ∉ DA) (hr6 : r ≠ 6) (hr63 : r ≠ 63) (hrX : r ∉ [0, 24, 28, 29]) (hT : TreeIs tag σ r T st) (hi : InvB b st) (hb : b ≤ 1073741824)
    (hX : Row tag σ 29 72 ⟨some ⟨X, 0, none⟩, 6, 6⟩ (txV t os)) (hO : OpsR ro os t.ops) (hol : t.ops.length ≤ 2199023255488) (hhl : t.home.length ≤ 4611686018427387903)
    (hK : ∀ rs es X13 σ1, rs.len = (txE st t).res.length → (Disj (SL.one σ X) σ1 → ∃ tag2, StepS (0 :: 24 :: 28 :: r :: DA) ro tag σ tag2 (join (SL.one σ X) σ1) ∧ TreeIs tag2 (join (SL.one σ X) σ1) r T (txE st t).st ∧ Row tag2 (join (SL.one σ X) σ1) q13 77 ⟨some ⟨X13, 0, none⟩, 3, 3⟩ [Sl.v rs, Sl.v es, vI (txE st t).bad]) →
      K X13 rs es (txE st t).bad (txE st t).err (SL.one σ X) σ1) :
    lent σ fun ψ σ => ∃ x1 : ByteArray, acell (join ro ψ) (fun _ => none) ⟨X, 0, none⟩ = some (.string x1) ∧
      ∃ x2 : Int, acell (join ro ψ) (fun _ => none) ((⟨X, 0, none⟩ : Addr).add 1) = some (.int .i64 x2) ∧
      ∃ (x3 x4 : Int), cellsAt (join ro ψ) (fun _ => none) ((⟨X, 0, none⟩ : Addr).add 2) 0 [.int .i64 x3, .int .i64 x4] ∧
      ∃ x5 : Sl, acell (join ro ψ) σ ((⟨X, 0, none⟩ : Addr).add 4) = some (Sl.v x5) ∧
      c_law08_copied B (join ro ψ) x5 σ fun x6 σ =>
      c_multi_Apply B (join ro ψ) (some ⟨T, 0, none⟩) x1 x2 x3 x4 x6 σ fun rs es bad err σ =>
      nw (join ro ψ) σ (.cells #[Sl.v (⟨none, 0, 0⟩ : Sl), Sl.v (⟨none, 0, 0⟩ : Sl), .int .i64 0] 77) fun X13 σ =>
      stN ⟨X13, 0, none⟩ (fun σ => K X13 rs es bad err ψ σ) [Sl.v rs, Sl.v es, .int .i64 bad] 0 σ := by
  refine txn_in (b := b) (t := t) g hs hr hrD hr6 hr63 hrX hT hi hb hX hO hol hhl fun rs es tag1 σ1 st1 h1 r14 r15 => ?_
  refine nw_st (tag := tag1) q13 st1.sep rfl (by simp [storable, Sl.v]) fun X13 tag6 σ6 st6 r6 => ?_
  have hl := r14.len
  rw [List.length_map] at hl
  refine hK rs es X13 σ6 hl fun hdis => ?_
  obtain ⟨tX, o1, hX'⟩ := hX.tagOf
  obtain ⟨tag7, st7, bT, bW, bR⟩ := region_back hs ⟨_, hX'⟩ hdis (st1.trans ((st6 []).s (by simp)))
  exact ⟨tag7, st7, bT _ _ _ (h1.keep (st6 []) (by simp)), bR _ _ _ _ r6⟩

set_option maxRecDepth 100000 in
theorem apart_last {T U X5 X6 b : Nat} {s u : St} {x y : Txn} {os1 os2 : Sl} (g : Glob ro) (hs : SL.Sep ro σ) (hT : TreeIs tag σ 10 T s) (hU : TreeIs tag σ 11 U s) (hi : InvB b s) (hb : b ≤ 1073741000) (hne : x.home ≠ y.home)
    (hX : Row tag σ 29 72 ⟨some ⟨X5, 0, none⟩, 6, 6⟩ (txV x os1)) (hY : Row tag σ 29 72 ⟨some ⟨X6, 0, none⟩, 6, 6⟩ (txV y os2)) (hO1 : OpsR ro os1 x.ops) (hO2 : OpsR ro os2 y.ops) (hol1 : x.ops.length ≤ 2199023255488) (hol2 : y.ops.length ≤ 2199023255488) (hhl1 : x.home.length ≤ 4611686018427387903) (hhl2 : y.home.length ≤ 4611686018427387903) :
    j15_law08_MultiApart B ro X5 X6 (some ⟨T, 0, none⟩) (some ⟨U, 0, none⟩) (fun r _ => r = true) σ := by
  obtain ⟨x1, x2, x3, y1, y2, y3, hp⟩ := apart_ok hi (by omega) hne
  have ix : InvB (b + 16) (txE s x).st := applyE_inv hi (by omega)
  have iy : InvB (b + 16) (txE s y).st := applyE_inv hi (by omega)
  have ixy : InvB (b + 16 + 16) (txE (txE s x).st y).st := applyE_inv ix (by omega)
  have iyx : InvB (b + 16 + 16) (txE (txE s y).st x).st := applyE_inv iy (by omega)
  unfold j15_law08_MultiApart
  refine txn_b 33 (b := b) g hs (by decide) (by decide) (by decide) (by decide) (by decide) hT hi (by omega) hX hO1 hol1 hhl1 fun rs1 es1 Z1 σ1 l1 bk => ?_
  intro hdis
  obtain ⟨tag2, st2, hT2, r1⟩ := bk hdis
  have hs2 := st2.sep
  have hU2 := hU.keepS st2 (by decide) (by decide)
  have hX2 := hX.keepS st2 (by decide)
  have hY2 := hY.keepS st2 (by decide)
  generalize join (SL.one σ X5) σ1 = σ2 at st2 hT2 r1 hs2 hU2 hX2 hY2
  refine txn_b 34 (b := b + 16) g hs2 (by decide) (by decide) (by decide) (by decide) (by decide) hT2 ix (by omega) hY2 hO2 hol2 hhl2 fun rs2 es2 Z2 σ3 l2 bk => ?_
  intro hdis
  obtain ⟨tag4, st4, hT4, r2⟩ := bk hdis
  have hs4 := st4.sep
  have hU4 := hU2.keepS st4 (by decide) (by decide)
  have hX4 := hX2.keepS st4 (by decide)
  have hY4 := hY2.keepS st4 (by decide)
  have r14 := r1.keepS st4 (by decide)
  generalize join (SL.one σ2 X6) σ3 = σ4 at st4 hT4 r2 hs4 hU4 hX4 hY4 r14
  refine txn_b 35 (b := b) g hs4 (by decide) (by decide) (by decide) (by decide) (by decide) hU4 hi (by omega) hY4 hO2 hol2 hhl2 fun rs3 es3 Z3 σ5 l3 bk => ?_
  intro hdis
  obtain ⟨tag6, st6, hU6, r3⟩ := bk hdis
  have hs6 := st6.sep
  have hT6 := hT4.keepS st6 (by decide) (by decide)
  have hX6 := hX4.keepS st6 (by decide)
  have hY6 := hY4.keepS st6 (by decide)
  have r16 := r14.keepS st6 (by decide)
  have r26 := r2.keepS st6 (by decide)
  generalize join (SL.one σ4 X6) σ5 = σ6 at st6 hU6 r3 hs6 hT6 hX6 hY6 r16 r26
  refine txn_b 36 (b := b + 16) g hs6 (by decide) (by decide) (by decide) (by decide) (by decide) hU6 iy (by omega) hX6 hO1 hol1 hhl1 fun rs4 es4 Z4 σ7 l4 bk => ?_
  intro hdis
  obtain ⟨tag8, st8, hU8, r4⟩ := bk hdis
  have hs8 := st8.sep
  have hT8 := hT6.keepS st8 (by decide) (by decide)
  have r18 := r16.keepS st8 (by decide)
  have r28 := r26.keepS st8 (by decide)
  have r38 := r3.keepS st8 (by decide)
  generalize join (SL.one σ6 X5) σ7 = σ8 at st8 hU8 r4 hs8 hT8 r18 r28 r38
  obtain ⟨p, hp1, g1⟩ := r18.ptr hs8 (by simp)
  cases hp1
  obtain ⟨p, hp1, g2⟩ := r28.ptr hs8 (by simp)
  cases hp1
  obtain ⟨p, hp1, g3⟩ := r38.ptr hs8 (by simp)
  cases hp1
  obtain ⟨p, hp1, g4⟩ := r4.ptr hs8 (by simp)
  cases hp1
  rw [if_pos ⟨x1, y1.symm⟩]
  refine ⟨_, g1 2 _ rfl, _, g4 2 _ rfl, ?_⟩
  rw [decide_eq_true x2]
  unfold j48_law08_MultiApart
  rw [if_pos rfl]
  refine ⟨_, g2 2 _ rfl, _, g3 2 _ rfl, ?_⟩
  rw [decide_eq_true y2.symm]
  unfold j50_law08_MultiApart
  rw [if_pos rfl]
  refine ⟨_, g1 0 _ rfl, _, g4 0 _ rfl, ?_⟩
  rw [decide_eq_true (show (rs1.len : Int) = (rs4.len : Int) by rw [l1, l4, x3])]
  unfold j52_law08_MultiApart
  rw [if_pos rfl]
  refine ⟨_, g2 0 _ rfl, _, g3 0 _ rfl, ?_⟩
  rw [decide_eq_true (show (rs2.len : Int) = (rs3.len : Int) by rw [l2, l3, y3])]
  unfold j54_law08_MultiApart
  rw [if_pos rfl]
  have a1 := ixy.inv.small
  have a2 := ixy.len
  have b1 := iyx.inv.small
  have b2 := iyx.len
  obtain ⟨MT, bT, hA⟩ := hT8
  refine encode_ok (by decide) (by decide) (by decide) (by decide) (by decide) hA a1 (by omega) fun s1 tag9 σ9 st9 r9 => ?_
  have hR : ∀ x ∈ [30, 94, 1], x % 64 ≠ 11 % 64 ∧ x ≠ 6 := by decide
  obtain ⟨MU, bU, hB⟩ := hU8
  refine encode_ok (by decide) (by decide) (by decide) (by decide) (by decide) (hB.keep st9 hR) b1 (by omega) fun s2 tag10 σ10 st10 r10 => ?_
  refine same_ok ((r9.keep st10 (by decide)).read st10.sep) (r10.read st10.sep) ?_
  rw [decide_eq_true (encS_perm hp ixy.inv.keys)]
  unfold j56_law08_MultiApart
  rw [if_pos rfl]
  refine awake8_ok g fun σ _ => ?_
  unfold j58_law08_MultiApart
  rfl
set_option maxRecDepth 100000 in
theorem apart_walk {a0 a1 os1 os2 : Sl} {hs : List Str} {txs : List Txn} {x y : Txn} (g : Glob ro) (hrd : SL.Read ro (fun _ => none) a0 (hs.map Pa.vS)) (hhs : hs.length ≤ 1048576) (hhh : ∀ h ∈ hs, h.length ≤ 4611686018427387903) (hT : TxsR ro a1 txs) (hl : txs.length ≤ 1048576)
    (hO1 : OpsR ro os1 x.ops) (hO2 : OpsR ro os2 y.ops) (hol1 : x.ops.length ≤ 2199023255488) (hol2 : y.ops.length ≤ 2199023255488) (hhl1 : x.home.length ≤ reachBytes) (hhl2 : y.home.length ≤ reachBytes) :
    c_law08_MultiApart B ro a0 a1 (S x.home) x.owner x.qn x.qb os1 x.sweep (S y.home) y.owner y.qn y.qb os2 y.sweep σ fun r _ => r = true := by
  refine law08_MultiApart_ok fun hsep => ?_
  unfold f_law08_MultiApart
  refine nw_cells (tag := fun _ => 0) 38 hsep fun X1 tag1 σ1 st1 r1 => ?_
  have hs1 := (st1 []).sep
  refine lent_block X1 ?_
  have hsA : SL.Sep (join ro (SL.one σ1 X1)) (SL.del σ1 X1) := hs1.lent
  have c1 : ∀ τ i v, ([Sl.v a0, Sl.v a1] ++ txV x os1 ++ txV y os2)[i]? = some v → acell (join ro (SL.one σ1 X1)) τ ((⟨X1, 0, none⟩ : Addr).add i) = some v := fun τ i v hv => by
    have := r1.lend hs1 (τ := τ) hv
    rwa [Nat.mul_one] at this
  have c2 : ∀ τ d (l : List Value), (([Sl.v a0, Sl.v a1] ++ txV x os1 ++ txV y os2).drop d).take l.length = l → cellsAt (join ro (SL.one σ1 X1)) τ ((⟨X1, 0, none⟩ : Addr).add d) 0 l := fun τ d l hl => cellsAt_of 0 fun i v hv => by
    have hil : i < l.length := by
      rcases Nat.lt_or_ge i l.length with h | h
      · exact h
      · rw [List.getElem?_eq_none h] at hv; cases hv
    have := c1 τ (d + i) v (by
      rw [← List.getElem?_drop, ← hv]
      conv => rhs; rw [← hl]
      rw [List.getElem?_take, if_pos hil])
    rw [add_add] at this ⊢
    rw [add_add, Nat.zero_add, Nat.zero_add]
    rwa [Nat.zero_add] at this
  refine ⟨S y.home, y.owner, y.qn, y.qb, os2, y.sweep, c2 _ 8 _ rfl, a0, c1 _ 0 _ rfl, a1, c1 _ 1 _ rfl, S x.home, x.owner, x.qn, x.qb, os1, x.sweep, c2 _ 2 _ rfl, ?_⟩
  refine nw_cells (tag := tag1) 29 hsA fun X5 tag2 σ2 st2 r2 => ?_
  refine nw_cells (tag := tag2) 39 (st2 []).sep fun X6 tag3 σ3 st3 r3 => ?_
  have hs3 := (st3 []).sep
  have r23 := r2.keep (st3 []) (by simp)
  refine stA_cells r23 hs3 (by simp) (by simp [storable, Sl.v]) fun σ4 st4 r4 _ => ?_
  refine stA_cells (r3.keep st4 (by simp)) st4.sep (by simp) (by simp [storable, Sl.v]) fun σ5 st5 r5 _ => ?_
  have r45 := r4.keep st5 (by simp)
  intro hdis
  obtain ⟨tX, o1, hX'⟩ := r1.tagOf
  obtain ⟨tag6, st6, bT, bW, bR⟩ := region_back (C := [29, 39]) hs1 ⟨_, hX'⟩ hdis ((((st2 []).s (by simp)).trans ((st3 []).s (by simp))).trans ((st4.s (by simp)).trans (st5.s (by simp))))
  have q5 := bR _ _ _ _ r45
  have q6 := bR _ _ _ _ r5
  have hs6 := st6.sep
  generalize join (SL.one σ1 X1) σ5 = σ6 at q5 q6 hs6
  let tg : Nat → Nat := fun c => if tag6 c = 39 then 29 else tag6 c
  have p5 : Row tg σ6 29 72 ⟨some ⟨X5, 0, none⟩, 6, 6⟩ (txV x os1) := Row.retag q5 fun c hc _ => by simp only [tg]; rw [if_neg (by omega), hc]
  have p6 : Row tg σ6 29 72 ⟨some ⟨X6, 0, none⟩, 6, 6⟩ (txV y os2) := Row.retag q6 fun c hc _ => by simp only [tg]; rw [if_pos hc]
  generalize tg = tag7 at p5 p6
  refine start_ok (tag := tag7) (hs := hs) 10 g (by decide) (by decide) (by decide) (fun tag' σ' st => hrd.keep) (by omega) hhh fun T tag8 σ8 st8 h8 hi8 => ?_
  refine start_ok (tag := tag8) (hs := hs) 11 g (by decide) (by decide) (by decide) (fun tag' σ' st => hrd.keep) (by omega) hhh fun U tag9 σ9 st9 h9 _ => ?_
  rw [if_neg (by simp)]
  have u8 := h8.keepC st9 (by decide) (by decide)
  have u5 := (p5.keepC st8 (by decide)).keepC st9 (by decide)
  have u6 := (p6.keepC st8 (by decide)).keepC st9 (by decide)
  have hs9 := st9.sep
  obtain ⟨p, hp1, g5⟩ := u5.ptr hs9 (by simp [txV])
  cases hp1
  obtain ⟨p, hp1, g6⟩ := u6.ptr hs9 (by simp [txV])
  cases hp1
  refine ⟨_, g5 0 _ rfl, _, g6 0 _ rfl, ?_⟩
  have hal : a1.len = txs.length := hT.1
  by_cases hne : x.home = y.home
  · rw [decide_eq_true (show S x.home = S y.home by rw [hne])]
    unfold j10_law08_MultiApart
    rw [if_pos rfl, if_pos (by simp)]
    refine awake8_ok g fun σ _ => ?_
    unfold j12_law08_MultiApart
    rfl
  rw [decide_eq_false (show ¬ S x.home = S y.home by rw [S_inj]; exact hne)]
  unfold j10_law08_MultiApart
  rw [if_neg (by simp)]
  suffices ∀ (m j : Nat) (st : St) (tag7 : Nat → Nat) (σ7 : AH), j + m = txs.length → SL.Sep ro σ7 → TreeIs tag7 σ7 10 T st → TreeIs tag7 σ7 11 U st → Row tag7 σ7 29 72 ⟨some ⟨X5, 0, none⟩, 6, 6⟩ (txV x os1) → Row tag7 σ7 29 72 ⟨some ⟨X6, 0, none⟩, 6, 6⟩ (txV y os2) → InvB (hs.length + 16 * j) st → lfpD (l72_law08_MultiApart B ro X5 X6 a1 (some ⟨T, 0, none⟩) (some ⟨U, 0, none⟩) fun r _ => r = true) (j : Int) σ7 from
    this _ 0 _ tag9 σ9 (Nat.zero_add _) hs9 u8 h9 u5 u6 hi8
  intro m
  induction m with
  | zero =>
    intro j st tag7 σ7 hj hs7 h7 k7 r7 q7 hi7
    refine lfpD.intro ?_
    unfold l72_law08_MultiApart
    rw [if_neg (by omega)]
    exact apart_last (u := st) g hs7 h7 k7 hi7 (by omega) hne r7 q7 hO1 hO2 hol1 hol2 (Nat.le_trans hhl1 (by decide)) (Nat.le_trans hhl2 (by decide))
  | succ m ih =>
    intro j st tag7 σ7 hj hs7 h7 k7 r7 q7 hi7
    have hjl : j < txs.length := by omega
    obtain ⟨q, os', hq, hc, hth, hO', hol'⟩ := hT.2 j txs[j] (List.getElem?_eq_getElem hjl)
    generalize txs[j] = t' at hc hth hO' hol'
    refine lfpD.intro ?_
    unfold l72_law08_MultiApart
    rw [if_pos (by omega)]
    refine ⟨q, hq, by omega, by omega, S t'.home, t'.owner, t'.qn, t'.qb, os', t'.sweep, by rw [Int.toNat_natCast]; exact hc σ7, ?_⟩
    refine nw_st (tag := tag7) 29 hs7 rfl (by simp [storable, Sl.v]) fun X tag8 σ8 st8 r8 => ?_
    have hs8 := (st8 []).sep
    refine txn_a (b := hs.length + 16 * j) (t := t') g hs8 (by decide) (by decide) (by decide) (by decide) (by decide) (h7.keep (st8 []) (by simp)) hi7 (by omega) r8 hO' hol' (Nat.le_trans hth (by decide)) fun rs es σ9 bk => ?_
    intro hdis
    obtain ⟨tag10, st10, h10⟩ := bk hdis
    have hs10 := st10.sep
    have k10 := (k7.keep (st8 []) (by simp)).keepS st10 (by decide) (by decide)
    have r10 := r8.keepS st10 (by decide)
    have a10 := (r7.keep (st8 []) (by simp)).keepS st10 (by decide)
    have b10 := (q7.keep (st8 []) (by simp)).keepS st10 (by decide)
    generalize join (SL.one σ8 X) σ9 = σ10 at h10 hs10 k10 r10 a10 b10
    refine txn_a (b := hs.length + 16 * j) (t := t') g hs10 (by decide) (by decide) (by decide) (by decide) (by decide) k10 hi7 (by omega) r10 hO' hol' (Nat.le_trans hth (by decide)) fun rs es σ11 bk => ?_
    intro hdis
    obtain ⟨tag12, st12, k12⟩ := bk hdis
    rw [Pa.inc j (by omega)]
    exact ih (j + 1) _ tag12 _ (by omega) st12.sep (h10.keepS st12 (by decide) (by decide)) k12 (a10.keepS st12 (by decide)) (b10.keepS st12 (by decide)) (by rw [show hs.length + 16 * (j + 1) = hs.length + 16 * j + 16 by omega]; exact applyE_inv hi7 (by omega))
end Go.Proofs.YthfpmipeejjogaaGreatDoor.Zt

/- ZtreeShape: the script as it stands in memory. -/
namespace Go.Proofs.YthfpmipeejjogaaGreatDoor.Zt
open Go Go.Proofs.YthfpmipeejjogaaGreatDoor.SL Go.Proofs.YthfpmipeejjogaaGreatDoor.G Go.Proofs.YthfpmipeejjogaaGreatDoor.Pa
set_option linter.unusedSimpArgs false
set_option linter.unusedVariables false

theorem c5 : Tryz.prog.cellsOf 5 = 1 := by kernel_rfl
theorem c3 : Tryz.prog.cellsOf 3 = 1 := by kernel_rfl
theorem c9 : Tryz.prog.cellsOf 9 = 1 := by kernel_rfl
theorem c30 : Tryz.prog.cellsOf 30 = 1 := by kernel_rfl
theorem c4 : Tryz.prog.cellsOf 4 = 1 := by kernel_rfl
theorem b5 : Tryz.prog.bytesOf 5 = 1 := by kernel_rfl
theorem u4b : Tryz.prog.underlying 4 = some .bool := by kernel_rfl
theorem u3' : Tryz.prog.underlying 3 = some (.int .i64) := by kernel_rfl
theorem u4' : Tryz.prog.underlying 4 = some .bool := by kernel_rfl

theorem bytes_of {W : World} {H : Type} {enc : TypeId × Value → H} {a : Option Addr} {len cap : Nat} (h : Arg Tryz.prog W H enc 30 [.slice a len cap]) : ∃ d : Str, d.length ≤ 140737488351232 ∧ SL.Read (all W) (fun _ => none) ⟨a, len, cap⟩ (d.map vU) := by
  rcases h.slice u30 with ⟨rfl, rfl, rfl⟩ | ⟨x, rfl, hl, hb, hel⟩
  · exact ⟨[], by decide, rfl, fun _ => rfl, fun p h => by cases h⟩
  · rw [c5] at hel
    rw [b5, Nat.mul_one] at hb
    have key : ∀ j : Nat, ∃ c : UInt8, j < len → W.cell? (x.add j) = some (vU c) := fun j => by
      by_cases hj : j < len
      · obtain ⟨cs, h1, h2, h3⟩ := hel j hj
        match cs, h1 with
        | [u], _ =>
          obtain ⟨c, rfl⟩ := h3.u8 u5
          have := h2 0 (by omega)
          rw [Nat.mul_one, add_zero] at this
          exact ⟨c, fun _ => this⟩
      · exact ⟨0, fun h => absurd h hj⟩
    obtain ⟨f, hf⟩ := Classical.axiomOfChoice key
    refine ⟨(List.range len).map f, by simp [reachBytes] at hb ⊢; omega, by simp, (fun h => by cases h), fun p hp i v hv => ?_⟩
    cases hp
    have hi : i < len := by
      rcases Nat.lt_or_ge i len with h | h
      · exact h
      · rw [List.getElem?_eq_none (by simpa using h)] at hv; cases hv
    rw [List.getElem?_map, List.getElem?_map, List.getElem?_range hi] at hv
    cases hv
    exact all_cell _ (hf i hi)

end Go.Proofs.YthfpmipeejjogaaGreatDoor.Zt

/- The scripts of several changes, as they stand in memory. -/
namespace Go.Proofs.YthfpmipeejjogaaGreatDoor.Zt
open Go Go.Proofs.YthfpmipeejjogaaGreatDoor.SL Go.Proofs.YthfpmipeejjogaaGreatDoor.G Go.Proofs.YthfpmipeejjogaaGreatDoor.Pa
set_option linter.unusedSimpArgs false
set_option linter.unusedVariables false

theorem c82 : Tryz.prog.cellsOf 82 = 6 := by kernel_rfl
theorem b82 : Tryz.prog.bytesOf 82 = 64 := by kernel_rfl
theorem c72 : Tryz.prog.cellsOf 72 = 6 := by kernel_rfl
theorem c69 : Tryz.prog.cellsOf 69 = 2 := by kernel_rfl
theorem c70 : Tryz.prog.cellsOf 70 = 1 := by kernel_rfl
theorem u70 : Tryz.prog.underlying 70 = some (.slice 82) := by kernel_rfl
theorem u67 : Tryz.prog.underlying 67 = some (.slice 72) := by kernel_rfl
theorem u82 : ∃ fs, Tryz.prog.underlying 82 = some (.struct fs) ∧ fs.toList.map (fun f => (f.type, f.offset)) = [(3, 0), (9, 1), (30, 2), (3, 3), (4, 4), (4, 5)] := ⟨_, Tryz.underlying82, rfl⟩
theorem u69 : ∃ fs, Tryz.prog.underlying 69 = some (.struct fs) ∧ fs.toList.map (fun f => (f.type, f.offset)) = [(3, 0), (3, 1)] := ⟨_, Tryz.underlying69, rfl⟩
theorem u72 : ∃ fs, Tryz.prog.underlying 72 = some (.struct fs) ∧ fs.toList.map (fun f => (f.type, f.offset)) = [(9, 0), (3, 1), (69, 2), (70, 4), (4, 5)] := ⟨_, Tryz.underlying72, rfl⟩
theorem fld {W : World} {H : Type} {enc : TypeId × Value → H} {t : TypeId} {cs : List Value} {L : List (TypeId × Nat)} (h : Arg Tryz.prog W H enc t cs) (hu : ∃ fs, Tryz.prog.underlying t = some (.struct fs) ∧ fs.toList.map (fun f : Field => (f.type, f.offset)) = L) :
    cs.length = Tryz.prog.cellsOf t ∧ ∀ (i : Nat) (t' : TypeId) (o : Nat), L[i]? = some (t', o) → Arg Tryz.prog W H enc t' ((cs.drop o).take (Tryz.prog.cellsOf t')) := by
  obtain ⟨fs, hu, hfs⟩ := hu
  obtain ⟨hl, hel⟩ := h.struct hu
  refine ⟨hl, fun i t' o hi => ?_⟩
  rw [← hfs, List.getElem?_map] at hi
  obtain ⟨f, hf, e⟩ := Option.map_eq_some_iff.1 hi
  have := hel i f hf
  simp only [Prod.mk.injEq] at e
  rw [e.1, e.2] at this
  exact this
theorem isSl {W : World} {H : Type} {enc : TypeId × Value → H} {t e : TypeId} {v : Value} (hu : Tryz.prog.underlying t = some (.slice e)) (h : Arg Tryz.prog W H enc t [v]) : ∃ a len cap, v = .slice a len cap := by
  obtain ⟨fuel, d, ps, hf, _⟩ := h
  rcases Go.Deep.open_slice hu hf with ⟨e, _⟩ | ⟨x, l, c, _, _, _, _, e, _⟩
  · simp at e; exact ⟨_, _, _, e⟩
  · simp at e; exact ⟨_, _, _, e⟩
set_option maxRecDepth 100000 in
theorem mop_of {W : World} {H : Type} {enc : TypeId × Value → H} {cs : List Value} (h : Arg Tryz.prog W H enc 82 cs) :
    ∃ (o : MOp) (ds : Sl), cs = opV o ds ∧ o.data.length ≤ 140737488351232 ∧ SL.Read (all W) (fun _ => none) ds (o.data.map vU) := by
  obtain ⟨hl, get⟩ := fld h u82
  rw [c82] at hl
  match cs, hl with
  | [v0, v1, v2, v3, v4, v5], _ =>
    have a0 := get 0 _ _ rfl
    have a1 := get 1 _ _ rfl
    have a2 := get 2 _ _ rfl
    have a3 := get 3 _ _ rfl
    have a4 := get 4 _ _ rfl
    have a5 := get 5 _ _ rfl
    rw [c3] at a0 a3
    rw [c9] at a1
    rw [c30] at a2
    rw [c4] at a4 a5
    obtain ⟨x0, rfl⟩ := Arg.i64 u3' a0
    obtain ⟨x1, rfl⟩ := Arg.i64 u3' a3
    obtain ⟨s, rfl, _⟩ := Arg.str u9 a1
    obtain ⟨b, rfl⟩ := Arg.bool u4' a4
    obtain ⟨b2, rfl⟩ := Arg.bool u4' a5
    obtain ⟨a, len, cap, rfl⟩ := isSl u30 a2
    obtain ⟨d, h1, h2⟩ := bytes_of a2
    exact ⟨⟨x0, L s, d, x1, b, b2⟩, ⟨a, len, cap⟩, by simp [opV, Sl.v], h1, h2⟩
set_option maxRecDepth 100000 in
theorem mops_of {W : World} {H : Type} {enc : TypeId × Value → H} {a : Option Addr} {len cap : Nat} (h : Arg Tryz.prog W H enc 70 [.slice a len cap]) :
    ∃ os : List MOp, OpsR (all W) ⟨a, len, cap⟩ os ∧ os.length ≤ 2199023255488 := by
  rcases h.slice u70 with ⟨rfl, rfl, rfl⟩ | ⟨x, rfl, hl, hb, hel⟩
  · exact ⟨[], ⟨rfl, fun j o h => by cases h⟩, by decide⟩
  · rw [c82] at hel
    rw [b82] at hb
    have key : ∀ j : Nat, ∃ q : MOp × Sl, j < len → (∀ σ, cellsAt (all W) σ (x.add (j * 6)) 0 (opV q.1 q.2)) ∧ q.1.data.length ≤ 140737488351232 ∧ SL.Read (all W) (fun _ => none) q.2 (q.1.data.map vU) := fun j => by
      by_cases hj : j < len
      · obtain ⟨cs, h1, h2, h3⟩ := hel j hj
        obtain ⟨o, ds, rfl, h4, h5⟩ := mop_of h3
        refine ⟨(o, ds), fun _ => ⟨fun σ => cellsAt_of 0 fun i v hv => ?_, h4, h5⟩⟩
        have hi : i < 6 := by
          rcases Nat.lt_or_ge i 6 with h | h
          · exact h
          · rw [List.getElem?_eq_none (by simpa [opV] using h)] at hv; cases hv
        have := h2 i hi
        rw [hv] at this
        rw [Nat.zero_add]
        exact all_cell σ this
      · exact ⟨(⟨0, [], [], 0, false, false⟩, ⟨none, 0, 0⟩), fun h => absurd h hj⟩
    obtain ⟨f, hf⟩ := Classical.axiomOfChoice key
    refine ⟨(List.range len).map fun j => (f j).1, ⟨by simp, fun j o ho => ?_⟩, by simp [reachBytes] at hb ⊢; omega⟩
    have hj : j < len := by
      rcases Nat.lt_or_ge j len with h | h
      · exact h
      · rw [List.getElem?_eq_none (by simpa using h)] at ho; cases ho
    rw [List.getElem?_map, List.getElem?_range hj] at ho
    cases ho
    obtain ⟨h1, h2, h3⟩ := hf j hj
    exact ⟨x, (f j).2, rfl, h1, h3, h2⟩
set_option maxRecDepth 100000 in
theorem txn_of {W : World} {H : Type} {enc : TypeId × Value → H} {cs : List Value} (h : Arg Tryz.prog W H enc 72 cs) :
    ∃ (t : Txn) (os : Sl), cs = txV t os ∧ t.home.length ≤ reachBytes ∧ OpsR (all W) os t.ops ∧ t.ops.length ≤ 2199023255488 := by
  obtain ⟨hl, get⟩ := fld h u72
  rw [c72] at hl
  match cs, hl with
  | [v0, v1, v2, v3, v4, v5], _ =>
    have a0 := get 0 _ _ rfl
    have a1 := get 1 _ _ rfl
    have a2 := get 2 _ _ rfl
    have a3 := get 3 _ _ rfl
    have a4 := get 4 _ _ rfl
    rw [c9] at a0
    rw [c3] at a1
    rw [c69] at a2
    rw [c70] at a3
    rw [c4] at a4
    obtain ⟨s, rfl, hsl⟩ := Arg.str u9 a0
    obtain ⟨x1, rfl⟩ := Arg.i64 u3' a1
    obtain ⟨_, get2⟩ := fld a2 u69
    have q0 := get2 0 _ _ rfl
    have q1 := get2 1 _ _ rfl
    rw [c3] at q0 q1
    obtain ⟨y0, rfl⟩ := Arg.i64 u3' q0
    obtain ⟨y1, rfl⟩ := Arg.i64 u3' q1
    obtain ⟨a, len, cap, rfl⟩ := isSl u70 a3
    obtain ⟨b, rfl⟩ := Arg.bool u4' a4
    obtain ⟨os, h1, h2⟩ := mops_of a3
    exact ⟨⟨L s, x1, y0, y1, os, b⟩, ⟨a, len, cap⟩, by simp [txV, Sl.v], by simpa [L_len] using hsl, h1, h2⟩
theorem u25 : Tryz.prog.underlying 25 = some (.slice 9) := by kernel_rfl
theorem strings_of {W : World} {H : Type} {enc : TypeId × Value → H} {a : Option Addr} {len cap : Nat} (h : Arg Tryz.prog W H enc 25 [.slice a len cap]) : ∃ hs : List Str, hs.length = len ∧ (∀ x ∈ hs, x.length ≤ reachBytes) ∧ SL.Read (all W) (fun _ => none) ⟨a, len, cap⟩ (hs.map Pa.vS) := by
  rcases h.slice u25 with ⟨rfl, rfl, rfl⟩ | ⟨x, rfl, hl, hb, hel⟩
  · exact ⟨[], rfl, by simp, rfl, fun _ => rfl, fun p h => by cases h⟩
  · rw [c9] at hel
    have key : ∀ j : Nat, ∃ c : Str, j < len → W.cell? (x.add j) = some (Pa.vS c) ∧ c.length ≤ reachBytes := fun j => by
      by_cases hj : j < len
      · obtain ⟨cs, h1, h2, h3⟩ := hel j hj
        match cs, h1 with
        | [u], _ =>
          obtain ⟨c, rfl, hc⟩ := Arg.str u9 h3
          have := h2 0 (by omega)
          rw [Nat.mul_one, add_zero] at this
          exact ⟨L c, fun _ => ⟨by rw [this]; simp [Pa.vS], by rw [L_len]; exact hc⟩⟩
      · exact ⟨[], fun h => absurd h hj⟩
    obtain ⟨f, hf⟩ := Classical.axiomOfChoice key
    refine ⟨(List.range len).map f, by simp, fun y hy => ?_, by simp, (fun h => by cases h), fun p hp i v hv => ?_⟩
    · obtain ⟨j, hj, rfl⟩ := List.mem_map.1 hy
      exact (hf j (List.mem_range.1 hj)).2
    · cases hp
      have hi : i < len := by
        rcases Nat.lt_or_ge i len with h | h
        · exact h
        · rw [List.getElem?_eq_none (by simpa using h)] at hv; cases hv
      rw [List.getElem?_map, List.getElem?_map, List.getElem?_range hi] at hv
      cases hv
      exact all_cell _ (hf i hi).1
set_option maxRecDepth 100000 in
theorem txns_of {W : World} {H : Type} {enc : TypeId × Value → H} {a : Option Addr} {len cap : Nat} (h : Arg Tryz.prog W H enc 67 [.slice a len cap]) :
    ∃ ts : List Txn, TxsR (all W) ⟨a, len, cap⟩ ts := by
  rcases h.slice u67 with ⟨rfl, rfl, rfl⟩ | ⟨x, rfl, hl, hb, hel⟩
  · exact ⟨[], ⟨rfl, fun j o h => by cases h⟩⟩
  · rw [c72] at hel
    have key : ∀ j : Nat, ∃ q : Txn × Sl, j < len → (∀ σ, cellsAt (all W) σ (x.add (j * 6)) 0 (txV q.1 q.2)) ∧ q.1.home.length ≤ reachBytes ∧ OpsR (all W) q.2 q.1.ops ∧ q.1.ops.length ≤ 2199023255488 := fun j => by
      by_cases hj : j < len
      · obtain ⟨cs, h1, h2, h3⟩ := hel j hj
        obtain ⟨o, ds, rfl, h4, h5⟩ := txn_of h3
        refine ⟨(o, ds), fun _ => ⟨fun σ => cellsAt_of 0 fun i v hv => ?_, h4, h5⟩⟩
        have hi : i < 6 := by
          rcases Nat.lt_or_ge i 6 with h | h
          · exact h
          · rw [List.getElem?_eq_none (by simpa [txV] using h)] at hv; cases hv
        have := h2 i hi
        rw [hv] at this
        rw [Nat.zero_add]
        exact all_cell σ this
      · exact ⟨(⟨[], 0, 0, 0, [], false⟩, ⟨none, 0, 0⟩), fun h => absurd h hj⟩
    obtain ⟨f, hf⟩ := Classical.axiomOfChoice key
    refine ⟨(List.range len).map fun j => (f j).1, ⟨by simp, fun j o ho => ?_⟩⟩
    have hj : j < len := by
      rcases Nat.lt_or_ge j len with h | h
      · exact h
      · rw [List.getElem?_eq_none (by simpa using h)] at ho; cases ho
    rw [List.getElem?_map, List.getElem?_range hj] at ho
    cases ho
    obtain ⟨h1, h2, h3, h4⟩ := hf j hj
    exact ⟨x, (f j).2, rfl, h1, h2, h3, h4⟩
theorem c89 : Tryz.prog.cellsOf 89 = 14 := by kernel_rfl
theorem c25 : Tryz.prog.cellsOf 25 = 1 := by kernel_rfl
theorem c67 : Tryz.prog.cellsOf 67 = 1 := by kernel_rfl
theorem u89 : ∃ fs, Tryz.prog.underlying 89 = some (.struct fs) ∧ fs.toList.map (fun f => (f.type, f.offset)) = [(25, 0), (67, 1), (72, 2), (72, 8)] := ⟨_, Tryz.underlying89, rfl⟩
set_option maxRecDepth 100000 in
theorem both_of {W : World} {H : Type} {enc : TypeId × Value → H} {cs : List Value} (h : Arg Tryz.prog W H enc 89 cs) :
    ∃ (s0 s1 o1 o2 : Sl) (x y : Txn), cs = [Sl.v s0, Sl.v s1] ++ txV x o1 ++ txV y o2 ∧ Arg Tryz.prog W H enc 25 [Sl.v s0] ∧ Arg Tryz.prog W H enc 67 [Sl.v s1] ∧ (x.home.length ≤ reachBytes ∧ OpsR (all W) o1 x.ops ∧ x.ops.length ≤ 2199023255488) ∧ (y.home.length ≤ reachBytes ∧ OpsR (all W) o2 y.ops ∧ y.ops.length ≤ 2199023255488) := by
  obtain ⟨hl, get⟩ := fld h u89
  rw [c89] at hl
  match cs, hl with
  | [v0, v1, v2, v3, v4, v5, v6, v7, v8, v9, v10, v11, v12, v13], _ =>
    have a0 := get 0 _ _ rfl
    have a1 := get 1 _ _ rfl
    have a2 := get 2 _ _ rfl
    have a3 := get 3 _ _ rfl
    rw [c25] at a0
    rw [c67] at a1
    rw [c72] at a2 a3
    obtain ⟨b0, l0, p0, rfl⟩ := isSl u25 a0
    obtain ⟨b1, l1, p1, rfl⟩ := isSl u67 a1
    obtain ⟨x, o1, e1, h1⟩ := txn_of a2
    obtain ⟨y, o2, e2, h2⟩ := txn_of a3
    refine ⟨⟨b0, l0, p0⟩, ⟨b1, l1, p1⟩, o1, o2, x, y, ?_, a0, a1, h1, h2⟩
    rw [← e1, ← e2]; rfl
end Go.Proofs.YthfpmipeejjogaaGreatDoor.Zt

/- How long the slices within a struct are. -/
namespace Go.Proofs.YthfpmipeejjogaaGreatDoor.SL
open Go
theorem upto_field {H : Type} {enc : TypeId × Value → H} {P : Program} {W : World} {t : TypeId} {fs : Array Field} {cs : List Value} {fuel n : Nat} {d : DataW H} {ps : List MemPlace} (ht : P.underlying t = some (.struct fs))
    (hf : DataW.trod enc P W 0 (fun _ => true) true fuel t cs = some (d, ps)) (hb : Rows.uptoBulk d ≤ n) {i : Nat} {f : Field} (hi : fs.toList[i]? = some f) :
    ∃ fuel' d' ps', DataW.trod enc P W 0 (fun _ => true) true fuel' f.type ((cs.drop f.offset).take (P.cellsOf f.type)) = some (d', ps') ∧ Rows.uptoBulk d' ≤ n := by
  cases fuel with
  | zero => cases hf
  | succ m =>
    unfold DataW.trod at hf
    rw [ht] at hf
    simp only at hf
    split at hf
    · obtain ⟨r, hr, hd⟩ := Option.map_eq_some_iff.1 hf
      have h1 := mapM_some_get hr i f hi
      have h2 := mapM_some_length hr
      have hil : i < fs.toList.length := by
        rcases Nat.lt_or_ge i fs.toList.length with h' | h'
        · exact h'
        · rw [List.getElem?_eq_none h'] at hi; cases hi
      rw [List.getElem?_eq_getElem (by omega)] at h1
      simp only [Prod.mk.injEq] at hd
      rw [← hd.1] at hb
      simp only [Rows.uptoBulk] at hb
      have := bulkAll_get (l := r.map (·.1)) (i := i) (d := r[i].1) (by rw [List.getElem?_map, List.getElem?_eq_getElem (by omega)]; rfl)
      exact ⟨m, r[i].1, r[i].2, h1, by omega⟩
    · cases hf
end Go.Proofs.YthfpmipeejjogaaGreatDoor.SL
namespace Go.Proofs.YthfpmipeejjogaaGreatDoor.Zt
open Go Go.Proofs.YthfpmipeejjogaaGreatDoor.SL Go.Proofs.YthfpmipeejjogaaGreatDoor.G Go.Proofs.YthfpmipeejjogaaGreatDoor.Pa
theorem upto_fld {H : Type} {enc : TypeId × Value → H} {W : World} {t e t' : TypeId} {o : Nat} {L : List (TypeId × Nat)} {cs : List Value} {fuel n i : Nat} {d : DataW H} {ps : List MemPlace} {s : Sl} (hu : ∃ fs, Tryz.prog.underlying t = some (.struct fs) ∧ fs.toList.map (fun f : Field => (f.type, f.offset)) = L)
    (hf : DataW.trod enc Tryz.prog W 0 (fun _ => true) true fuel t cs = some (d, ps)) (hb : Rows.uptoBulk d ≤ n) (hi : L[i]? = some (t', o)) (ht : Tryz.prog.underlying t' = some (.slice e)) (hcs : (cs.drop o).take (Tryz.prog.cellsOf t') = [Sl.v s]) : s.len ≤ n := by
  obtain ⟨fs, hu, hfs⟩ := hu
  rw [← hfs, List.getElem?_map] at hi
  obtain ⟨f, hf', e⟩ := Option.map_eq_some_iff.1 hi
  simp only [Prod.mk.injEq] at e
  obtain ⟨m, d', ps', h1, h2⟩ := upto_field hu hf hb hf'
  rw [e.1, e.2, hcs] at h1
  exact upto_len ht h1 h2
end Go.Proofs.YthfpmipeejjogaaGreatDoor.Zt
