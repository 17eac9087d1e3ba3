/- MuWh, MuWi, ZtR, MuR -/
import Derived.Test.YthfpmipeejjogaaGreatDoorXM
/- Several changes at once are what they are one by one, the walk. -/
namespace Go.Proofs.YthfpmipeejjogaaGreatDoor.Zt
open Go Go.Proofs.YthfpmipeejjogaaGreatDoor.SL Go.Proofs.YthfpmipeejjogaaGreatDoor.G Go.Proofs.YthfpmipeejjogaaGreatDoor.Pa
set_option linter.unusedSimpArgs false
set_option linter.unusedVariables false
variable {B : World} {ro σ σ' : AH} {tag tag' : Nat → Nat}

theorem RowW.cells2 {r : Nat} {e : TypeId} {s : Sl} {l : List (Str × Int)} (h : RowW tag σ r e 2 s (l.map resV)) (hs : SL.Sep ro σ) {j : Nat} {p : Str × Int} (hj : l[j]? = some p) : ∃ q, s.a = some q ∧ SL.cellsAt ro σ (q.add (Int.toNat (j : Int) * 2)) 0 [.string (S p.1), .int .i64 p.2] := by
  obtain ⟨b, ha, _, hg⟩ := RowW.get h hs (j := j) (x := resV p) (by rw [List.getElem?_map, hj]; rfl)
  refine ⟨_, ha, cellsAt_of 0 fun i v hv => ?_⟩
  have := hg i v hv
  rw [Int.toNat_natCast, add_add, add_add]
  rwa [Nat.zero_add, Nat.zero_add]

set_option maxRecDepth 100000 in
theorem whole_one {T U X5 X13 : Nat} {a : St} {w wF : Work} {t : Txn} {os rs es : Sl} {bad : Int} {rest : List MOp} {j b : Nat} {o : MOp} {Y : Int → AH → Prop} (g : Glob ro) (hs : SL.Sep ro σ) (hT : TreeIs tag σ 10 T wF.st) (hU : TreeIs tag σ 11 U a) (hp : a.Perm w.st) (hi : InvB b a) (hb : b ≤ 1073741824)
    (hX : Row tag σ 29 72 ⟨some ⟨X5, 0, none⟩, 6, 6⟩ (txV t os)) (hr : RowW tag σ 34 84 2 rs (wF.res.map resV)) (h13 : Row tag σ 33 77 ⟨some ⟨X13, 0, none⟩, 3, 3⟩ [Sl.v rs, Sl.v es, vI bad]) (hO : OpsR ro os t.ops) (hoj : t.ops[j]? = some o) (hjl : j < 1000) (hhl : t.home.length ≤ 4611686018427387903)
    (how : ¬ (t.owner < 1 ∨ 4611686018427387903 < t.owner)) (hwj : w.res.length = j) (hap : applyL t.home t.owner t.qn t.qb (o :: rest) j w = .inr wF)
    (hY : ∀ a' tag' σ', SL.Sep ro σ' → TreeIs tag' σ' 10 T wF.st → TreeIs tag' σ' 11 U a' → a'.Perm (doE t.home t.owner t.qn t.qb w o).2.st → InvB (b + 16) a' → Row tag' σ' 29 72 ⟨some ⟨X5, 0, none⟩, 6, 6⟩ (txV t os) → RowW tag' σ' 34 84 2 rs (wF.res.map resV) → Row tag' σ' 33 77 ⟨some ⟨X13, 0, none⟩, 3, 3⟩ [Sl.v rs, Sl.v es, vI bad] →
      (doE t.home t.owner t.qn t.qb w o).2.res.length = j + 1 → applyL t.home t.owner t.qn t.qb rest (j + 1) (doE t.home t.owner t.qn t.qb w o).2 = .inr wF → Y ((j + 1 : Nat) : Int) σ') :
    l38_law08_MultiWhole B ro X5 X13 (some ⟨T, 0, none⟩) (some ⟨U, 0, none⟩) os (fun r _ => r = true) (j : Int) σ Y := by
  have hjo : j < t.ops.length := by
    rcases Nat.lt_or_ge j t.ops.length with h | h
    · exact h
    · rw [List.getElem?_eq_none h] at hoj; cases hoj
  have hol := hO.1
  obtain ⟨q, ds, hq, hc, hrd, hdl⟩ := hO.2 j o hoj
  have hk : (w.st.map (·.1)).Nodup := (hp.map _).nodup_iff.1 hi.inv.keys
  have hde : (doE t.home t.owner t.qn t.qb w o).1 = 0 ∧ applyL t.home t.owner t.qn t.qb rest (j + 1) (doE t.home t.owner t.qn t.qb w o).2 = .inr wF := by
    unfold applyL at hap
    split at hap
    · cases hap
    · rename_i hc; exact ⟨by simpa using hc, hap⟩
  obtain ⟨hde, hap'⟩ := hde
  obtain ⟨p, hpr, he0, hres, hpp⟩ := apply_one (home := t.home) (owner := t.owner) (qn := t.qn) (qb := t.qb) hp hk how hde
  obtain ⟨l, hl1, hl2⟩ := applyL_res hap'
  have hpj : wF.res[j]? = some p := by
    rw [hl1, hpr, List.append_assoc, List.getElem?_append_right (by omega), hwj, Nat.sub_self]; rfl
  have hi' := applyE_inv (home := t.home) (owner := t.owner) (qn := t.qn) (qb := t.qb) (ops := [o]) hi (by omega)
  unfold l38_law08_MultiWhole
  rw [if_pos (by omega)]
  refine ⟨q, hq, by omega, by omega, o.kind, S o.path, ds, o.ver, o.eph, o.seq, by rw [Int.toNat_natCast]; exact hc σ, ?_⟩
  refine nw_st (tag := tag) 32 hs rfl (by simp [storable, Sl.v]) fun X tag1 σ1 st1 r1 => ?_
  have hs1 := (st1 []).sep
  have hX1 := hX.keep (st1 []) (by simp)
  have hT1 := hT.keep (st1 []) (by simp)
  have hU1 := hU.keep (st1 []) (by simp)
  have hr1 := RowW.keepS hr ((st1 []).s (C := []) (by simp)) (by simp)
  have h131 := h13.keep (st1 []) (by simp)
  obtain ⟨tX, o1, hX'⟩ := r1.tagOf
  obtain ⟨t5, o2, h5'⟩ := hX1.tagOf
  have hne : X ≠ X5 := fun e => by
    rw [e, t5] at tX; cases tX
  refine lent_two X X5 ?_
  rw [join_assoc]
  have hsA : SL.Sep (join ro (SL.one σ1 X)) (SL.del σ1 X) := hs1.lent
  have hsB := hsA.lent (b := X5)
  have hA := hU1.del' tX (by decide) (by decide) (by decide) (by decide) (b := X)
  have hB := hA.del' t5 (by decide) (by decide) (by decide) (by decide) (b := X5)
  have r5A : Row tag1 (SL.del σ1 X) 29 72 ⟨some ⟨X5, 0, none⟩, 6, 6⟩ (txV t os) := hX1.del tX (by decide)
  have c5 : ∀ τ i v, (txV t os)[i]? = some v → acell (join (join ro (SL.one σ1 X)) (SL.one (SL.del σ1 X) X5)) τ ((⟨X5, 0, none⟩ : Addr).add i) = some v := fun τ i v hv => by
    have := r5A.lend hsA (τ := τ) hv
    rwa [Nat.mul_one] at this
  have cX : ∀ τ i v, (opV o ds)[i]? = some v → acell (join (join ro (SL.one σ1 X)) (SL.one (SL.del σ1 X) X5)) τ ((⟨X, 0, none⟩ : Addr).add i) = some v := fun τ i v hv => by
    have := r1.lend hs1 (τ := fun _ => none) hv
    rw [Nat.mul_one] at this
    exact acell_ro this
  refine ⟨S t.home, c5 _ 0 _ rfl, t.owner, c5 _ 1 _ rfl, t.qn, t.qb, cellsAt_of 0 fun i v hv => ?_, o.kind, S o.path, ds, o.ver, o.eph, o.seq, cellsAt_of 0 fun i v hv => by rw [Nat.zero_add]; exact cX _ i v hv, ?_⟩
  · have := c5 (fun _ => none) (2 + i) v (by
      rcases i with _ | _ | i
      · exact hv
      · exact hv
      · cases hv)
    rw [add_add] at this ⊢
    rw [add_add, Nat.zero_add, Nat.zero_add]
    rwa [Nat.zero_add] at this
  refine nw_cells (tag := tag1) 36 hsB fun X6 tag2 σ2 st2 r2 => ?_
  have hU2 := hB.keep (st2 []) (by simp)
  refine copied_in (tag := tag2) (ops := [o]) (fun tag' σ' st => ⟨rfl, fun i o' ho' => ?_⟩) (by simp) fun s9 tag9 σ9 st9 ho9 => ?_
  · rcases i with _ | i
    · cases ho'
      exact ⟨_, ds, rfl, Row.cellsAt (r2.keepS st (by decide)) st.sep, hrd.ro'.ro', hdl⟩
    · cases ho'
  have h9 := hU2.keepS st9 (by decide) (by decide)
  refine apply_ok (b := b) (q := 24) (glob_lent (glob_lent g)) (by decide) (by decide) (by decide) (by decide) (by decide) (by decide) h9 hi hb ho9 (fun o' ho' => by rw [List.mem_singleton.1 ho']; omega) hhl fun rs2 es2 tag10 σ10 st10 h10 r14 _ => ?_
  refine nw_st (tag := tag10) 35 st10.sep rfl (by simp [storable, Sl.v]) fun X17 tag11 σ11 st11 r17 => ?_
  intro hdis
  have stR : StepS (0 :: 24 :: 28 :: 11 :: DA) (join (join ro (SL.one σ1 X)) (SL.one (SL.del σ1 X) X5)) tag1 (SL.del (SL.del σ1 X) X5) tag11 σ11 := ((st2 []).s (by simp)).trans ((st9.mono (by decide)).trans ((st10.mono (by decide)).trans ((st11 []).s (by simp))))
  have h5A : ∃ o, SL.del σ1 X X5 = some o := ⟨_, del_some h5' (Ne.symm hne)⟩
  have dA := disj_r hdis
  have dX := disj_j hdis hne
  have stB := StepS.back (StepS.back stR hsA dA h5A) hs1 dX ⟨_, hX'⟩
  have hU3 := ((h10.keep (st11 []) (by simp)).back (r' := tag1 X5) dA h5A).back (r' := tag1 X) dX ⟨_, hX'⟩
  have r143 := RowW.back (r' := tag1 X) (RowW.back (r' := tag1 X5) (RowW.keepS r14 ((st11 []).s (C := []) (by simp)) (by simp)) dA h5A) dX ⟨_, hX'⟩
  have r173 := (r17.back (r' := tag1 X5) dA h5A).back (r' := tag1 X) dX ⟨_, hX'⟩
  rw [← join_assoc]
  have hT3 := hT1.keepS stB (by decide) (by decide)
  have hX3 := hX1.keepS stB (by decide)
  have hr3 := RowW.keepS hr1 stB (by decide)
  have h133 := h131.keepS stB (by decide)
  have hs3 := stB.sep
  generalize hτ : join (SL.one σ1 X) (join (SL.one (SL.del σ1 X) X5) σ11) = τ at hU3 r143 r173 hT3 hX3 hr3 h133 hs3
  generalize setTag (setTag tag11 X5 (tag1 X5)) X (tag1 X) = tag12 at hU3 r143 r173 hT3 hX3 hr3 h133
  rw [he0, if_neg (by simp)]
  rw [hres] at r143
  obtain ⟨q17, hq17, hg17⟩ := r173.ptr hs3 (by simp)
  cases hq17
  obtain ⟨q13, hq13, hg13⟩ := h133.ptr hs3 (by simp)
  cases hq13
  refine ⟨rs2, hg17 0 _ rfl, ?_⟩
  have hl2' := r143.len
  rw [if_neg (by rw [hl2']; simp)]
  refine ⟨rs, hg13 0 _ rfl, ?_⟩
  have hlr := hr3.len
  have hjw : j < wF.res.length := by
    rcases Nat.lt_or_ge j wF.res.length with h | h
    · exact h
    · rw [List.getElem?_eq_none h] at hpj; cases hpj
  rw [List.length_map] at hlr
  rw [if_neg (by omega)]
  obtain ⟨q1, e1, k1⟩ := RowW.cells2 (l := [p]) r143 hs3 (j := 0) (p := p) rfl
  obtain ⟨q2, e2, k2⟩ := RowW.cells2 hr3 hs3 hpj
  refine ⟨rs2, hg17 0 _ rfl, q1, e1, by decide, by rw [hl2']; simp, S p.1, p.2, k1, rs, hg13 0 _ rfl, q2, e2, by omega, by omega, S p.1, p.2, k2, ?_⟩
  refine ne84 ⟨false, rfl, ?_⟩
  unfold j52_law08_MultiWhole
  rw [if_neg (by simp), Pa.inc j (by omega)]
  exact hY _ tag12 τ hs3 hT3 hU3 hpp hi' hX3 hr3 h133 (by rw [hpr, List.length_append, hwj]; rfl) hap'
end Go.Proofs.YthfpmipeejjogaaGreatDoor.Zt

/- Several changes at once are what they are one by one, the walk: the last transaction, and the whole. -/
namespace Go.Proofs.YthfpmipeejjogaaGreatDoor.Zt
open Go Go.Proofs.YthfpmipeejjogaaGreatDoor.SL Go.Proofs.YthfpmipeejjogaaGreatDoor.G Go.Proofs.YthfpmipeejjogaaGreatDoor.Pa
set_option linter.unusedSimpArgs false
set_option linter.unusedVariables false
variable {B : World} {ro σ σ' : AH} {tag tag' : Nat → Nat}

theorem enc_small {b : Nat} {st : St} (h : InvB b st) (hb : b ≤ 2147483648) : (∀ p ∈ st, p.1.length ≤ 128 ∧ p.2.data.length ≤ 256) ∧ st.length ≤ 4294967296 := by
  have := h.len
  exact ⟨h.inv.small, by omega⟩
set_option maxRecDepth 100000 in
theorem whole_end {T U X5 X13 : Nat} {a : St} {wF : Work} {t : Txn} {os rs es : Sl} {bad : Int} {b : Nat} (g : Glob ro) (hs : SL.Sep ro σ) (hT : TreeIs tag σ 10 T wF.st) (hU : TreeIs tag σ 11 U a) (hp : a.Perm wF.st) (hi : InvB b a) (hb : b ≤ 1073741824)
    (hX : Row tag σ 29 72 ⟨some ⟨X5, 0, none⟩, 6, 6⟩ (txV t os)) (hr : RowW tag σ 34 84 2 rs (wF.res.map resV)) (h13 : Row tag σ 33 77 ⟨some ⟨X13, 0, none⟩, 3, 3⟩ [Sl.v rs, Sl.v es, vI bad]) (hol : os.len = wF.res.length) :
    j26_law08_MultiWhole B ro X5 X13 (some ⟨T, 0, none⟩) (some ⟨U, 0, none⟩) (fun r _ => r = true) σ := by
  unfold j26_law08_MultiWhole
  obtain ⟨a1, a2⟩ := enc_small hi (by omega)
  have hip := inv_perm hp hi.inv
  obtain ⟨MU, bU, hA⟩ := hU
  refine encode_ok (by decide) (by decide) (by decide) (by decide) (by decide) hA a1 a2 fun s1 tag1 σ1 st1 r1 => ?_
  have hR : ∀ x ∈ [30, 94, 1], x % 64 ≠ 10 % 64 ∧ x ≠ 6 := by decide
  obtain ⟨MT, bT, hB⟩ := hT
  refine encode_ok (by decide) (by decide) (by decide) (by decide) (by decide) (hB.keep st1 hR) hip.small (by rw [← hp.length_eq]; exact a2) fun s2 tag2 σ2 st2 r2 => ?_
  refine same_ok ((r1.keep st2 (by decide)).read st2.sep) (r2.read st2.sep) ?_
  rw [if_pos (by simpa using encS_perm hp hi.inv.keys)]
  have h5 := (hX.keep st1 (by decide)).keep st2 (by decide)
  have h3 := (h13.keep st1 (by decide)).keep st2 (by decide)
  obtain ⟨p, hp1, hg1⟩ := h3.ptr st2.sep (by simp)
  cases hp1
  obtain ⟨p, hp2, hg2⟩ := h5.ptr st2.sep (by simp [txV])
  cases hp2
  refine ⟨rs, hg1 0 _ rfl, os, hg2 4 _ rfl, ?_⟩
  have hl := hr.len
  rw [List.length_map] at hl
  rw [show decide ((rs.len : Int) = (os.len : Int)) = true from decide_eq_true (by omega)]
  unfold j30_law08_MultiWhole
  rw [if_pos rfl]
  refine awake8_ok g fun σ _ => ?_
  unfold j32_law08_MultiWhole
  rfl
set_option maxRecDepth 100000 in
theorem whole_last {T X5 b : Nat} {st : St} {t : Txn} {os : Sl} (g : Glob ro) (hs : SL.Sep ro σ) (hT : TreeIs tag σ 10 T st) (hi : InvB b st) (hb : b ≤ 1073741000) (hX : Row tag σ 29 72 ⟨some ⟨X5, 0, none⟩, 6, 6⟩ (txV t os)) (hO : OpsR ro os t.ops) (hol : t.ops.length ≤ 2199023255488) (hhl : t.home.length ≤ 4611686018427387903) :
    j3_law08_MultiWhole B ro X5 (some ⟨T, 0, none⟩) (fun r _ => r = true) σ := by
  unfold j3_law08_MultiWhole
  obtain ⟨a1, a2⟩ := enc_small hi (by omega)
  obtain ⟨M, bs, hA⟩ := hT
  have hR : ∀ x ∈ [30, 94, 1], x % 64 ≠ 10 % 64 ∧ x ≠ 6 := by decide
  refine encode_ok (by decide) (by decide) (by decide) (by decide) (by decide) hA a1 a2 fun s42 tag3 σ3 st3 r3 => ?_
  have h3 : TreeIs tag3 σ3 10 T st := ⟨M, bs, hA.keep st3 hR⟩
  have hel := encS_len hi (by omega)
  have hlen := hi.len
  have hdec := dec_encS (hi.inv3 (by omega)) (by omega)
  refine decode_ok (tag := tag3) (r := 11) g (by decide) (by decide) (by decide) (by decide) (r3.read st3.sep) (by omega) (fun hn => by rw [hdec] at hn; cases hn) fun st' hst' U tag4 σ4 st4 h4 => ?_
  rw [hdec] at hst'
  obtain rfl := Option.some.inj hst'
  rw [if_neg (by simp)]
  have h34 := h3.keepS st4 (by decide) (by decide)
  have r5 := (hX.keep st3 (by decide)).keepS st4 (by decide)
  have r42 := r3.keepS st4 (by decide)
  have hs4 := st4.sep
  refine txn_in (b := b) g hs4 (by decide) (by decide) (by decide) (by decide) (by decide) h34 hi (by omega) r5 hO hol hhl fun rs es tag5 σ5 st5 h5 r14 r15 => ?_
  refine nw_st (tag := tag5) 33 st5.sep rfl (by simp [storable, Sl.v]) fun X13 tag6 σ6 st6 r6 => ?_
  intro hdis
  obtain ⟨tX, o1, hX'⟩ := r5.tagOf
  obtain ⟨tag7, st7, bT, bW, bR⟩ := region_back hs4 ⟨_, hX'⟩ hdis (st5.trans ((st6 []).s (by simp)))
  have h7 := bT _ _ _ (h5.keep (st6 []) (by simp))
  have r147 := bW _ _ _ _ _ (RowW.keepS r14 ((st6 []).s (C := []) (by simp)) (by simp))
  have r157 := bW _ _ _ _ _ (RowW.keepS r15 ((st6 []).s (C := []) (by simp)) (by simp))
  have r137 := bR _ _ _ _ r6
  have h47 := h4.keepS st7 (by decide) (by decide)
  have r427 := r42.keepS st7 (by decide)
  have r57 := r5.keepS st7 (by decide)
  have hs7 := st7.sep
  generalize join (SL.one σ4 X5) σ6 = σ7 at h7 r147 r157 r137 h47 r427 r57 hs7
  obtain ⟨p, hp1, hg13⟩ := r137.ptr hs7 (by simp)
  cases hp1
  obtain ⟨p, hp2, hg5⟩ := r57.ptr hs7 (by simp [txV])
  cases hp2
  by_cases he : (applyE st t.home t.owner t.qn t.qb t.ops).err = 0
  · rw [if_neg (by simp [he])]
    obtain ⟨how, ho16, wF, hap, hE⟩ := apply_good he
    have hiF := applyE_inv (home := t.home) (owner := t.owner) (qn := t.qn) (qb := t.qb) (ops := t.ops) hi (by omega)
    rw [hE] at h7 r147 r137 hg13 hiF
    simp only at h7 r147 r137 hg13 hiF
    refine ⟨os, hg5 4 _ rfl, ?_⟩
    obtain ⟨l, hl1, hl2⟩ := applyL_res hap
    have hlF : wF.res.length = t.ops.length := by rw [hl1]; simpa using hl2
    let tg : Nat → Nat := fun c => if tag7 c = 14 then 34 else tag7 c
    have t0 : ∀ c, tag7 c ≠ 14 → tg c = tag7 c := fun c h => by simp only [tg]; rw [if_neg h]
    have t1 : ∀ c, tag7 c = 14 → tg c = 34 := fun c h => by simp only [tg]; rw [if_pos h]
    have g7 : TreeIs tg σ7 10 T wF.st := h7.retag fun c hc _ => t0 c (by omega)
    have g47 : TreeIs tg σ7 11 U (srt st) := h47.retag fun c hc _ => t0 c (by omega)
    have g14 : RowW tg σ7 34 84 2 rs (wF.res.map resV) := RowW.retag r147 fun c hc _ => t1 c hc
    have g13 := Row.retag r137 fun c hc _ => (t0 c (by omega)).trans hc
    have g5 := Row.retag r57 fun c hc _ => (t0 c (by omega)).trans hc
    suffices ∀ (m j : Nat) (a : St) (w : Work) (tag8 : Nat → Nat) (σ8 : AH), j + m = t.ops.length → SL.Sep ro σ8 → TreeIs tag8 σ8 10 T wF.st → TreeIs tag8 σ8 11 U a → a.Perm w.st → InvB (b + 16 * j) a → Row tag8 σ8 29 72 ⟨some ⟨X5, 0, none⟩, 6, 6⟩ (txV t os) → RowW tag8 σ8 34 84 2 rs (wF.res.map resV) → Row tag8 σ8 33 77 ⟨some ⟨X13, 0, none⟩, 3, 3⟩ [Sl.v rs, Sl.v es, vI (-1)] →
        w.res.length = j → applyL t.home t.owner t.qn t.qb (t.ops.drop j) j w = .inr wF → lfpD (l38_law08_MultiWhole B ro X5 X13 (some ⟨T, 0, none⟩) (some ⟨U, 0, none⟩) os fun r _ => r = true) (j : Int) σ8 from
      this _ 0 (srt st) ⟨srt st, [], []⟩ tg σ7 (Nat.zero_add _) hs7 g7 g47 (List.Perm.refl _) (invB_srt hi) g5 g14 g13 rfl hap
    intro m
    induction m with
    | zero =>
      intro j a w tag8 σ8 hj hs8 hT8 hU8 hp8 hi8 hX8 hr8 h138 hw8 hap8
      rw [List.drop_of_length_le (by omega)] at hap8
      unfold applyL at hap8
      cases hap8
      refine lfpD.intro ?_
      unfold l38_law08_MultiWhole
      rw [if_neg (by have := hO.1; omega)]
      exact whole_end g hs8 hT8 hU8 hp8 hi8 (by omega) hX8 hr8 h138 (by rw [hO.1, hlF])
    | succ m ih =>
      intro j a w tag8 σ8 hj hs8 hT8 hU8 hp8 hi8 hX8 hr8 h138 hw8 hap8
      have hjl : j < t.ops.length := by omega
      rw [List.drop_eq_getElem_cons hjl] at hap8
      refine lfpD.intro ?_
      refine whole_one (b := b + 16 * j) g hs8 hT8 hU8 hp8 hi8 (by omega) hX8 hr8 h138 hO (List.getElem?_eq_getElem hjl) (by omega) hhl how hw8 hap8 fun a' tag9 σ9 hs9 hT9 hU9 hp9 hi9 hX9 hr9 h139 hw9 hap9 => ?_
      exact ih (j + 1) a' _ tag9 σ9 (by omega) hs9 hT9 hU9 hp9 (by rw [show b + 16 * (j + 1) = b + 16 * j + 16 by omega]; exact hi9) hX9 hr9 h139 hw9 hap9
  · rw [if_pos he]
    obtain ⟨e1, e2, e3⟩ := apply_bad he
    rw [e1] at h7
    rw [e2] at r147
    rw [e3] at r157
    obtain ⟨M7, bs7, hA7⟩ := h7
    refine encode_ok (by decide) (by decide) (by decide) (by decide) (by decide) hA7 a1 a2 fun s72 tag8 σ8 st8 r8 => ?_
    refine same_ok ((r427.keep st8 (by decide)).read st8.sep) (r8.read st8.sep) ?_
    rw [if_pos (by simp)]
    have h138 := r137.keep st8 (by decide)
    obtain ⟨p, hp3, hg8⟩ := h138.ptr st8.sep (by simp)
    cases hp3
    have l1 := r147.len
    have l2 := r157.len
    refine ⟨rs, hg8 0 _ rfl, ?_⟩
    rw [show decide ((rs.len : Int) = 0) = true from decide_eq_true (by rw [l1]; rfl)]
    unfold j17_law08_MultiWhole
    rw [if_pos rfl]
    refine ⟨es, hg8 1 _ rfl, ?_⟩
    rw [show decide ((es.len : Int) = 0) = true from decide_eq_true (by rw [l2]; rfl)]
    unfold j19_law08_MultiWhole
    rw [if_pos rfl]
    refine awake8_ok g fun σ _ => ?_
    unfold j21_law08_MultiWhole
    rfl
set_option maxRecDepth 100000 in
theorem whole_ok {a0 a1 os : Sl} {hs : List Str} {txs : List Txn} {t : Txn} (g : Glob ro) (hrd : SL.Read ro (fun _ => none) a0 (hs.map Pa.vS)) (hhs : hs.length ≤ 1048576) (hhh : ∀ h ∈ hs, h.length ≤ 4611686018427387903) (hT : TxsR ro a1 txs) (hl : txs.length ≤ 1048576) (hO : OpsR ro os t.ops) (hol : t.ops.length ≤ 2199023255488) (hhl : t.home.length ≤ reachBytes) :
    c_law08_MultiWhole B ro a0 a1 (S t.home) t.owner t.qn t.qb os t.sweep σ fun r _ => r = true := by
  refine law08_MultiWhole_ok fun hsep => ?_
  unfold f_law08_MultiWhole
  refine nw_cells (tag := fun _ => 0) 29 hsep fun X5 tag1 σ1 st1 r1 => ?_
  refine start_ok (tag := tag1) (hs := hs) 10 g (by decide) (by decide) (by decide) (fun tag' σ' st => hrd.keep) (by omega) hhh fun T tag2 σ2 st2 h2 hi2 => ?_
  rw [if_neg (by simp)]
  have r2 := r1.keepC st2 (by decide)
  have hal : a1.len = txs.length := hT.1
  suffices ∀ (m j : Nat) (st : St) (tag7 : Nat → Nat) (σ7 : AH), j + m = txs.length → SL.Sep ro σ7 → TreeIs tag7 σ7 10 T st → Row tag7 σ7 29 72 ⟨some ⟨X5, 0, none⟩, 6, 6⟩ (txV t os) → InvB (hs.length + 16 * j) st → lfpD (l85_law08_MultiWhole B ro a1 X5 (some ⟨T, 0, none⟩) fun r _ => r = true) (j : Int) σ7 from
    this _ 0 _ tag2 σ2 (Nat.zero_add _) st2.sep h2 r2 hi2
  intro m
  induction m with
  | zero =>
    intro j st tag7 σ7 hj hs7 h7 r7 hi7
    refine lfpD.intro ?_
    unfold l85_law08_MultiWhole
    rw [if_neg (by omega)]
    exact whole_last g hs7 h7 hi7 (by omega) r7 hO hol (Nat.le_trans hhl (by decide))
  | succ m ih =>
    intro j st tag7 σ7 hj hs7 h7 r7 hi7
    have hjl : j < txs.length := by omega
    obtain ⟨q, os', hq, hc, hth, hO', hol'⟩ := hT.2 j txs[j] (List.getElem?_eq_getElem hjl)
    generalize txs[j] = t' at hc hth hO' hol'
    refine lfpD.intro ?_
    unfold l85_law08_MultiWhole
    rw [if_pos (by omega)]
    refine ⟨q, hq, by omega, by omega, S t'.home, t'.owner, t'.qn, t'.qb, os', t'.sweep, by rw [Int.toNat_natCast]; exact hc σ7, ?_⟩
    refine nw_st (tag := tag7) 29 hs7 rfl (by simp [storable, Sl.v]) fun X tag8 σ8 st8 r8 => ?_
    have hs8 := (st8 []).sep
    refine txn_in (b := hs.length + 16 * j) (t := t') g hs8 (by decide) (by decide) (by decide) (by decide) (by decide) (h7.keep (st8 []) (by simp)) hi7 (by omega) r8 hO' hol' (Nat.le_trans hth (by decide)) fun rs es tag9 σ9 st9 h9 _ _ => ?_
    intro hdis
    obtain ⟨tX, o1, hX'⟩ := r8.tagOf
    obtain ⟨tag10, st10, bT, bW, bR⟩ := region_back hs8 ⟨_, hX'⟩ hdis st9
    rw [Pa.inc j (by omega)]
    exact ih (j + 1) _ tag10 _ (by omega) st10.sep (bT _ _ _ h9) ((r7.keep (st8 []) (by simp)).keepS st10 (by decide)) (by rw [show hs.length + 16 * (j + 1) = hs.length + 16 * j + 16 by omega]; exact applyE_inv hi7 (by omega))
end Go.Proofs.YthfpmipeejjogaaGreatDoor.Zt

/- ZtreeShape: the script as it stands in memory. -/
namespace Go.Proofs.YthfpmipeejjogaaGreatDoor.Zt
open Go Go.Proofs.YthfpmipeejjogaaGreatDoor.SL Go.Proofs.YthfpmipeejjogaaGreatDoor.G Go.Proofs.YthfpmipeejjogaaGreatDoor.Pa
set_option linter.unusedSimpArgs false
set_option linter.unusedVariables false

theorem c5 : Tryz.prog.cellsOf 5 = 1 := by kernel_rfl
theorem c3 : Tryz.prog.cellsOf 3 = 1 := by kernel_rfl
theorem c9 : Tryz.prog.cellsOf 9 = 1 := by kernel_rfl
theorem c30 : Tryz.prog.cellsOf 30 = 1 := by kernel_rfl
theorem c4 : Tryz.prog.cellsOf 4 = 1 := by kernel_rfl
theorem b5 : Tryz.prog.bytesOf 5 = 1 := by kernel_rfl
theorem u4b : Tryz.prog.underlying 4 = some .bool := by kernel_rfl
theorem u3' : Tryz.prog.underlying 3 = some (.int .i64) := by kernel_rfl
theorem u4' : Tryz.prog.underlying 4 = some .bool := by kernel_rfl

theorem bytes_of {W : World} {H : Type} {enc : TypeId × Value → H} {a : Option Addr} {len cap : Nat} (h : Arg Tryz.prog W H enc 30 [.slice a len cap]) : ∃ d : Str, d.length ≤ 140737488351232 ∧ SL.Read (all W) (fun _ => none) ⟨a, len, cap⟩ (d.map vU) := by
  rcases h.slice u30 with ⟨rfl, rfl, rfl⟩ | ⟨x, rfl, hl, hb, hel⟩
  · exact ⟨[], by decide, rfl, fun _ => rfl, fun p h => by cases h⟩
  · rw [c5] at hel
    rw [b5, Nat.mul_one] at hb
    have key : ∀ j : Nat, ∃ c : UInt8, j < len → W.cell? (x.add j) = some (vU c) := fun j => by
      by_cases hj : j < len
      · obtain ⟨cs, h1, h2, h3⟩ := hel j hj
        match cs, h1 with
        | [u], _ =>
          obtain ⟨c, rfl⟩ := h3.u8 u5
          have := h2 0 (by omega)
          rw [Nat.mul_one, add_zero] at this
          exact ⟨c, fun _ => this⟩
      · exact ⟨0, fun h => absurd h hj⟩
    obtain ⟨f, hf⟩ := Classical.axiomOfChoice key
    refine ⟨(List.range len).map f, by simp [reachBytes] at hb ⊢; omega, by simp, (fun h => by cases h), fun p hp i v hv => ?_⟩
    cases hp
    have hi : i < len := by
      rcases Nat.lt_or_ge i len with h | h
      · exact h
      · rw [List.getElem?_eq_none (by simpa using h)] at hv; cases hv
    rw [List.getElem?_map, List.getElem?_map, List.getElem?_range hi] at hv
    cases hv
    exact all_cell _ (hf i hi)

end Go.Proofs.YthfpmipeejjogaaGreatDoor.Zt

/- The scripts of several changes, as they stand in memory. -/
namespace Go.Proofs.YthfpmipeejjogaaGreatDoor.Zt
open Go Go.Proofs.YthfpmipeejjogaaGreatDoor.SL Go.Proofs.YthfpmipeejjogaaGreatDoor.G Go.Proofs.YthfpmipeejjogaaGreatDoor.Pa
set_option linter.unusedSimpArgs false
set_option linter.unusedVariables false

theorem c82 : Tryz.prog.cellsOf 82 = 6 := by kernel_rfl
theorem b82 : Tryz.prog.bytesOf 82 = 64 := by kernel_rfl
theorem c72 : Tryz.prog.cellsOf 72 = 6 := by kernel_rfl
theorem c69 : Tryz.prog.cellsOf 69 = 2 := by kernel_rfl
theorem c70 : Tryz.prog.cellsOf 70 = 1 := by kernel_rfl
theorem u70 : Tryz.prog.underlying 70 = some (.slice 82) := by kernel_rfl
theorem u67 : Tryz.prog.underlying 67 = some (.slice 72) := by kernel_rfl
theorem u82 : ∃ fs, Tryz.prog.underlying 82 = some (.struct fs) ∧ fs.toList.map (fun f => (f.type, f.offset)) = [(3, 0), (9, 1), (30, 2), (3, 3), (4, 4), (4, 5)] := ⟨_, Tryz.underlying82, rfl⟩
theorem u69 : ∃ fs, Tryz.prog.underlying 69 = some (.struct fs) ∧ fs.toList.map (fun f => (f.type, f.offset)) = [(3, 0), (3, 1)] := ⟨_, Tryz.underlying69, rfl⟩
theorem u72 : ∃ fs, Tryz.prog.underlying 72 = some (.struct fs) ∧ fs.toList.map (fun f => (f.type, f.offset)) = [(9, 0), (3, 1), (69, 2), (70, 4), (4, 5)] := ⟨_, Tryz.underlying72, rfl⟩
theorem fld {W : World} {H : Type} {enc : TypeId × Value → H} {t : TypeId} {cs : List Value} {L : List (TypeId × Nat)} (h : Arg Tryz.prog W H enc t cs) (hu : ∃ fs, Tryz.prog.underlying t = some (.struct fs) ∧ fs.toList.map (fun f : Field => (f.type, f.offset)) = L) :
    cs.length = Tryz.prog.cellsOf t ∧ ∀ (i : Nat) (t' : TypeId) (o : Nat), L[i]? = some (t', o) → Arg Tryz.prog W H enc t' ((cs.drop o).take (Tryz.prog.cellsOf t')) := by
  obtain ⟨fs, hu, hfs⟩ := hu
  obtain ⟨hl, hel⟩ := h.struct hu
  refine ⟨hl, fun i t' o hi => ?_⟩
  rw [← hfs, List.getElem?_map] at hi
  obtain ⟨f, hf, e⟩ := Option.map_eq_some_iff.1 hi
  have := hel i f hf
  simp only [Prod.mk.injEq] at e
  rw [e.1, e.2] at this
  exact this
theorem isSl {W : World} {H : Type} {enc : TypeId × Value → H} {t e : TypeId} {v : Value} (hu : Tryz.prog.underlying t = some (.slice e)) (h : Arg Tryz.prog W H enc t [v]) : ∃ a len cap, v = .slice a len cap := by
  obtain ⟨fuel, d, ps, hf, _⟩ := h
  rcases Go.Deep.open_slice hu hf with ⟨e, _⟩ | ⟨x, l, c, _, _, _, _, e, _⟩
  · simp at e; exact ⟨_, _, _, e⟩
  · simp at e; exact ⟨_, _, _, e⟩
set_option maxRecDepth 100000 in
theorem mop_of {W : World} {H : Type} {enc : TypeId × Value → H} {cs : List Value} (h : Arg Tryz.prog W H enc 82 cs) :
    ∃ (o : MOp) (ds : Sl), cs = opV o ds ∧ o.data.length ≤ 140737488351232 ∧ SL.Read (all W) (fun _ => none) ds (o.data.map vU) := by
  obtain ⟨hl, get⟩ := fld h u82
  rw [c82] at hl
  match cs, hl with
  | [v0, v1, v2, v3, v4, v5], _ =>
    have a0 := get 0 _ _ rfl
    have a1 := get 1 _ _ rfl
    have a2 := get 2 _ _ rfl
    have a3 := get 3 _ _ rfl
    have a4 := get 4 _ _ rfl
    have a5 := get 5 _ _ rfl
    rw [c3] at a0 a3
    rw [c9] at a1
    rw [c30] at a2
    rw [c4] at a4 a5
    obtain ⟨x0, rfl⟩ := Arg.i64 u3' a0
    obtain ⟨x1, rfl⟩ := Arg.i64 u3' a3
    obtain ⟨s, rfl, _⟩ := Arg.str u9 a1
    obtain ⟨b, rfl⟩ := Arg.bool u4' a4
    obtain ⟨b2, rfl⟩ := Arg.bool u4' a5
    obtain ⟨a, len, cap, rfl⟩ := isSl u30 a2
    obtain ⟨d, h1, h2⟩ := bytes_of a2
    exact ⟨⟨x0, L s, d, x1, b, b2⟩, ⟨a, len, cap⟩, by simp [opV, Sl.v], h1, h2⟩
set_option maxRecDepth 100000 in
theorem mops_of {W : World} {H : Type} {enc : TypeId × Value → H} {a : Option Addr} {len cap : Nat} (h : Arg Tryz.prog W H enc 70 [.slice a len cap]) :
    ∃ os : List MOp, OpsR (all W) ⟨a, len, cap⟩ os ∧ os.length ≤ 2199023255488 := by
  rcases h.slice u70 with ⟨rfl, rfl, rfl⟩ | ⟨x, rfl, hl, hb, hel⟩
  · exact ⟨[], ⟨rfl, fun j o h => by cases h⟩, by decide⟩
  · rw [c82] at hel
    rw [b82] at hb
    have key : ∀ j : Nat, ∃ q : MOp × Sl, j < len → (∀ σ, cellsAt (all W) σ (x.add (j * 6)) 0 (opV q.1 q.2)) ∧ q.1.data.length ≤ 140737488351232 ∧ SL.Read (all W) (fun _ => none) q.2 (q.1.data.map vU) := fun j => by
      by_cases hj : j < len
      · obtain ⟨cs, h1, h2, h3⟩ := hel j hj
        obtain ⟨o, ds, rfl, h4, h5⟩ := mop_of h3
        refine ⟨(o, ds), fun _ => ⟨fun σ => cellsAt_of 0 fun i v hv => ?_, h4, h5⟩⟩
        have hi : i < 6 := by
          rcases Nat.lt_or_ge i 6 with h | h
          · exact h
          · rw [List.getElem?_eq_none (by simpa [opV] using h)] at hv; cases hv
        have := h2 i hi
        rw [hv] at this
        rw [Nat.zero_add]
        exact all_cell σ this
      · exact ⟨(⟨0, [], [], 0, false, false⟩, ⟨none, 0, 0⟩), fun h => absurd h hj⟩
    obtain ⟨f, hf⟩ := Classical.axiomOfChoice key
    refine ⟨(List.range len).map fun j => (f j).1, ⟨by simp, fun j o ho => ?_⟩, by simp [reachBytes] at hb ⊢; omega⟩
    have hj : j < len := by
      rcases Nat.lt_or_ge j len with h | h
      · exact h
      · rw [List.getElem?_eq_none (by simpa using h)] at ho; cases ho
    rw [List.getElem?_map, List.getElem?_range hj] at ho
    cases ho
    obtain ⟨h1, h2, h3⟩ := hf j hj
    exact ⟨x, (f j).2, rfl, h1, h3, h2⟩
set_option maxRecDepth 100000 in
theorem txn_of {W : World} {H : Type} {enc : TypeId × Value → H} {cs : List Value} (h : Arg Tryz.prog W H enc 72 cs) :
    ∃ (t : Txn) (os : Sl), cs = txV t os ∧ t.home.length ≤ reachBytes ∧ OpsR (all W) os t.ops ∧ t.ops.length ≤ 2199023255488 := by
  obtain ⟨hl, get⟩ := fld h u72
  rw [c72] at hl
  match cs, hl with
  | [v0, v1, v2, v3, v4, v5], _ =>
    have a0 := get 0 _ _ rfl
    have a1 := get 1 _ _ rfl
    have a2 := get 2 _ _ rfl
    have a3 := get 3 _ _ rfl
    have a4 := get 4 _ _ rfl
    rw [c9] at a0
    rw [c3] at a1
    rw [c69] at a2
    rw [c70] at a3
    rw [c4] at a4
    obtain ⟨s, rfl, hsl⟩ := Arg.str u9 a0
    obtain ⟨x1, rfl⟩ := Arg.i64 u3' a1
    obtain ⟨_, get2⟩ := fld a2 u69
    have q0 := get2 0 _ _ rfl
    have q1 := get2 1 _ _ rfl
    rw [c3] at q0 q1
    obtain ⟨y0, rfl⟩ := Arg.i64 u3' q0
    obtain ⟨y1, rfl⟩ := Arg.i64 u3' q1
    obtain ⟨a, len, cap, rfl⟩ := isSl u70 a3
    obtain ⟨b, rfl⟩ := Arg.bool u4' a4
    obtain ⟨os, h1, h2⟩ := mops_of a3
    exact ⟨⟨L s, x1, y0, y1, os, b⟩, ⟨a, len, cap⟩, by simp [txV, Sl.v], by simpa [L_len] using hsl, h1, h2⟩
theorem u25 : Tryz.prog.underlying 25 = some (.slice 9) := by kernel_rfl
theorem strings_of {W : World} {H : Type} {enc : TypeId × Value → H} {a : Option Addr} {len cap : Nat} (h : Arg Tryz.prog W H enc 25 [.slice a len cap]) : ∃ hs : List Str, hs.length = len ∧ (∀ x ∈ hs, x.length ≤ reachBytes) ∧ SL.Read (all W) (fun _ => none) ⟨a, len, cap⟩ (hs.map Pa.vS) := by
  rcases h.slice u25 with ⟨rfl, rfl, rfl⟩ | ⟨x, rfl, hl, hb, hel⟩
  · exact ⟨[], rfl, by simp, rfl, fun _ => rfl, fun p h => by cases h⟩
  · rw [c9] at hel
    have key : ∀ j : Nat, ∃ c : Str, j < len → W.cell? (x.add j) = some (Pa.vS c) ∧ c.length ≤ reachBytes := fun j => by
      by_cases hj : j < len
      · obtain ⟨cs, h1, h2, h3⟩ := hel j hj
        match cs, h1 with
        | [u], _ =>
          obtain ⟨c, rfl, hc⟩ := Arg.str u9 h3
          have := h2 0 (by omega)
          rw [Nat.mul_one, add_zero] at this
          exact ⟨L c, fun _ => ⟨by rw [this]; simp [Pa.vS], by rw [L_len]; exact hc⟩⟩
      · exact ⟨[], fun h => absurd h hj⟩
    obtain ⟨f, hf⟩ := Classical.axiomOfChoice key
    refine ⟨(List.range len).map f, by simp, fun y hy => ?_, by simp, (fun h => by cases h), fun p hp i v hv => ?_⟩
    · obtain ⟨j, hj, rfl⟩ := List.mem_map.1 hy
      exact (hf j (List.mem_range.1 hj)).2
    · cases hp
      have hi : i < len := by
        rcases Nat.lt_or_ge i len with h | h
        · exact h
        · rw [List.getElem?_eq_none (by simpa using h)] at hv; cases hv
      rw [List.getElem?_map, List.getElem?_map, List.getElem?_range hi] at hv
      cases hv
      exact all_cell _ (hf i hi).1
set_option maxRecDepth 100000 in
theorem txns_of {W : World} {H : Type} {enc : TypeId × Value → H} {a : Option Addr} {len cap : Nat} (h : Arg Tryz.prog W H enc 67 [.slice a len cap]) :
    ∃ ts : List Txn, TxsR (all W) ⟨a, len, cap⟩ ts := by
  rcases h.slice u67 with ⟨rfl, rfl, rfl⟩ | ⟨x, rfl, hl, hb, hel⟩
  · exact ⟨[], ⟨rfl, fun j o h => by cases h⟩⟩
  · rw [c72] at hel
    have key : ∀ j : Nat, ∃ q : Txn × Sl, j < len → (∀ σ, cellsAt (all W) σ (x.add (j * 6)) 0 (txV q.1 q.2)) ∧ q.1.home.length ≤ reachBytes ∧ OpsR (all W) q.2 q.1.ops ∧ q.1.ops.length ≤ 2199023255488 := fun j => by
      by_cases hj : j < len
      · obtain ⟨cs, h1, h2, h3⟩ := hel j hj
        obtain ⟨o, ds, rfl, h4, h5⟩ := txn_of h3
        refine ⟨(o, ds), fun _ => ⟨fun σ => cellsAt_of 0 fun i v hv => ?_, h4, h5⟩⟩
        have hi : i < 6 := by
          rcases Nat.lt_or_ge i 6 with h | h
          · exact h
          · rw [List.getElem?_eq_none (by simpa [txV] using h)] at hv; cases hv
        have := h2 i hi
        rw [hv] at this
        rw [Nat.zero_add]
        exact all_cell σ this
      · exact ⟨(⟨[], 0, 0, 0, [], false⟩, ⟨none, 0, 0⟩), fun h => absurd h hj⟩
    obtain ⟨f, hf⟩ := Classical.axiomOfChoice key
    refine ⟨(List.range len).map fun j => (f j).1, ⟨by simp, fun j o ho => ?_⟩⟩
    have hj : j < len := by
      rcases Nat.lt_or_ge j len with h | h
      · exact h
      · rw [List.getElem?_eq_none (by simpa using h)] at ho; cases ho
    rw [List.getElem?_map, List.getElem?_range hj] at ho
    cases ho
    obtain ⟨h1, h2, h3, h4⟩ := hf j hj
    exact ⟨x, (f j).2, rfl, h1, h2, h3, h4⟩
end Go.Proofs.YthfpmipeejjogaaGreatDoor.Zt
