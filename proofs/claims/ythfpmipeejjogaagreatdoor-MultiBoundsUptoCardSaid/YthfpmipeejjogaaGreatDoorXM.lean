/- MuBd, ZtR, MuR -/
import Derived.Test.YthfpmipeejjogaaGreatDoorXL
/- No transaction leaves more than the quota, the walk. -/
namespace Go.Proofs.YthfpmipeejjogaaGreatDoor.Zt
open Go Go.Proofs.YthfpmipeejjogaaGreatDoor.SL Go.Proofs.YthfpmipeejjogaaGreatDoor.G Go.Proofs.YthfpmipeejjogaaGreatDoor.Pa
set_option linter.unusedSimpArgs false
set_option linter.unusedVariables false
variable {B : World} {ro σ σ' : AH} {tag tag' : Nat → Nat}

set_option maxRecDepth 100000 in
theorem bounds_ok {home : Str} {qn qb : Int} {a2 : Sl} {txs : List Txn} (g : Glob ro) (hT : TxsR ro a2 txs) (hl : txs.length ≤ 1048576) (hhl : home.length ≤ reachBytes) :
    c_law08_MultiBounds B ro (S home) qn qb a2 σ fun r _ => r = true := by
  have hhl' : home.length ≤ 4611686018427387903 := Nat.le_trans hhl (by decide)
  refine law08_MultiBounds_ok fun hs => ?_
  unfold f_law08_MultiBounds
  refine nw_cells (tag := fun _ => 0) 29 hs fun X4 tag1 σ1 st1 r1 => ?_
  refine nw_cells (tag := tag1) 22 (st1 []).sep fun X13 tag2 σ2 st2 r2 => ?_
  refine start_ok (tag := tag2) (hs := [home]) 10 g (by decide) (by decide) (by decide) (fun tag' σ' st => (r2.keepC st (by decide)).read st.sep) (by simp) (by simpa using hhl') fun T tag3 σ3 st3 h3 hi3 => ?_
  rw [if_neg (by simp)]
  have r13 := (r1.keep (st2 []) (by simp)).keepC st3 (by decide)
  refine nw_cells (tag := tag3) 22 st3.sep fun X19 tag4 σ4 st4 r4 => ?_
  have r14 := r13.keep (st4 []) (by simp)
  obtain ⟨M4, bs4, hA4⟩ := h3.keep (st4 []) (by simp)
  have hlen := hi3.len
  refine usage_ok g (by decide) (by decide) hA4 hi3.inv (by simp at hlen; omega) (hs := [home]) r4 (by decide) (by simpa using hhl') (by simp) fun tag5 σ5 st5 => ?_
  have h5 : TreeIs tag5 σ5 10 T (startE [home]) := TreeIs.keepS ⟨M4, bs4, hA4⟩ st5 (by decide) (by decide)
  have r15 := r14.keepS st5 (by decide)
  have eu : usages (startE [home]) [home] = usage (startE [home]) home := by simp [usages]
  rw [eu]
  generalize startE [home] = st at h5 hi3 eu hlen
  refine nw_st (tag := tag5) 22 st5.sep rfl (by simp [storable]) fun X8 tag6 σ6 st6 r6 => ?_
  have r16 := r15.keep (st6 []) (by simp)
  have h6 := h5.keep (st6 []) (by simp)
  obtain ⟨p, hp, hg⟩ := r6.ptr (st6 []).sep (by simp)
  cases hp
  obtain ⟨p, hp, hg1⟩ := r16.ptr (st6 []).sep (by simp)
  cases hp
  have main : bnd st home qn qb → j9_law08_MultiBounds B ro (S home) a2 X4 (some ⟨T, 0, none⟩) (fun r _ => r = true) false σ6 := by
    intro hbn
    unfold j9_law08_MultiBounds
    rw [if_neg (by simp)]
    have hal : a2.len = txs.length := hT.1
    suffices ∀ (m j : Nat) (st : St) (tag7 : Nat → Nat) (σ7 : AH), j + m = txs.length → SL.Sep ro σ7 → TreeIs tag7 σ7 10 T st → Row tag7 σ7 29 69 ⟨some ⟨X4, 0, none⟩, 2, 2⟩ [vI qn, vI qb] → InvB (1 + 16 * j) st → bnd st home qn qb → lfpD (l14_law08_MultiBounds B ro (S home) a2 X4 (some ⟨T, 0, none⟩) fun r _ => r = true) (j : Int) σ7 from
      this _ 0 st tag6 σ6 (Nat.zero_add _) (st6 []).sep h6 r16 hi3 hbn
    intro m
    induction m with
    | zero =>
      intro j st tag7 σ7 hj hs7 h7 r7 hi7 hb7
      refine lfpD.intro ?_
      unfold l14_law08_MultiBounds
      rw [if_neg (by omega)]
      unfold j12_law08_MultiBounds
      exact awake8_ok g fun σ _ => rfl
    | succ m ih =>
      intro j st tag7 σ7 hj hs7 h7 r7 hi7 hb7
      have hjl : j < txs.length := by omega
      obtain ⟨q, os, hq, hc, hth, hO, hol⟩ := hT.2 j txs[j] (List.getElem?_eq_getElem hjl)
      generalize txs[j] = t at hc hth hO hol
      refine lfpD.intro ?_
      unfold l14_law08_MultiBounds
      rw [if_pos (by omega)]
      refine ⟨q, hq, by omega, by omega, S t.home, t.owner, t.qn, t.qb, os, t.sweep, by rw [Int.toNat_natCast]; exact hc σ7, ?_⟩
      refine nw_st (tag := tag7) 29 hs7 rfl (by simp [storable, Sl.v]) fun X tag8 σ8 st8 r8 => ?_
      have hs8 := (st8 []).sep
      have h8 := h7.keep (st8 []) (by simp)
      have r78 := r7.keep (st8 []) (by simp)
      obtain ⟨tX, o1, hX⟩ := r8.tagOf
      obtain ⟨t4, o2, h4⟩ := r78.tagOf
      have hne : X ≠ X4 := fun e => by
        rcases r8 with ⟨h, _⟩ | ⟨b, cs, ha, _, hb, _⟩
        · cases h
        · cases ha
          rcases r78 with ⟨h, _⟩ | ⟨b, cs', ha, _, hb', _⟩
          · cases h
          · cases ha
            rw [e, hb'] at hb; cases hb
      refine lent_two X X4 ?_
      rw [join_assoc]
      have hsA : SL.Sep (join ro (SL.one σ8 X)) (SL.del σ8 X) := hs8.lent
      have hsB := hsA.lent (b := X4)
      have hA := h8.del' tX (by decide) (by decide) (by decide) (by decide) (b := X)
      have hB := hA.del' t4 (by decide) (by decide) (by decide) (by decide) (b := X4)
      have r84 : Row tag8 (SL.del σ8 X) 29 69 ⟨some ⟨X4, 0, none⟩, 2, 2⟩ [vI qn, vI qb] := by
        rcases r78 with ⟨h, _⟩ | ⟨b, cs, ha, ht, hb, hx⟩
        · cases h
        · cases ha
          exact .inr ⟨X4, cs, rfl, ht, del_some hb (Ne.symm hne), hx⟩
      have c4 : ∀ τ i v, [vI qn, vI qb][i]? = some v → acell (join (join ro (SL.one σ8 X)) (SL.one (SL.del σ8 X) X4)) τ ((⟨X4, 0, none⟩ : Addr).add i) = some v := fun τ i v hv => by
        have := r84.lend hsA (τ := τ) hv
        rwa [Nat.mul_one] at this
      have cX : ∀ τ i v, (txV t os)[i]? = some v → acell (join (join ro (SL.one σ8 X)) (SL.one (SL.del σ8 X) X4)) τ ((⟨X, 0, none⟩ : Addr).add i) = some v := fun τ i v hv => by
        have := r8.lend hs8 (τ := fun _ => none) hv
        rw [Nat.mul_one] at this
        exact acell_ro this
      refine ⟨t.owner, cX _ 1 _ rfl, qn, qb, cellsAt_of 0 fun i v hv => by rw [Nat.zero_add]; exact c4 _ i v hv, os, cX _ 4 _ rfl, ?_⟩
      refine copied_ok (tag := tag8) hO.ro'.ro' hol fun s9 tag9 σ9 st9 ho9 => ?_
      have h9 := hB.keepS st9 (by decide) (by decide)
      refine apply_ok (b := 1 + 16 * j) (q := 24) (glob_lent (glob_lent g)) (by decide) (by decide) (by decide) (by decide) (by decide) (by decide) h9 hi7 (by omega) ho9 hO.data hhl' fun rs es tag10 σ10 st10 h10 _ _ => ?_
      intro hdis
      have st810 : StepS (0 :: 24 :: 28 :: 10 :: DA) (join (join ro (SL.one σ8 X)) (SL.one (SL.del σ8 X) X4)) tag8 (SL.del (SL.del σ8 X) X4) tag10 σ10 := (st9.mono (by decide)).trans (st10.mono (by decide))
      have hX4 : ∃ o, SL.del σ8 X X4 = some o := ⟨_, del_some h4 (Ne.symm hne)⟩
      have stA := StepS.back st810 hsA (disj_r hdis) hX4
      have hdX := disj_j hdis hne
      have stB := StepS.back stA hs8 hdX ⟨_, hX⟩
      have hT1 := (h10.back (r' := tag8 X4) (disj_r hdis) hX4).back (r' := tag8 X) hdX ⟨_, hX⟩
      rw [← join_assoc]
      have r11 := r78.keepS stB (by decide)
      generalize hτ : join (SL.one σ8 X) (join (SL.one (SL.del σ8 X) X4) σ10) = τ at stB hT1 r11
      generalize setTag (setTag tag10 X4 (tag8 X4)) X (tag8 X) = tag11 at stB hT1 r11
      have hi11 := applyE_inv (home := home) (owner := t.owner) (qn := qn) (qb := qb) (ops := t.ops) hi7 (by omega)
      have hb11 := bnd_apply (owner := t.owner) (ops := t.ops) hb7
      generalize (applyE st home t.owner qn qb t.ops).st = st' at hT1 hi11 hb11
      have next : ∀ tag12 σ12, StepS [0, 2, 3, 4, 20, 22] ro tag11 τ tag12 σ12 → j30_law08_MultiBounds B ro (S home) a2 X4 (some ⟨T, 0, none⟩) (j : Int) (fun r _ => r = true) (lfpD (l14_law08_MultiBounds B ro (S home) a2 X4 (some ⟨T, 0, none⟩) fun r _ => r = true)) false σ12 := fun tag12 σ12 st12 => by
        unfold j30_law08_MultiBounds
        rw [if_neg (by simp), Pa.inc j (by omega)]
        exact ih (j + 1) st' tag12 σ12 (by omega) st12.sep (hT1.keepS st12 (by decide) (by decide)) (r11.keepS st12 (by decide)) (by rw [show 1 + 16 * (j + 1) = 1 + 16 * j + 16 by omega]; exact hi11) hb11
      refine nw_cells (tag := tag11) 22 stB.sep fun X51 tag12 σ12 st12 r12 => ?_
      obtain ⟨M12, bs12, hA12⟩ := hT1.keep (st12 []) (by simp)
      have hlen' := hi11.len
      refine usage_ok g (by decide) (by decide) hA12 hi11.inv (by omega) (hs := [home]) r12 (by decide) (by simpa using hhl') (by simp) fun tag13 σ13 st13 => ?_
      have eu' : usages st' [home] = usage st' home := by simp [usages]
      rw [eu']
      have r13 := (r11.keep (st12 []) (by simp)).keepS st13 (by decide)
      refine nw_st (tag := tag13) 22 st13.sep rfl (by simp [storable]) fun X11 tag14 σ14 st14 r14 => ?_
      have r24 := r13.keep (st14 []) (by simp)
      have st1114 : StepS [0, 2, 3, 4, 20, 22] ro tag11 τ tag14 σ14 := ((st12 []).s (by simp)).trans ((st13.mono (by decide)).trans ((st14 []).s (by simp)))
      obtain ⟨p1, hp1, hgA⟩ := r14.ptr (st14 []).sep (by simp)
      cases hp1
      obtain ⟨p2, hp2, hgB⟩ := r24.ptr (st14 []).sep (by simp)
      cases hp2
      refine ⟨_, hgA 0 _ rfl, qn, hgB 0 _ rfl, ?_⟩
      rw [if_neg (by have := hb11.1; omega)]
      refine ⟨_, hgA 1 _ rfl, qb, hgB 1 _ rfl, ?_⟩
      rw [show decide (qb < ((usage st' home).2 : Int)) = false from decide_eq_false (by have := hb11.2; omega)]
      exact next tag14 σ14 st1114
  have awk : j9_law08_MultiBounds B ro (S home) a2 X4 (some ⟨T, 0, none⟩) (fun r _ => r = true) true σ6 := by
    unfold j9_law08_MultiBounds
    rw [if_pos rfl]
    exact awake8_ok g fun σ _ => rfl
  refine ⟨_, hg 0 _ rfl, qn, hg1 0 _ rfl, ?_⟩
  split
  · exact awk
  · rename_i c1
    refine ⟨_, hg 1 _ rfl, qb, hg1 1 _ rfl, ?_⟩
    by_cases c2 : qb < ((usage st home).2 : Int)
    · rw [show decide (qb < ((usage st home).2 : Int)) = true from decide_eq_true c2]; exact awk
    · rw [show decide (qb < ((usage st home).2 : Int)) = false from decide_eq_false c2]
      exact main ⟨by omega, by omega⟩
end Go.Proofs.YthfpmipeejjogaaGreatDoor.Zt

/- ZtreeShape: the script as it stands in memory. -/
namespace Go.Proofs.YthfpmipeejjogaaGreatDoor.Zt
open Go Go.Proofs.YthfpmipeejjogaaGreatDoor.SL Go.Proofs.YthfpmipeejjogaaGreatDoor.G Go.Proofs.YthfpmipeejjogaaGreatDoor.Pa
set_option linter.unusedSimpArgs false
set_option linter.unusedVariables false

theorem c5 : Tryz.prog.cellsOf 5 = 1 := by kernel_rfl
theorem c3 : Tryz.prog.cellsOf 3 = 1 := by kernel_rfl
theorem c9 : Tryz.prog.cellsOf 9 = 1 := by kernel_rfl
theorem c30 : Tryz.prog.cellsOf 30 = 1 := by kernel_rfl
theorem c4 : Tryz.prog.cellsOf 4 = 1 := by kernel_rfl
theorem b5 : Tryz.prog.bytesOf 5 = 1 := by kernel_rfl
theorem u4b : Tryz.prog.underlying 4 = some .bool := by kernel_rfl
theorem u3' : Tryz.prog.underlying 3 = some (.int .i64) := by kernel_rfl
theorem u4' : Tryz.prog.underlying 4 = some .bool := by kernel_rfl

theorem bytes_of {W : World} {H : Type} {enc : TypeId × Value → H} {a : Option Addr} {len cap : Nat} (h : Arg Tryz.prog W H enc 30 [.slice a len cap]) : ∃ d : Str, d.length ≤ 140737488351232 ∧ SL.Read (all W) (fun _ => none) ⟨a, len, cap⟩ (d.map vU) := by
  rcases h.slice u30 with ⟨rfl, rfl, rfl⟩ | ⟨x, rfl, hl, hb, hel⟩
  · exact ⟨[], by decide, rfl, fun _ => rfl, fun p h => by cases h⟩
  · rw [c5] at hel
    rw [b5, Nat.mul_one] at hb
    have key : ∀ j : Nat, ∃ c : UInt8, j < len → W.cell? (x.add j) = some (vU c) := fun j => by
      by_cases hj : j < len
      · obtain ⟨cs, h1, h2, h3⟩ := hel j hj
        match cs, h1 with
        | [u], _ =>
          obtain ⟨c, rfl⟩ := h3.u8 u5
          have := h2 0 (by omega)
          rw [Nat.mul_one, add_zero] at this
          exact ⟨c, fun _ => this⟩
      · exact ⟨0, fun h => absurd h hj⟩
    obtain ⟨f, hf⟩ := Classical.axiomOfChoice key
    refine ⟨(List.range len).map f, by simp [reachBytes] at hb ⊢; omega, by simp, (fun h => by cases h), fun p hp i v hv => ?_⟩
    cases hp
    have hi : i < len := by
      rcases Nat.lt_or_ge i len with h | h
      · exact h
      · rw [List.getElem?_eq_none (by simpa using h)] at hv; cases hv
    rw [List.getElem?_map, List.getElem?_map, List.getElem?_range hi] at hv
    cases hv
    exact all_cell _ (hf i hi)

end Go.Proofs.YthfpmipeejjogaaGreatDoor.Zt

/- The scripts of several changes, as they stand in memory. -/
namespace Go.Proofs.YthfpmipeejjogaaGreatDoor.Zt
open Go Go.Proofs.YthfpmipeejjogaaGreatDoor.SL Go.Proofs.YthfpmipeejjogaaGreatDoor.G Go.Proofs.YthfpmipeejjogaaGreatDoor.Pa
set_option linter.unusedSimpArgs false
set_option linter.unusedVariables false

theorem c82 : Tryz.prog.cellsOf 82 = 6 := by kernel_rfl
theorem b82 : Tryz.prog.bytesOf 82 = 64 := by kernel_rfl
theorem c72 : Tryz.prog.cellsOf 72 = 6 := by kernel_rfl
theorem c69 : Tryz.prog.cellsOf 69 = 2 := by kernel_rfl
theorem c70 : Tryz.prog.cellsOf 70 = 1 := by kernel_rfl
theorem u70 : Tryz.prog.underlying 70 = some (.slice 82) := by kernel_rfl
theorem u67 : Tryz.prog.underlying 67 = some (.slice 72) := by kernel_rfl
theorem u82 : ∃ fs, Tryz.prog.underlying 82 = some (.struct fs) ∧ fs.toList.map (fun f => (f.type, f.offset)) = [(3, 0), (9, 1), (30, 2), (3, 3), (4, 4), (4, 5)] := ⟨_, Tryz.underlying82, rfl⟩
theorem u69 : ∃ fs, Tryz.prog.underlying 69 = some (.struct fs) ∧ fs.toList.map (fun f => (f.type, f.offset)) = [(3, 0), (3, 1)] := ⟨_, Tryz.underlying69, rfl⟩
theorem u72 : ∃ fs, Tryz.prog.underlying 72 = some (.struct fs) ∧ fs.toList.map (fun f => (f.type, f.offset)) = [(9, 0), (3, 1), (69, 2), (70, 4), (4, 5)] := ⟨_, Tryz.underlying72, rfl⟩
theorem fld {W : World} {H : Type} {enc : TypeId × Value → H} {t : TypeId} {cs : List Value} {L : List (TypeId × Nat)} (h : Arg Tryz.prog W H enc t cs) (hu : ∃ fs, Tryz.prog.underlying t = some (.struct fs) ∧ fs.toList.map (fun f : Field => (f.type, f.offset)) = L) :
    cs.length = Tryz.prog.cellsOf t ∧ ∀ (i : Nat) (t' : TypeId) (o : Nat), L[i]? = some (t', o) → Arg Tryz.prog W H enc t' ((cs.drop o).take (Tryz.prog.cellsOf t')) := by
  obtain ⟨fs, hu, hfs⟩ := hu
  obtain ⟨hl, hel⟩ := h.struct hu
  refine ⟨hl, fun i t' o hi => ?_⟩
  rw [← hfs, List.getElem?_map] at hi
  obtain ⟨f, hf, e⟩ := Option.map_eq_some_iff.1 hi
  have := hel i f hf
  simp only [Prod.mk.injEq] at e
  rw [e.1, e.2] at this
  exact this
theorem isSl {W : World} {H : Type} {enc : TypeId × Value → H} {t e : TypeId} {v : Value} (hu : Tryz.prog.underlying t = some (.slice e)) (h : Arg Tryz.prog W H enc t [v]) : ∃ a len cap, v = .slice a len cap := by
  obtain ⟨fuel, d, ps, hf, _⟩ := h
  rcases Go.Deep.open_slice hu hf with ⟨e, _⟩ | ⟨x, l, c, _, _, _, _, e, _⟩
  · simp at e; exact ⟨_, _, _, e⟩
  · simp at e; exact ⟨_, _, _, e⟩
set_option maxRecDepth 100000 in
theorem mop_of {W : World} {H : Type} {enc : TypeId × Value → H} {cs : List Value} (h : Arg Tryz.prog W H enc 82 cs) :
    ∃ (o : MOp) (ds : Sl), cs = opV o ds ∧ o.data.length ≤ 140737488351232 ∧ SL.Read (all W) (fun _ => none) ds (o.data.map vU) := by
  obtain ⟨hl, get⟩ := fld h u82
  rw [c82] at hl
  match cs, hl with
  | [v0, v1, v2, v3, v4, v5], _ =>
    have a0 := get 0 _ _ rfl
    have a1 := get 1 _ _ rfl
    have a2 := get 2 _ _ rfl
    have a3 := get 3 _ _ rfl
    have a4 := get 4 _ _ rfl
    have a5 := get 5 _ _ rfl
    rw [c3] at a0 a3
    rw [c9] at a1
    rw [c30] at a2
    rw [c4] at a4 a5
    obtain ⟨x0, rfl⟩ := Arg.i64 u3' a0
    obtain ⟨x1, rfl⟩ := Arg.i64 u3' a3
    obtain ⟨s, rfl, _⟩ := Arg.str u9 a1
    obtain ⟨b, rfl⟩ := Arg.bool u4' a4
    obtain ⟨b2, rfl⟩ := Arg.bool u4' a5
    obtain ⟨a, len, cap, rfl⟩ := isSl u30 a2
    obtain ⟨d, h1, h2⟩ := bytes_of a2
    exact ⟨⟨x0, L s, d, x1, b, b2⟩, ⟨a, len, cap⟩, by simp [opV, Sl.v], h1, h2⟩
set_option maxRecDepth 100000 in
theorem mops_of {W : World} {H : Type} {enc : TypeId × Value → H} {a : Option Addr} {len cap : Nat} (h : Arg Tryz.prog W H enc 70 [.slice a len cap]) :
    ∃ os : List MOp, OpsR (all W) ⟨a, len, cap⟩ os ∧ os.length ≤ 2199023255488 := by
  rcases h.slice u70 with ⟨rfl, rfl, rfl⟩ | ⟨x, rfl, hl, hb, hel⟩
  · exact ⟨[], ⟨rfl, fun j o h => by cases h⟩, by decide⟩
  · rw [c82] at hel
    rw [b82] at hb
    have key : ∀ j : Nat, ∃ q : MOp × Sl, j < len → (∀ σ, cellsAt (all W) σ (x.add (j * 6)) 0 (opV q.1 q.2)) ∧ q.1.data.length ≤ 140737488351232 ∧ SL.Read (all W) (fun _ => none) q.2 (q.1.data.map vU) := fun j => by
      by_cases hj : j < len
      · obtain ⟨cs, h1, h2, h3⟩ := hel j hj
        obtain ⟨o, ds, rfl, h4, h5⟩ := mop_of h3
        refine ⟨(o, ds), fun _ => ⟨fun σ => cellsAt_of 0 fun i v hv => ?_, h4, h5⟩⟩
        have hi : i < 6 := by
          rcases Nat.lt_or_ge i 6 with h | h
          · exact h
          · rw [List.getElem?_eq_none (by simpa [opV] using h)] at hv; cases hv
        have := h2 i hi
        rw [hv] at this
        rw [Nat.zero_add]
        exact all_cell σ this
      · exact ⟨(⟨0, [], [], 0, false, false⟩, ⟨none, 0, 0⟩), fun h => absurd h hj⟩
    obtain ⟨f, hf⟩ := Classical.axiomOfChoice key
    refine ⟨(List.range len).map fun j => (f j).1, ⟨by simp, fun j o ho => ?_⟩, by simp [reachBytes] at hb ⊢; omega⟩
    have hj : j < len := by
      rcases Nat.lt_or_ge j len with h | h
      · exact h
      · rw [List.getElem?_eq_none (by simpa using h)] at ho; cases ho
    rw [List.getElem?_map, List.getElem?_range hj] at ho
    cases ho
    obtain ⟨h1, h2, h3⟩ := hf j hj
    exact ⟨x, (f j).2, rfl, h1, h3, h2⟩
set_option maxRecDepth 100000 in
theorem txn_of {W : World} {H : Type} {enc : TypeId × Value → H} {cs : List Value} (h : Arg Tryz.prog W H enc 72 cs) :
    ∃ (t : Txn) (os : Sl), cs = txV t os ∧ t.home.length ≤ reachBytes ∧ OpsR (all W) os t.ops ∧ t.ops.length ≤ 2199023255488 := by
  obtain ⟨hl, get⟩ := fld h u72
  rw [c72] at hl
  match cs, hl with
  | [v0, v1, v2, v3, v4, v5], _ =>
    have a0 := get 0 _ _ rfl
    have a1 := get 1 _ _ rfl
    have a2 := get 2 _ _ rfl
    have a3 := get 3 _ _ rfl
    have a4 := get 4 _ _ rfl
    rw [c9] at a0
    rw [c3] at a1
    rw [c69] at a2
    rw [c70] at a3
    rw [c4] at a4
    obtain ⟨s, rfl, hsl⟩ := Arg.str u9 a0
    obtain ⟨x1, rfl⟩ := Arg.i64 u3' a1
    obtain ⟨_, get2⟩ := fld a2 u69
    have q0 := get2 0 _ _ rfl
    have q1 := get2 1 _ _ rfl
    rw [c3] at q0 q1
    obtain ⟨y0, rfl⟩ := Arg.i64 u3' q0
    obtain ⟨y1, rfl⟩ := Arg.i64 u3' q1
    obtain ⟨a, len, cap, rfl⟩ := isSl u70 a3
    obtain ⟨b, rfl⟩ := Arg.bool u4' a4
    obtain ⟨os, h1, h2⟩ := mops_of a3
    exact ⟨⟨L s, x1, y0, y1, os, b⟩, ⟨a, len, cap⟩, by simp [txV, Sl.v], by simpa [L_len] using hsl, h1, h2⟩
set_option maxRecDepth 100000 in
theorem quota_of {W : World} {H : Type} {enc : TypeId × Value → H} {cs : List Value} (h : Arg Tryz.prog W H enc 69 cs) : ∃ x y : Int, cs = [.int .i64 x, .int .i64 y] := by
  obtain ⟨hl, get⟩ := fld h u69
  rw [c69] at hl
  match cs, hl with
  | [v0, v1], _ =>
    have q0 := get 0 _ _ rfl
    have q1 := get 1 _ _ rfl
    rw [c3] at q0 q1
    obtain ⟨y0, rfl⟩ := Arg.i64 u3' q0
    obtain ⟨y1, rfl⟩ := Arg.i64 u3' q1
    exact ⟨y0, y1, rfl⟩
set_option maxRecDepth 100000 in
theorem txns_of {W : World} {H : Type} {enc : TypeId × Value → H} {a : Option Addr} {len cap : Nat} (h : Arg Tryz.prog W H enc 67 [.slice a len cap]) :
    ∃ ts : List Txn, TxsR (all W) ⟨a, len, cap⟩ ts := by
  rcases h.slice u67 with ⟨rfl, rfl, rfl⟩ | ⟨x, rfl, hl, hb, hel⟩
  · exact ⟨[], ⟨rfl, fun j o h => by cases h⟩⟩
  · rw [c72] at hel
    have key : ∀ j : Nat, ∃ q : Txn × Sl, j < len → (∀ σ, cellsAt (all W) σ (x.add (j * 6)) 0 (txV q.1 q.2)) ∧ q.1.home.length ≤ reachBytes ∧ OpsR (all W) q.2 q.1.ops ∧ q.1.ops.length ≤ 2199023255488 := fun j => by
      by_cases hj : j < len
      · obtain ⟨cs, h1, h2, h3⟩ := hel j hj
        obtain ⟨o, ds, rfl, h4, h5⟩ := txn_of h3
        refine ⟨(o, ds), fun _ => ⟨fun σ => cellsAt_of 0 fun i v hv => ?_, h4, h5⟩⟩
        have hi : i < 6 := by
          rcases Nat.lt_or_ge i 6 with h | h
          · exact h
          · rw [List.getElem?_eq_none (by simpa [txV] using h)] at hv; cases hv
        have := h2 i hi
        rw [hv] at this
        rw [Nat.zero_add]
        exact all_cell σ this
      · exact ⟨(⟨[], 0, 0, 0, [], false⟩, ⟨none, 0, 0⟩), fun h => absurd h hj⟩
    obtain ⟨f, hf⟩ := Classical.axiomOfChoice key
    refine ⟨(List.range len).map fun j => (f j).1, ⟨by simp, fun j o ho => ?_⟩⟩
    have hj : j < len := by
      rcases Nat.lt_or_ge j len with h | h
      · exact h
      · rw [List.getElem?_eq_none (by simpa using h)] at ho; cases ho
    rw [List.getElem?_map, List.getElem?_range hj] at ho
    cases ho
    obtain ⟨h1, h2, h3, h4⟩ := hf j hj
    exact ⟨x, (f j).2, rfl, h1, h2, h3, h4⟩
end Go.Proofs.YthfpmipeejjogaaGreatDoor.Zt
