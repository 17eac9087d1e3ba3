/- R7T, PuB, PuC, GR8, PuD, PuE, R7W -/
import Derived.Test.YthfpmipeejjogaaGreatDoorXN
/- What bytes tell is a tree: the pure invariant of dec. -/
namespace Go.Proofs.YthfpmipeejjogaaGreatDoor.Zt
open Go Go.Proofs.YthfpmipeejjogaaGreatDoor.SL Go.Proofs.YthfpmipeejjogaaGreatDoor.G Go.Proofs.YthfpmipeejjogaaGreatDoor.Pa Go.Proofs.YthfpmipeejjogaaGreatDoor.Wi
set_option linter.unusedSimpArgs false
set_option linter.unusedVariables false

/-- behind each node that is laid -/
structure Laid (a : St) (last : Str) : Prop where
  srt : Srt a
  top : ∀ p ∈ a, p.1 ≤ last
  path : ∀ p ∈ a, ∃ ps, parts p.1 = some ps
  up : ∀ k n, a.lookup k = some n → k ≠ [47] → ∃ u m, parent k = some u ∧ a.lookup u = some m ∧ m.own = 0
  kids : ∀ k n, a.lookup k = some n → n.kids = (kc (a.map (·.1)) k : Nat)
  data : ∀ k n, a.lookup k = some n → n.data.length ≤ 256
  nums : ∀ k n, a.lookup k = some n → numsOk n = true ∧ (n.own ≠ 0 → n.ctr = 0) ∧ n.ctr ≤ 10000000000
  rt : ∀ n, a.lookup [47] = some n → n.data = [] ∧ n.ver = 0 ∧ n.own = 0
  root : last ≠ [] → ∃ n, a.lookup [47] = some n
theorem Laid.inv3 {a : St} {last : Str} (h : Laid a last) (hl : last ≠ []) (hk : a.all (fun p => decide (p.2.kids ≤ p.2.ctr)) = true) : Inv3 a := by
  have hn := h.srt.nodup
  refine ⟨⟨hn, h.root hl, fun k n hk' => ?_, h.up, h.kids, fun k n hk' => ?_, h.data⟩, fun k n hk' => ⟨(h.nums k n hk').1, (h.nums k n hk').2.1⟩, h.rt⟩
  · exact h.path _ ((lookup_iff hn).1 hk')
  · have := List.all_eq_true.1 hk _ ((lookup_iff hn).1 hk')
    exact ⟨by simpa using this, (h.nums k n hk').2.2⟩
theorem rnum_lt (r : Rd) : (rnum r).1 < 4611686018427387904 := by
  unfold rnum
  split
  · simp
  · exact (num_le _).2
end Go.Proofs.YthfpmipeejjogaaGreatDoor.Zt

/- Ops in memory, wherever; as the document's ops. -/
namespace Go.Proofs.YthfpmipeejjogaaGreatDoor.Zt
open Go Go.Proofs.YthfpmipeejjogaaGreatDoor.SL Go.Proofs.YthfpmipeejjogaaGreatDoor.G Go.Proofs.YthfpmipeejjogaaGreatDoor.Pa Go.Proofs.YthfpmipeejjogaaGreatDoor.Wi
set_option linter.unusedSimpArgs false
set_option linter.unusedVariables false
set_option maxRecDepth 100000
variable {B : World} {ro σ σ' : AH} {tag tag' : Nat → Nat}

/-- bytes that stay: among what is only read, or a row of data -/
def Dat (ro : AH) (tag : Nat → Nat) (σ : AH) (d : Sl) (l : Str) : Prop := SL.Read ro (fun _ => none) d (l.map vU) ∨ Row tag σ 6 5 d (l.map vU)
theorem Dat.read {d : Sl} {l : Str} (h : Dat ro tag σ d l) (hs : SL.Sep ro σ) : SL.Read ro σ d (l.map vU) := by
  rcases h with h | h
  · exact h.keep
  · exact h.read hs
theorem Dat.keepS {C : List Nat} {d : Sl} {l : Str} (h : Dat ro tag σ d l) (k : StepS C ro tag σ tag' σ') (h6 : 6 ∉ C) : Dat ro tag' σ' d l := by
  rcases h with h | h
  · exact .inl h
  · exact .inr (h.keepS k h6)
theorem Dat.len {d : Sl} {l : Str} (h : Dat ro tag σ d l) : d.len = l.length := by
  rcases h with h | h
  · rw [h.1, List.length_map]
  · rw [h.len, List.length_map]
theorem Dat.lent {d : Sl} {l : Str} {b : Nat} (h : Dat ro tag σ d l) (hb : tag b ≠ 6) : Dat (join ro (SL.one σ b)) tag (SL.del σ b) d l := by
  rcases h with h | h
  · refine .inl ⟨h.1, h.2.1, fun p hp i v hv => acell_ro (h.2.2 p hp i v hv)⟩
  · exact .inr (h.del rfl (Ne.symm hb))
def OpsD (ro : AH) (tag : Nat → Nat) (σ : AH) (s : Sl) (ops : List MOp) : Prop := s.len = ops.length ∧ ∀ j o, ops[j]? = some o → ∃ q d, s.a = some q ∧ SL.cellsAt ro σ (q.add (j * 6)) 0 (opV o d) ∧ Dat ro tag σ d o.data
theorem OpsR.d {s : Sl} {ops : List MOp} (h : OpsR ro s ops) : OpsD ro tag σ s ops := ⟨h.1, fun j o ho => by
  obtain ⟨q, ds, h1, h2, h3, h4⟩ := h.2 j o ho
  exact ⟨q, ds, h1, h2 σ, .inl h3⟩⟩
/-- the document's ops in memory -/
def ROpsAt (ro : AH) (tag : Nat → Nat) (σ : AH) (q : Nat) (s : Sl) (ops : List MOp) : Prop := ∃ ds : List Sl, ds.length = ops.length ∧ RowW tag σ q 179 6 s (List.zipWith opV ops ds) ∧ ∀ (i : Nat) (o : MOp) (d : Sl), ops[i]? = some o → ds[i]? = some d → Dat ro tag σ d o.data
theorem ROpsAt.keepS {C : List Nat} {q : Nat} {s : Sl} {ops : List MOp} (h : ROpsAt ro tag σ q s ops) (k : StepS C ro tag σ tag' σ') (hq : q % 64 ∉ C) (h6 : 6 ∉ C) : ROpsAt ro tag' σ' q s ops := by
  obtain ⟨ds, h1, h2, h3⟩ := h
  exact ⟨ds, h1, RowW.keepS h2 k hq, fun i o d ho hd => (h3 i o d ho hd).keepS k h6⟩
theorem row_d {q e : Nat} {s : Sl} {ops : List MOp} {ds : List Sl} (h1 : ds.length = ops.length) (h2 : RowW tag σ q e 6 s (List.zipWith opV ops ds)) (h3 : ∀ (i : Nat) (o : MOp) (d : Sl), ops[i]? = some o → ds[i]? = some d → Dat ro tag σ d o.data) (hs : SL.Sep ro σ) : OpsD ro tag σ s ops := by
  have hl := h2.len
  rw [List.length_zipWith, h1, Nat.min_self] at hl
  refine ⟨hl, fun j o ho => ?_⟩
  have hjl : j < ops.length := by
    rcases Nat.lt_or_ge j ops.length with h | h
    · exact h
    · rw [List.getElem?_eq_none h] at ho; cases ho
  have hd : ds[j]? = some ds[j] := List.getElem?_eq_getElem (by omega)
  obtain ⟨b, ha, _, hc⟩ := RowW.get h2 hs (j := j) (x := opV o ds[j]) (by rw [List.getElem?_zipWith, ho, hd])
  refine ⟨_, ds[j], ha, cellsAt_of 0 fun i v hv => ?_, h3 j o _ ho hd⟩
  rw [Nat.zero_add, add_add, add_add, Nat.zero_add]
  exact hc i v hv
theorem ROpsAt.d {q : Nat} {s : Sl} {ops : List MOp} (h : ROpsAt ro tag σ q s ops) (hs : SL.Sep ro σ) : OpsD ro tag σ s ops := by
  obtain ⟨ds, h1, h2, h3⟩ := h
  exact row_d h1 h2 h3 hs
theorem OpsAt.d {q : Nat} {s : Sl} {ops : List MOp} (h : OpsAt tag σ q s ops) (hs : SL.Sep ro σ) : OpsD ro tag σ s ops := by
  obtain ⟨ds, h1, h2, h3⟩ := h
  exact row_d h1 h2 (fun i o d ho hd => .inr (h3 i o d ho hd)) hs
theorem op1_ok {o : MOp} {d : Sl} {Q : Int → ByteArray → Sl → Int → Bool → Bool → AH → Prop} (hQ : ∀ tag' σ', StepS [0] ro tag σ tag' σ' → Q o.kind (S o.path) d o.ver o.eph o.seq σ') : c_law08_op B ro o.kind (S o.path) d o.ver o.eph o.seq σ Q := by
  refine law08_op_ok fun hs => ?_
  unfold f_law08_op
  refine nw_cells (tag := tag) 0 hs fun X tag1 σ1 st1 r1 => ?_
  refine nw_cells (tag := tag1) 0 (st1 []).sep fun Y tag2 σ2 st2 r2 => ?_
  have r1' := r1.keep (st2 []) (by simp)
  obtain ⟨p, hp, hg⟩ := r1'.ptr (st2 []).sep (by simp)
  cases hp
  refine ⟨_, hg 0 _ rfl, _, hg 1 _ rfl, _, hg 2 _ rfl, _, hg 3 _ rfl, _, hg 4 _ rfl, _, hg 5 _ rfl, ?_⟩
  refine stA_cells r2 (st2 []).sep rfl (by simp [storable, Sl.v]) fun σ3 st3 r3 c3 => ?_
  exact ⟨_, _, _, _, _, _, c3, hQ tag2 σ3 (((st1 []).s (by simp)).trans (((st2 []).s (by simp)).trans (st3.s (by simp))))⟩
theorem ops_ok {a0 : Sl} {ops : List MOp} {q : Nat} {Q : Sl → AH → Prop} (hq : q < 64) (hq0 : q ≠ 0) (hq6 : q ≠ 6) (hO : ∀ tag' σ', StepS [0, q] ro tag σ tag' σ' → OpsD ro tag' σ' a0 ops) (hl : ops.length ≤ 2199023255488) (hQ : ∀ s tag' σ', StepS [0, q] ro tag σ tag' σ' → ROpsAt ro tag' σ' q s ops → Q s σ') : c_law08_ops B ro a0 σ Q := by
  refine law08_ops_ok fun hsep => ?_
  unfold f_law08_ops
  have hqm : q % 64 = q := Nat.mod_eq_of_lt hq
  have hln := (hO tag σ (StepS.refl hsep)).1
  suffices ∀ m j s tag2 σ2, j + m = ops.length → StepS [0, q] ro tag σ tag2 σ2 → ROpsAt ro tag2 σ2 q s (ops.take j) → lfpD (l3_law08_ops B ro a0 Q) (s, (j : Int)) σ2 from
    this _ 0 ⟨none, 0, 0⟩ tag σ (Nat.zero_add _) (StepS.refl hsep) ⟨[], rfl, RowW.nil _ _ _, fun i o d h => by cases h⟩
  intro m
  induction m with
  | zero =>
    intro j s tag2 σ2 hj st2 h2
    refine lfpD.intro ?_
    unfold l3_law08_ops
    simp only
    rw [if_neg (by omega)]
    unfold j1_law08_ops
    rw [List.take_of_length_le (by omega)] at h2
    exact hQ s tag2 σ2 st2 h2
  | succ m ih =>
    intro j s tag2 σ2 hj st2 h2
    have hjl : j < ops.length := by omega
    obtain ⟨p, ds, hp, hc, hrd⟩ := (hO tag2 σ2 st2).2 j ops[j] (List.getElem?_eq_getElem hjl)
    refine lfpD.intro ?_
    unfold l3_law08_ops
    simp only
    rw [if_pos (by omega)]
    refine ⟨p, hp, by omega, by omega, ops[j].kind, S ops[j].path, ds, ops[j].ver, ops[j].eph, ops[j].seq, by rw [Int.toNat_natCast]; exact hc, ?_⟩
    refine nw_st (tag := tag2) 0 st2.sep rfl (by simp [storable, Sl.v]) fun x tag3 σ3 st3 r3 => ?_
    refine ⟨ops[j].kind, S ops[j].path, ds, ops[j].ver, ops[j].eph, ops[j].seq, Row.cellsAt r3 (st3 []).sep, ?_⟩
    refine op1_ok (tag := tag3) fun tag4 σ4 st4 => ?_
    refine nw_cells (tag := tag4) 0 st4.sep fun y tag6 σ6 st6 r6 => ?_
    have k26 : StepS [0] ro tag2 σ2 tag6 σ6 := ((st3 []).s (by simp)).trans (st4.trans ((st6 []).s (by simp)))
    obtain ⟨dd, d1, d2, d3⟩ := h2.keepS k26 (by simp; omega) (by simp)
    have hlz : (List.zipWith opV (ops.take j) dd).length = j := by rw [List.length_zipWith, d1, Nat.min_self, List.length_take]; omega
    refine awp_appendW (l2 := [opV ops[j] ds]) d2 (st6 []).sep (Row.readW1 r6 (st6 []).sep rfl (by decide)) (t := 96) (by kernel_rfl) ty179 rfl (by simp [opV, storable, Sl.v]) (by rw [hlz]; simp; omega) (by decide) fun sn tag7 σ7 st7 r7 => ?_
    have st7' := st7 [q] (.inr (by simp))
    have s7 : StepS [q] ro tag6 σ6 tag7 σ7 := st7'.s (by simp [hqm])
    refine ⟨sn, rfl, ?_⟩
    rw [Pa.inc j (by omega)]
    refine ih (j + 1) sn tag7 σ7 (by omega) (st2.trans ((k26.mono (by simp)).trans (s7.mono (by simp)))) ?_
    have etk : ops.take (j + 1) = ops.take j ++ [ops[j]] := by rw [List.take_add_one, List.getElem?_eq_getElem hjl]; rfl
    rw [etk]
    refine ⟨dd ++ [ds], by rw [List.length_append, List.length_append, d1]; rfl, ?_, fun i o d ho hd => ?_⟩
    · rw [List.zipWith_append d1.symm]; exact r7
    · rcases Nat.lt_or_ge i (ops.take j).length with h | h
      · rw [List.getElem?_append_left h] at ho
        rw [List.getElem?_append_left (by omega)] at hd
        exact (d3 i o d ho hd).keepS s7 (by simp; omega)
      · rw [List.getElem?_append_right h] at ho
        rw [List.getElem?_append_right (by omega), d1] at hd
        cases hz : i - (ops.take j).length with
        | zero =>
          rw [hz] at ho hd
          cases ho; cases hd
          exact (hrd.keepS k26 (by simp)).keepS s7 (by simp; omega)
        | succ k => rw [hz] at ho; cases ho
end Go.Proofs.YthfpmipeejjogaaGreatDoor.Zt

/- Ops as bytes: multi.Put. -/
namespace Go.Proofs.YthfpmipeejjogaaGreatDoor.Zt
open Go Go.Proofs.YthfpmipeejjogaaGreatDoor.SL Go.Proofs.YthfpmipeejjogaaGreatDoor.G Go.Proofs.YthfpmipeejjogaaGreatDoor.Pa Go.Proofs.YthfpmipeejjogaaGreatDoor.Wi
set_option linter.unusedSimpArgs false
set_option linter.unusedVariables false
set_option maxRecDepth 100000
variable {B : World} {ro σ σ' : AH} {tag tag' : Nat → Nat}

theorem BufAt.del {r W b : Nat} {acc : Str} {bad : Bool} (h : BufAt tag σ r W acc bad) (h1 : r ≠ tag b) (h2 : r + 64 ≠ tag b) : BufAt tag (SL.del σ b) r W acc bad := by
  obtain ⟨s, hc, lr, a, c⟩ := h
  exact ⟨s, hc, lr, a.del rfl h1, c.del rfl h2⟩
theorem BufAt.back {r W b q : Nat} {acc : Str} {bad : Bool} {τ : AH} (h : BufAt tag' τ r W acc bad) (hd : Disj (SL.one σ b) τ) (hb : ∃ o, σ b = some o) : BufAt (setTag tag' b q) (join (SL.one σ b) τ) r W acc bad := by
  obtain ⟨s, hc, lr, a, c⟩ := h
  exact ⟨s, hc, lr, a.back hd hb, c.back hd hb⟩
theorem flags_ok {o : MOp} {d : Sl} {Q : Int → AH → Prop} (hQ : ∀ tag' σ', StepS [0] ro tag σ tag' σ' → Q (flagN o : Nat) σ') : c_multi_flags B ro o.kind (S o.path) d o.ver o.eph o.seq σ Q := by
  refine multi_flags_ok fun hs => ?_
  unfold f_multi_flags
  refine nw_cells (tag := tag) 0 hs fun X tag1 σ1 st1 r1 => ?_
  obtain ⟨p, hp, hg⟩ := r1.ptr (st1 []).sep (by simp)
  cases hp
  have hq := hQ tag1 σ1 ((st1 []).s (by simp))
  refine ⟨o.eph, hg 4 _ rfl, ?_⟩
  have e1 : bitOr .i64 0 1 = 1 := by decide
  have e2 : bitOr .i64 0 2 = 2 := by decide
  have e3 : bitOr .i64 1 2 = 3 := by decide
  unfold flagN at hq
  cases he : o.eph <;> cases hs' : o.seq
  all_goals
    rw [he, hs'] at hq
    first | rw [if_pos rfl] | rw [if_neg (by simp)]
    unfold j2_multi_flags
    refine ⟨o.seq, hg 5 _ rfl, ?_⟩
    rw [hs']
    first | rw [if_pos rfl] | rw [if_neg (by simp)]
    unfold j4_multi_flags
    first | rw [e1, e3] | rw [e1] | rw [e2] | skip
    exact hq
theorem wnums1 {a : Str} {n : Int} (h0 : 0 ≤ n) (h1 : n ≤ 4611686018427387903) : wnum (a, false) n = (a ++ vput n.toNat, false) := by
  unfold wnum
  rw [if_pos (wnum_ok (a := a) h0 h1)]
theorem wtext1 {a p : Str} (h : p.length ≤ 4611686018427387903) : wtext (a, false) p = (a ++ blob p, false) := by
  unfold wtext
  rw [wnums1 (by omega) (by omega), Int.toNat_natCast]
  unfold blob
  simp
theorem mput_ok {s : Sl} {ops : List MOp} {Q : Sl → Int → AH → Prop} (hO : ∀ tag' σ', StepS [0, 1, 30] ro tag σ tag' σ' → OpsD ro tag' σ' s ops) (hsm : ∀ o ∈ ops, o.path.length ≤ 1048576 ∧ o.data.length ≤ 1048576)
    (hno : putE ops = none → ∀ tag' σ', StepS [0, 1, 30] ro tag σ tag' σ' → Q ⟨none, 0, 0⟩ 80 σ')
    (hyes : ∀ b, putE ops = some b → ∀ s' tag' σ', StepS [0, 1, 30] ro tag σ tag' σ' → Row tag' σ' 6 5 s' (b.map vU) → Q s' 0 σ') : c_multi_Put B ro s σ Q := by
  refine multi_Put_ok fun hs => ?_
  unfold f_multi_Put
  have hln := (hO tag σ (StepS.refl hs)).1
  by_cases c : 16 < ops.length
  · rw [if_pos (by omega)]
    exact hno (by unfold putE; rw [if_pos c]) tag σ (StepS.refl hs)
  rw [if_neg (by omega)]
  refine newWriter_ok (tag := tag) (r := 30) fun W tag1 σ1 st1 b1 => ?_
  refine nw_cells (tag := tag1) 0 (st1 []).sep fun X tag2 σ2 st2 r2 => ?_
  have r2' : Row tag2 σ2 0 3 ⟨some ⟨X, 0, none⟩, 1, 1⟩ ([(ops.length : Int)].map Zt.vI) := by
    have : (#[Value.int .i64 (s.len : Int)] : Array Value).toList = [(ops.length : Int)].map Zt.vI := by rw [hln]; rfl
    rw [← this]; exact r2
  refine nums_ok (r := 30) (q := 0) (ns := [(ops.length : Int)]) (a := ([], false)) (by decide) (by decide) (b1.keep (st2 []) (by simp) (by simp)) (st2 []).sep (by simp) r2' fun tag3 σ3 st3 b3 => ?_
  have e3 : [(ops.length : Int)].foldl wnum ([], false) = (vput ops.length, false) := by
    show wnum ([], false) _ = _
    rw [wnums1 (by omega) (by omega), Int.toNat_natCast]; rfl
  rw [e3] at b3
  have s3 : StepS [0, 1, 30] ro tag σ tag3 σ3 := ((st1 []).s (by simp)).trans (((st2 []).s (by simp)).trans (st3.s (by decide)))
  have hvl : (vput ops.length).length ≤ 9 := by
    have := wnum_len ([], false) (ops.length : Int)
    rw [wnums1 (by omega) (by omega), Int.toNat_natCast] at this
    simpa using this
  suffices ∀ m j tag4 σ4, j + m = ops.length → (∀ o ∈ ops.take j, okOp o) → ((ops.take j).flatMap encOp).length ≤ 2097200 * j → StepS [0, 1, 30] ro tag σ tag4 σ4 → BufAt tag4 σ4 30 W (vput ops.length ++ (ops.take j).flatMap encOp) false → lfpD (l6_multi_Put B ro s (some ⟨W, 0, none⟩) Q) (j : Int) σ4 from
    this _ 0 tag3 σ3 (Nat.zero_add _) (by simp) (by simp) s3 (by simpa using b3)
  intro m
  induction m with
  | zero =>
    intro j tag4 σ4 hj hok hel st4 b4
    refine lfpD.intro ?_
    unfold l6_multi_Put
    rw [if_neg (by omega)]
    unfold j3_multi_Put
    rw [List.take_of_length_le (by omega)] at b4 hok hel
    refine out_ok (tag := tag4) (a := (vput ops.length ++ ops.flatMap encOp, false)) b4 st4.sep (by simp only [List.length_append]; omega) (fun h => by cases h) fun _ s' tag5 σ5 st5 r5 => ?_
    refine hyes (encOps ops) (by unfold putE; rw [if_neg c, if_pos hok]) s' tag5 σ5 (st4.trans ((st5 []).s (by simp))) r5
  | succ m ih =>
    intro j tag4 σ4 hj hok hel st4 b4
    have hjl : j < ops.length := by omega
    obtain ⟨p, ds, hp, hc, hrd⟩ := (hO tag4 σ4 st4).2 j ops[j] (List.getElem?_eq_getElem hjl)
    obtain ⟨hpl, hdl⟩ := hsm _ (List.getElem_mem hjl)
    have etk : ops.take (j + 1) = ops.take j ++ [ops[j]] := by rw [List.take_add_one, List.getElem?_eq_getElem hjl]; rfl
    have hmem : ops[j] ∈ ops := List.getElem_mem hjl
    generalize ops[j] = o at hc hrd hpl hdl etk hmem
    refine lfpD.intro ?_
    unfold l6_multi_Put
    rw [if_pos (by omega)]
    refine ⟨p, hp, by omega, by omega, o.kind, S o.path, ds, o.ver, o.eph, o.seq, by rw [Int.toNat_natCast]; exact hc, ?_⟩
    refine nw_st (tag := tag4) 0 st4.sep rfl (by simp [storable, Sl.v]) fun x tag5 σ5 st5 r5 => ?_
    have hs5 := (st5 []).sep
    have s5 : StepS [0, 1, 30] ro tag σ tag5 σ5 := st4.trans ((st5 []).s (by simp))
    have b5 := b4.keep (st5 []) (by simp) (by simp)
    have hrd5 := hrd.keepS ((st5 []).s (C := []) (by simp)) (by simp)
    obtain ⟨p5, hp5, hg5⟩ := r5.ptr hs5 (by simp)
    cases hp5
    have no : ¬ okOp o → Q ⟨none, 0, 0⟩ 80 σ5 := fun h => hno (by unfold putE; rw [if_neg c, if_neg fun hall => h (hall o hmem)]) tag5 σ5 s5
    have no16 : ¬ okOp o → j16_multi_Put B ro s x (some ⟨W, 0, none⟩) (j : Int) Q (lfpD (l6_multi_Put B ro s (some ⟨W, 0, none⟩) Q)) true σ5 := fun h => by
      unfold j16_multi_Put; rw [if_pos rfl]; exact no h
    have no14 : ¬ okOp o → j14_multi_Put B ro s x (some ⟨W, 0, none⟩) (j : Int) Q (lfpD (l6_multi_Put B ro s (some ⟨W, 0, none⟩) Q)) true σ5 := fun h => by
      unfold j14_multi_Put; rw [if_pos rfl]; exact no16 h
    have no12 : ¬ okOp o → j12_multi_Put B ro s x (some ⟨W, 0, none⟩) (j : Int) Q (lfpD (l6_multi_Put B ro s (some ⟨W, 0, none⟩) Q)) true σ5 := fun h => by
      unfold j12_multi_Put; rw [if_pos rfl]; exact no14 h
    refine ⟨o.kind, hg5 0 _ rfl, ?_⟩
    by_cases k1 : o.kind < 1
    · rw [if_pos k1]
      exact no12 fun h => by have := h.1; omega
    rw [if_neg k1]
    refine ⟨o.kind, hg5 0 _ rfl, ?_⟩
    by_cases k2 : 4 < o.kind
    · rw [show decide (4 < o.kind) = true by simpa using k2]
      exact no12 fun h => by have := h.2.1; omega
    rw [show decide (4 < o.kind) = false by simpa using k2]
    unfold j12_multi_Put
    rw [if_neg (by simp)]
    refine ⟨o.ver, hg5 3 _ rfl, ?_⟩
    by_cases k3 : o.ver < -1
    · rw [show decide (o.ver < -1) = true by simpa using k3]
      exact no14 fun h => by have := h.2.2.1; omega
    rw [show decide (o.ver < -1) = false by simpa using k3]
    unfold j14_multi_Put
    rw [if_neg (by simp)]
    refine ⟨o.ver, hg5 3 _ rfl, ?_⟩
    by_cases k4 : 4611686018427387903 ≤ o.ver
    · rw [show decide (4611686018427387903 ≤ o.ver) = true by simpa using k4]
      exact no16 fun h => by have := h.2.2.2; omega
    rw [show decide (4611686018427387903 ≤ o.ver) = false by simpa using k4]
    have hok1 : okOp o := ⟨by omega, by omega, by omega, by omega⟩
    unfold j16_multi_Put
    rw [if_neg (by simp)]
    have hpre : (vput ops.length ++ (ops.take j).flatMap encOp).length ≤ 9 + 2097200 * 16 := by
      rw [List.length_append]
      have : 2097200 * j ≤ 2097200 * 16 := Nat.mul_le_mul_left _ (by omega)
      omega
    obtain ⟨acc, hacc⟩ : ∃ acc, vput ops.length ++ (ops.take j).flatMap encOp = acc := ⟨_, rfl⟩
    rw [hacc] at b5 hpre
    have k9 : ∀ n : Int, 0 ≤ n → n ≤ 4611686018427387903 → (vput n.toNat).length ≤ 9 := fun n h0 h1 => by
      have := wnum_len ([], false) n
      rw [wnums1 h0 h1] at this
      simpa using this
    refine ⟨o.kind, hg5 0 _ rfl, ?_⟩
    refine nw_cells (tag := tag5) 0 hs5 fun y1 tag6 σ6 st6 q6 => ?_
    refine nums_ok (r := 30) (q := 0) (ns := [o.kind]) (a := (acc, false)) (by decide) (by decide) (b5.keep (st6 []) (by simp) (by simp)) (st6 []).sep (by simp; omega) q6 fun tag7 σ7 st7 b7 => ?_
    have e7 : [o.kind].foldl wnum (acc, false) = (acc ++ vput o.kind.toNat, false) := wnums1 (by omega) (by omega)
    rw [e7] at b7
    have l7 := k9 o.kind (by omega) (by omega)
    have r7 := (r5.keep (st6 []) (by simp)).keep st7 (by decide)
    obtain ⟨p7, hp7, hg7⟩ := r7.ptr st7.sep (by simp)
    cases hp7
    refine ⟨S o.path, hg7 1 _ rfl, ?_⟩
    refine nw_cells (tag := tag7) 0 st7.sep fun y2 tag8 σ8 st8 q8 => ?_
    refine texts1_ok (r := 30) (q := 0) (p := o.path) (a := (acc ++ vput o.kind.toNat, false)) (b7.keep (st8 []) (by simp) (by simp)) (by decide) (by decide) (st8 []).sep (by simp only [List.length_append]; omega) q8 fun tag9 σ9 st9 b9 => ?_
    rw [wtext1 (by omega)] at b9
    have lb : ∀ d : Str, d.length ≤ 1048576 → (blob d).length ≤ 9 + d.length := fun d hd => by
      unfold blob
      have := k9 (d.length : Int) (by omega) (by omega)
      rw [Int.toNat_natCast] at this
      rw [List.length_append]; omega
    have l9 := lb o.path hpl
    have r9 := (r7.keep (st8 []) (by simp)).keep st9 (by decide)
    obtain ⟨p9, hp9, hg9⟩ := r9.ptr st9.sep (by simp)
    cases hp9
    refine ⟨ds, hg9 2 _ rfl, ?_⟩
    refine nw_cells (tag := tag9) 0 st9.sep fun y3 tagA σA stA qA => ?_
    have s5A : StepS [30, 1] ro tag5 σ5 tagA σA := ((st6 []).s (by simp)).trans ((st7.s (by decide)).trans (((st8 []).s (by simp)).trans ((st9.s (by decide)).trans ((stA []).s (by simp)))))
    have hrdA := hrd5.keepS s5A (by decide)
    refine blobs1_ok (r := 30) (q := 0) (p := o.data) (a := (acc ++ vput o.kind.toNat ++ blob o.path, false)) (b9.keep (stA []) (by simp) (by simp)) (by decide) (by decide) (stA []).sep (by simp only [List.length_append]; omega) qA hrd.len (fun tag' σ' st => (hrdA.keepS (st.s (C := [30, 1]) (by decide)) (by decide)).read st.sep) fun tagB σB stB bB => ?_
    rw [wtext1 (by omega)] at bB
    have lB := lb o.data hdl
    have rB := (r9.keep (stA []) (by simp)).keep stB (by decide)
    have hsB := stB.sep
    obtain ⟨tX, hX⟩ := rB.tagOf
    refine lent_block x ?_
    have hsL : SL.Sep (join ro (SL.one σB x)) (SL.del σB x) := hsB.lent
    have cX : ∀ τ i v, (opV o ds)[i]? = some v → acell (join ro (SL.one σB x)) τ ((⟨x, 0, none⟩ : Addr).add i) = some v := fun τ i v hv => by
      have := rB.lend hsB (τ := τ) (i := i) (v := v) hv
      rwa [Nat.mul_one] at this
    refine ⟨o.ver, cX _ 3 _ rfl, o.kind, S o.path, ds, o.ver, o.eph, o.seq, cellsAt_of 0 fun i v hv => by rw [Nat.zero_add]; exact cX _ i v hv, ?_⟩
    have bL := BufAt.del (b := x) bB (by rw [tX]; decide) (by rw [tX]; decide)
    refine flags_ok (tag := tagB) (σ := SL.del σB x) fun tagC σC stC => ?_
    have hfl := flagN_lt o
    have ev : IntKind.i64.wrap (o.ver + 1) = o.ver + 1 := by rw [SL.w64_eq (by omega) (by omega)]
    rw [ev]
    refine nw_cells (tag := tagC) 0 stC.sep fun y4 tagD σD stD qD => ?_
    have bD : BufAt tagD σD 30 W (acc ++ vput o.kind.toNat ++ blob o.path ++ blob o.data) false := by
      obtain ⟨R, hR, stC⟩ := stC
      exact (BufAt.keep (BufAt.keep bL stC (fun h => absurd (hR _ h) (by decide)) (fun h => absurd (hR _ h) (by decide))) (stD []) (by simp) (by simp))
    refine nums_ok (r := 30) (q := 0) (ns := [o.ver + 1, (flagN o : Int)]) (a := (acc ++ vput o.kind.toNat ++ blob o.path ++ blob o.data, false)) (by decide) (by decide) bD (stD []).sep (by simp only [List.length_append, List.length_cons, List.length_nil]; omega) qD fun tagE σE stE bE => ?_
    have eE : [o.ver + 1, (flagN o : Int)].foldl wnum (acc ++ vput o.kind.toNat ++ blob o.path ++ blob o.data, false) = (acc ++ encOp o, false) := by
      show wnum (wnum _ _) _ = _
      rw [wnums1 (by omega) (by omega), wnums1 (by omega) (by omega), Int.toNat_natCast]
      unfold encOp
      simp
    rw [eE] at bE
    intro hdis
    have sC : StepS [0, 1, 30] (join ro (SL.one σB x)) tagB (SL.del σB x) tagE σE := (stC.mono (by decide)).trans (((stD []).s (by simp)).trans (stE.s (by decide)))
    have stF := StepS.back sC hsB hdis hX
    have bF := BufAt.back (q := tagB x) bE hdis hX
    rw [Pa.inc j (by omega)]
    have l1 := k9 (o.ver + 1) (by omega) (by omega)
    have l2 := k9 (flagN o : Int) (by omega) (by omega)
    have hoe : (encOp o).length ≤ 2097200 := by
      unfold encOp
      simp only [List.length_append]
      rw [Int.toNat_natCast] at l2
      omega
    refine ih (j + 1) _ _ (by omega) (fun y hy => ?_) ?_ (s5.trans ((s5A.mono (by decide)).trans ((stB.s (by decide)).trans stF))) ?_
    · rw [etk] at hy
      rcases List.mem_append.1 hy with h | h
      · exact hok y h
      · rw [List.mem_singleton.1 h]; exact hok1
    · rw [etk, List.flatMap_append, List.length_append, List.flatMap_singleton]
      omega
    · rw [etk, List.flatMap_append, List.flatMap_singleton, ← List.append_assoc, hacc]
      exact bF
end Go.Proofs.YthfpmipeejjogaaGreatDoor.Zt

/- Functions as predicate transformers, and the proofs that the code does what they tell: printed by wip/tools/gen.py. -/
namespace Go.Proofs.YthfpmipeejjogaaGreatDoor.G
open Go Go.Proofs.YthfpmipeejjogaaGreatDoor.SL
set_option linter.unusedVariables false
set_option linter.unusedSimpArgs false

def j2_ref08_Put (B : World) (ro : AH) (Q : Sl → Int → AH → Prop) (x4_3 : Sl) (σ : AH) : Prop :=
 Q x4_3 0 σ

def j19_ref08_Put (B : World) (ro : AH) (a0 : Sl) (x4_5 : Sl) (x5_6 : Int) (x6_9 : Nat) (Q : Sl → Int → AH → Prop) (Y4 : (Sl × Int) → AH → Prop) (x7_20 : Int) (σ : AH) : Prop :=
 lent σ fun ψ σ =>
  ∃ (x55_21 : ByteArray), acell (join ro ψ) (fun _ => none) ((⟨x6_9, 0, none⟩ : Addr).add 1) = some (.string x55_21) ∧
  ∃ (x59_22 : Sl), acell (join ro ψ) (fun _ => none) ((⟨x6_9, 0, none⟩ : Addr).add 2) = some (Sl.v x59_22) ∧
  ∃ (x62_23 : Int), acell (join ro ψ) (fun _ => none) ((⟨x6_9, 0, none⟩ : Addr).add 3) = some (.int .i64 x62_23) ∧
  ∃ (x52_24 : Int), acell (join ro ψ) σ ⟨x6_9, 0, none⟩ = some (.int .i64 x52_24) ∧
  c_ref01_Put B (join ro ψ) x52_24 σ fun x53_25 σ =>
  awp Tryz.prog (join ro ψ) (convert 9 30 (.string x55_21)) (fun v σ =>
   (∃ (x56_26 : Sl), v = Sl.v x56_26 ∧
    c_ref01_Blob B (join ro ψ) x56_26 σ fun x57_27 σ =>
    c_ref01_Blob B (join ro ψ) x59_22 σ fun x60_28 σ =>
    c_ref01_Put B (join ro ψ) (IntKind.i64.wrap (x62_23 + 1)) σ fun x64_29 σ =>
    c_ref01_Put B (join ro ψ) x7_20 σ fun x66_30 σ =>
    nw (join ro ψ) σ (.cells #[Sl.v x4_5, Sl.v x53_25, Sl.v x57_27, Sl.v x60_28, Sl.v x64_29, Sl.v x66_30] 30) fun x67_31 σ =>
    c_ref01_Join B (join ro ψ) (⟨some ⟨x67_31, 0, none⟩, 6, 6⟩ : Sl) σ fun x68_32 σ =>
    (Disj ψ σ → (fun σ => 
     Y4 (x68_32, IntKind.i64.wrap (x5_6 + 1)) σ) (join ψ σ)))) σ

def j17_ref08_Put (B : World) (ro : AH) (a0 : Sl) (x4_5 : Sl) (x5_6 : Int) (x6_9 : Nat) (Q : Sl → Int → AH → Prop) (Y4 : (Sl × Int) → AH → Prop) (x7_18 : Int) (σ : AH) : Prop :=
 ∃ (x47_33 : Bool), acell ro σ ((⟨x6_9, 0, none⟩ : Addr).add 5) = some (.bool x47_33) ∧
 if x47_33 = true then
  j19_ref08_Put B ro a0 x4_5 x5_6 x6_9 Q Y4 (IntKind.i64.wrap (x7_18 + 2)) σ
 else
 j19_ref08_Put B ro a0 x4_5 x5_6 x6_9 Q Y4 x7_18 σ

def j15_ref08_Put (B : World) (ro : AH) (a0 : Sl) (x4_5 : Sl) (x5_6 : Int) (x6_9 : Nat) (Q : Sl → Int → AH → Prop) (Y4 : (Sl × Int) → AH → Prop) (x41_16 : Bool) (σ : AH) : Prop :=
 if x41_16 = true then
  Q (⟨none, 0, 0⟩ : Sl) 80 σ
 else
 ∃ (x43_34 : Bool), acell ro σ ((⟨x6_9, 0, none⟩ : Addr).add 4) = some (.bool x43_34) ∧
 if x43_34 = true then
  j17_ref08_Put B ro a0 x4_5 x5_6 x6_9 Q Y4 (IntKind.i64.wrap (0 + 1)) σ
 else
 j17_ref08_Put B ro a0 x4_5 x5_6 x6_9 Q Y4 0 σ

def j13_ref08_Put (B : World) (ro : AH) (a0 : Sl) (x4_5 : Sl) (x5_6 : Int) (x6_9 : Nat) (Q : Sl → Int → AH → Prop) (Y4 : (Sl × Int) → AH → Prop) (x36_14 : Bool) (σ : AH) : Prop :=
 if x36_14 = true then
  j15_ref08_Put B ro a0 x4_5 x5_6 x6_9 Q Y4 true σ
 else
 ∃ (x39_35 : Int), acell ro σ ((⟨x6_9, 0, none⟩ : Addr).add 3) = some (.int .i64 x39_35) ∧
 j15_ref08_Put B ro a0 x4_5 x5_6 x6_9 Q Y4 (decide (4611686018427387902 < x39_35)) σ

def j11_ref08_Put (B : World) (ro : AH) (a0 : Sl) (x4_5 : Sl) (x5_6 : Int) (x6_9 : Nat) (Q : Sl → Int → AH → Prop) (Y4 : (Sl × Int) → AH → Prop) (x31_12 : Bool) (σ : AH) : Prop :=
 if x31_12 = true then
  j13_ref08_Put B ro a0 x4_5 x5_6 x6_9 Q Y4 true σ
 else
 ∃ (x34_36 : Int), acell ro σ ((⟨x6_9, 0, none⟩ : Addr).add 3) = some (.int .i64 x34_36) ∧
 j13_ref08_Put B ro a0 x4_5 x5_6 x6_9 Q Y4 (decide (x34_36 < (-1))) σ

def l4_ref08_Put (B : World) (ro : AH) (a0 : Sl) (Q : Sl → Int → AH → Prop) : (Sl × Int) → AH → ((Sl × Int) → AH → Prop) → Prop := fun ⟨x4_5, x5_6⟩ σ Y4 =>
 if x5_6 < (a0.len : Int) then
  ∃ p22_7 : Addr, a0.a = some p22_7 ∧ (0 : Int) ≤ x5_6 ∧ x5_6 < (a0.len : Int) ∧
  ∃ (x23_8a : Int) (x23_8b : ByteArray) (x23_8c : Sl) (x23_8d : Int) (x23_8e : Bool) (x23_8f : Bool), cellsAt ro σ (p22_7.add (Int.toNat x5_6 * 6)) 0 [.int .i64 x23_8a, .string x23_8b, Sl.v x23_8c, .int .i64 x23_8d, .bool x23_8e, .bool x23_8f] ∧
  nw ro σ (.cells #[.int .i64 0, .string ByteArray.empty, Sl.v (⟨none, 0, 0⟩ : Sl), .int .i64 0, .bool false, .bool false] 179) fun x6_9 σ =>
  stN ⟨x6_9, 0, none⟩ (fun σ =>
   ∃ (x25_10 : Int), acell ro σ ⟨x6_9, 0, none⟩ = some (.int .i64 x25_10) ∧
   if x25_10 < 1 then
    j11_ref08_Put B ro a0 x4_5 x5_6 x6_9 Q Y4 true σ
   else
   ∃ (x29_37 : Int), acell ro σ ⟨x6_9, 0, none⟩ = some (.int .i64 x29_37) ∧
   j11_ref08_Put B ro a0 x4_5 x5_6 x6_9 Q Y4 (decide (4 < x29_37)) σ) [.int .i64 x23_8a, .string x23_8b, Sl.v x23_8c, .int .i64 x23_8d, .bool x23_8e, .bool x23_8f] 0 σ
 else
 j2_ref08_Put B ro Q x4_5 σ

def f_ref08_Put (B : World) (ro : AH) (a0 : Sl) (σ : AH) (Q : Sl → Int → AH → Prop) : Prop :=
 if 16 < (a0.len : Int) then
  Q (⟨none, 0, 0⟩ : Sl) 80 σ
 else
 c_ref01_Put B ro (a0.len : Int) σ fun x13_1 σ =>
 lfpD (l4_ref08_Put B ro a0 Q ) (x13_1, 0) σ

set_option maxRecDepth 100000 in
set_option maxHeartbeats 4000000 in
theorem ref08_Put_ok {B : World} {ro : AH} {a0 : Sl} {σ : AH} {Q : Sl → Int → AH → Prop} (h : Sep ro σ → f_ref08_Put B ro a0 σ Q) : c_ref08_Put B ro a0 σ Q := by
  refine ACalls.of_sep fun hsep => ?_
  replace h := h hsep
  refine ACalls.of_body (args := [Sl.v a0]) Tryz.func51 rfl (by rw [Tryz.ntmps51]; simp) ?_
  rw [Tryz.ntmps51]
  unfold f_ref08_Put at h
  refine AW.seq ?_
  refine AW.reg ?_
  refine Lp (V_asg rfl rfl) rfl rfl ?_
  refine Lp (V_asg rfl rfl) rfl rfl ?_
  refine Lnil ?_
  refine thenN ?_
  refine AW.seq ?_
  refine AW.seq ?_
  refine AW.reg ?_
  refine Lp (V_move rfl rfl) rfl rfl ?_
  refine Lp (V_lenL rfl rfl Tryz.underlying96 rfl rfl) rfl rfl ?_
  refine Lp (V_gtr rfl rfl rfl) rfl rfl ?_
  refine Lnil ?_
  refine thenN ?_
  refine AW.iff rfl decide_eq_true_iff h (fun h => ?_) (fun h => ?_)
  · refine AW.seq ?_
    refine AW.reg ?_
    refine Lp (V_asg rfl rfl) rfl rfl ?_
    refine Lp (V_asg rfl rfl) rfl rfl ?_
    refine Lnil ?_
    refine thenN ?_
    refine AW.ret ?_
    refine thenR ?_
    exact bR2 Tryz.results51 rfl rfl ⟨_, _, rfl, h⟩
  refine AW.skip ?_
  refine thenN ?_
  refine AW.seq ?_
  refine AW.reg ?_
  refine Lp (V_move rfl rfl) rfl rfl ?_
  refine Lp (V_lenL rfl rfl Tryz.underlying96 rfl rfl) rfl rfl ?_
  refine Ls rfl rfl (X_call rfl Tryz.func104 rfl rfl rfl (ACalls.mono h ?_))
  rintro v σ ⟨x13_1, rfl, h⟩
  refine Lp (V_asg rfl rfl) rfl rfl ?_
  refine Lnil ?_
  refine thenN ?_
  refine AW.seqJ (fun fr σ => ∃ (x4_3 : Sl), FrLe [(4, Sl.v x4_3)] fr ∧ j2_ref08_Put B ro Q x4_3 σ) ?_ ?_
  · rintro fr σ ⟨x4_3, hl, h⟩
    refine AW.weaken ?_ hl (HLe.refl _)
    unfold j2_ref08_Put at h
    refine AW.seq ?_
    refine AW.reg ?_
    refine Lp (V_move rfl rfl) rfl rfl ?_
    refine Lp (V_asg rfl rfl) rfl rfl ?_
    refine Lp (V_asg rfl rfl) rfl rfl ?_
    refine Lnil ?_
    refine thenN ?_
    refine AW.ret ?_
    exact bR2 Tryz.results51 rfl rfl ⟨_, _, rfl, h⟩
  refine AW.seq ?_
  refine AW.reg ?_
  refine Lp (V_asg rfl rfl) rfl rfl ?_
  refine Lnil ?_
  refine thenN ?_
  refine AW.block ?_
  refine ARound.loop (fr' := [(0, Sl.v a0), (4, Sl.v x13_1), (5, .int .i64 0)]) ?_ (FrLe.cons rfl (FrLe.cons rfl (FrLe.cons rfl (FrLe.nil _))))
  refine h (fun ⟨x4_5, x5_6⟩ σ => ARound _ _ _ _ _ _ [(0, Sl.v a0), (4, Sl.v x4_5), (5, .int .i64 x5_6)] σ) ?_
  rintro ⟨x4_5, x5_6⟩ σ Y4 hY4 h
  show AW _ _ _ _ _ _ _ _
  unfold l4_ref08_Put at h
  dsimp only at h
  refine AW.seq ?_
  refine AW.seq ?_
  refine AW.reg ?_
  refine Lp (V_move rfl rfl) rfl rfl ?_
  refine Lp (V_move rfl rfl) rfl rfl ?_
  refine Lp (V_lenL rfl rfl Tryz.underlying96 rfl rfl) rfl rfl ?_
  refine Lp (V_lss rfl rfl rfl) rfl rfl ?_
  refine Lnil ?_
  refine thenN ?_
  refine AW.iff rfl decide_eq_true_iff h (fun h => ?_) (fun h => ?_)
  rotate_left
  · refine AW.exit ?_
    refine thenE ?_
    refine thenE ?_
    refine blockE ?_
    refine thenN ?_
    exact ⟨_, (FrLe.cons rfl (FrLe.nil _)), h⟩
  refine AW.skip ?_
  refine thenN ?_
  refine AW.seq ?_
  refine AW.block ?_
  refine AW.seq ?_
  refine AW.reg ?_
  refine Lp (V_move rfl rfl) rfl rfl ?_
  refine Lp (V_move rfl rfl) rfl rfl ?_
  obtain ⟨p22_7, ha, h0, h1, h⟩ := h
  refine Lp (V_ixA rfl Tryz.underlying96 ty179 (ixL rfl ha) rfl h0 h1) rfl rfl ?_
  obtain ⟨x23_8a, x23_8b, x23_8c, x23_8d, x23_8e, x23_8f, hc, h⟩ := h
  refine Ls rfl rfl (X_lda rfl Tryz.underlying179 rfl ty179 rfl hc ?_)
  refine Ls rfl rfl (X_new (A_alloc rfl ty179) fun x6_9 g1 g2 => ?_)
  replace h := h x6_9 g1 g2
  refine Ls rfl rfl (X_st rfl ty179 rfl rfl rfl rfl (stN_mono h fun σ h => ?_))
  refine Lnil ?_
  refine thenN ?_
  refine AW.seq ?_
  refine AW.seq ?_
  refine AW.reg ?_
  refine Lp (V_fld rfl Tryz.underlying179 rfl ty3 (by decide) rfl) rfl rfl ?_
  obtain ⟨x25_10, hc, h⟩ := h
  refine Ls rfl rfl (X_ld rfl Tryz.underlying3 rfl rfl hc ?_)
  refine Lp (V_lss rfl rfl rfl) rfl rfl ?_
  refine Lp (V_move rfl rfl) rfl rfl ?_
  refine LsplitJ 4 (decide (x25_10 < 1)) decide_eq_true_iff h (fun fr σ => ∃ (x31_12 : Bool), FrLe [(0, Sl.v a0), (4, Sl.v x4_5), (5, .int .i64 x5_6), (6, .pointer (some ⟨x6_9, 0, none⟩)), (31, .bool x31_12)] fr ∧ j11_ref08_Put B ro a0 x4_5 x5_6 x6_9 Q Y4 x31_12 σ) ?_ ?_ ?_
  · intro h e3 hk3
    refine Ln rfl rfl rfl rfl (.inl (by rw [e3]; rfl)) ?_
    refine Ln rfl rfl rfl rfl (.inl (by rw [e3]; rfl)) ?_
    refine Ln rfl rfl rfl rfl (.inl (by rw [e3]; rfl)) ?_
    refine Lp (V_pickT rfl (evb e3) rfl) rfl rfl ?_
    exact hk3 _ _ ⟨_, (FrLe.cons rfl (FrLe.cons rfl (FrLe.cons rfl (FrLe.cons rfl (FrLe.cons rfl (FrLe.nil _)))))), h⟩
  · intro h e3 hk3
    refine Lypb (V_fld rfl Tryz.underlying179 rfl ty3 (by decide) rfl) rfl rfl rfl rfl e3 ?_
    obtain ⟨x29_37, hc, h⟩ := h
    refine Lyb rfl rfl rfl rfl e3 (X_ld rfl Tryz.underlying3 rfl rfl hc ?_)
    refine Lypb (V_gtr rfl rfl rfl) rfl rfl rfl rfl e3 ?_
    refine Lp (V_pickF rfl (evb e3) rfl) rfl rfl ?_
    exact hk3 _ _ ⟨_, (FrLe.cons rfl (FrLe.cons rfl (FrLe.cons rfl (FrLe.cons rfl (FrLe.cons rfl (FrLe.nil _)))))), h⟩
  rintro fr σ ⟨x31_12, hl, h⟩
  unfold j11_ref08_Put at h
  refine Lfr hl ?_
  refine Lp (V_move rfl rfl) rfl rfl ?_
  refine LsplitJ 4 x31_12 Iff.rfl h (fun fr σ => ∃ (x36_14 : Bool), FrLe [(0, Sl.v a0), (4, Sl.v x4_5), (5, .int .i64 x5_6), (6, .pointer (some ⟨x6_9, 0, none⟩)), (36, .bool x36_14)] fr ∧ j13_ref08_Put B ro a0 x4_5 x5_6 x6_9 Q Y4 x36_14 σ) ?_ ?_ ?_
  · intro h e8 hk8
    refine Ln rfl rfl rfl rfl (.inl (by rw [e8]; rfl)) ?_
    refine Ln rfl rfl rfl rfl (.inl (by rw [e8]; rfl)) ?_
    refine Ln rfl rfl rfl rfl (.inl (by rw [e8]; rfl)) ?_
    refine Lp (V_pickT rfl (evb e8) rfl) rfl rfl ?_
    exact hk8 _ _ ⟨_, (FrLe.cons rfl (FrLe.cons rfl (FrLe.cons rfl (FrLe.cons rfl (FrLe.cons rfl (FrLe.nil _)))))), h⟩
  · intro h e8 hk8
    refine Lypb (V_fld rfl Tryz.underlying179 rfl ty3 (by decide) rfl) rfl rfl rfl rfl e8 ?_
    obtain ⟨x34_36, hc, h⟩ := h
    refine Lyb rfl rfl rfl rfl e8 (X_ld rfl Tryz.underlying3 rfl rfl hc ?_)
    refine Lypb (V_lss rfl rfl rfl) rfl rfl rfl rfl e8 ?_
    refine Lp (V_pickF rfl (evb e8) rfl) rfl rfl ?_
    exact hk8 _ _ ⟨_, (FrLe.cons rfl (FrLe.cons rfl (FrLe.cons rfl (FrLe.cons rfl (FrLe.cons rfl (FrLe.nil _)))))), h⟩
  rintro fr σ ⟨x36_14, hl, h⟩
  unfold j13_ref08_Put at h
  refine Lfr hl ?_
  refine Lp (V_move rfl rfl) rfl rfl ?_
  refine LsplitJ 4 x36_14 Iff.rfl h (fun fr σ => ∃ (x41_16 : Bool), FrLe [(0, Sl.v a0), (4, Sl.v x4_5), (5, .int .i64 x5_6), (6, .pointer (some ⟨x6_9, 0, none⟩)), (41, .bool x41_16)] fr ∧ j15_ref08_Put B ro a0 x4_5 x5_6 x6_9 Q Y4 x41_16 σ) ?_ ?_ ?_
  · intro h e13 hk13
    refine Ln rfl rfl rfl rfl (.inl (by rw [e13]; rfl)) ?_
    refine Ln rfl rfl rfl rfl (.inl (by rw [e13]; rfl)) ?_
    refine Ln rfl rfl rfl rfl (.inl (by rw [e13]; rfl)) ?_
    refine Lp (V_pickT rfl (evb e13) rfl) rfl rfl ?_
    exact hk13 _ _ ⟨_, (FrLe.cons rfl (FrLe.cons rfl (FrLe.cons rfl (FrLe.cons rfl (FrLe.cons rfl (FrLe.nil _)))))), h⟩
  · intro h e13 hk13
    refine Lypb (V_fld rfl Tryz.underlying179 rfl ty3 (by decide) rfl) rfl rfl rfl rfl e13 ?_
    obtain ⟨x39_35, hc, h⟩ := h
    refine Lyb rfl rfl rfl rfl e13 (X_ld rfl Tryz.underlying3 rfl rfl hc ?_)
    refine Lypb (V_gtr rfl rfl rfl) rfl rfl rfl rfl e13 ?_
    refine Lp (V_pickF rfl (evb e13) rfl) rfl rfl ?_
    exact hk13 _ _ ⟨_, (FrLe.cons rfl (FrLe.cons rfl (FrLe.cons rfl (FrLe.cons rfl (FrLe.cons rfl (FrLe.nil _)))))), h⟩
  rintro fr σ ⟨x41_16, hl, h⟩
  unfold j15_ref08_Put at h
  refine Lfr hl ?_
  refine Lnil ?_
  refine thenN ?_
  refine AW.iff rfl Iff.rfl h (fun h => ?_) (fun h => ?_)
  · refine AW.seq ?_
    refine AW.reg ?_
    refine Lp (V_asg rfl rfl) rfl rfl ?_
    refine Lp (V_asg rfl rfl) rfl rfl ?_
    refine Lnil ?_
    refine thenN ?_
    refine AW.ret ?_
    refine thenR ?_
    refine blockR ?_
    refine thenR ?_
    refine thenR ?_
    refine blockR ?_
    refine thenR ?_
    exact bR2 Tryz.results51 rfl rfl ⟨_, _, rfl, h⟩
  refine AW.skip ?_
  refine thenN ?_
  refine AW.seq ?_
  refine AW.reg ?_
  refine Lp (V_asg rfl rfl) rfl rfl ?_
  refine Lnil ?_
  refine thenN ?_
  refine AW.seqJ (fun fr σ => ∃ (x7_18 : Int), FrLe [(0, Sl.v a0), (4, Sl.v x4_5), (5, .int .i64 x5_6), (6, .pointer (some ⟨x6_9, 0, none⟩)), (7, .int .i64 x7_18)] fr ∧ j17_ref08_Put B ro a0 x4_5 x5_6 x6_9 Q Y4 x7_18 σ) ?_ ?_
  rotate_left
  · refine AW.seq ?_
    refine AW.reg ?_
    refine Lp (V_fld rfl Tryz.underlying179 rfl ty4 (by decide) rfl) rfl rfl ?_
    obtain ⟨x43_34, hc, h⟩ := h
    refine Ls rfl rfl (X_ld rfl Tryz.underlying4 rfl rfl hc ?_)
    refine Lnil ?_
    refine thenN ?_
    refine AW.iff rfl Iff.rfl h (fun h => ?_) (fun h => ?_)
    rotate_left
    · refine AW.skip ?_
      refine thenN ?_
      exact ⟨_, (FrLe.cons rfl (FrLe.cons rfl (FrLe.cons rfl (FrLe.cons rfl (FrLe.cons rfl (FrLe.nil _)))))), h⟩
    refine AW.reg ?_
    refine Lp (V_move rfl rfl) rfl rfl ?_
    refine Lp (V_add rfl rfl rfl) rfl rfl ?_
    refine Lp (V_asg rfl rfl) rfl rfl ?_
    refine Lnil ?_
    refine thenN ?_
    exact ⟨_, (FrLe.cons rfl (FrLe.cons rfl (FrLe.cons rfl (FrLe.cons rfl (FrLe.cons rfl (FrLe.nil _)))))), h⟩
  rintro fr σ ⟨x7_18, hl, h⟩
  refine AW.weaken ?_ hl (HLe.refl _)
  unfold j17_ref08_Put at h
  refine AW.seqJ (fun fr σ => ∃ (x7_20 : Int), FrLe [(0, Sl.v a0), (4, Sl.v x4_5), (5, .int .i64 x5_6), (6, .pointer (some ⟨x6_9, 0, none⟩)), (7, .int .i64 x7_20)] fr ∧ j19_ref08_Put B ro a0 x4_5 x5_6 x6_9 Q Y4 x7_20 σ) ?_ ?_
  rotate_left
  · refine AW.seq ?_
    refine AW.reg ?_
    refine Lp (V_fld rfl Tryz.underlying179 rfl ty4 (by decide) rfl) rfl rfl ?_
    obtain ⟨x47_33, hc, h⟩ := h
    refine Ls rfl rfl (X_ld rfl Tryz.underlying4 rfl rfl hc ?_)
    refine Lnil ?_
    refine thenN ?_
    refine AW.iff rfl Iff.rfl h (fun h => ?_) (fun h => ?_)
    rotate_left
    · refine AW.skip ?_
      refine thenN ?_
      exact ⟨_, (FrLe.cons rfl (FrLe.cons rfl (FrLe.cons rfl (FrLe.cons rfl (FrLe.cons rfl (FrLe.nil _)))))), h⟩
    refine AW.reg ?_
    refine Lp (V_move rfl rfl) rfl rfl ?_
    refine Lp (V_add rfl rfl rfl) rfl rfl ?_
    refine Lp (V_asg rfl rfl) rfl rfl ?_
    refine Lnil ?_
    refine thenN ?_
    exact ⟨_, (FrLe.cons rfl (FrLe.cons rfl (FrLe.cons rfl (FrLe.cons rfl (FrLe.cons rfl (FrLe.nil _)))))), h⟩
  rintro fr σ ⟨x7_20, hl, h⟩
  refine AW.weaken ?_ hl (HLe.refl _)
  unfold j19_ref08_Put at h
  refine AW.drawnL (fun i => ([0, 0, 3, 2, 0, 0, 1, 2, 0, 0, 2, 0, 0, 0, 2, 0, 2, 1, 2, 0] : List Nat).getD i 2) [(2, 3), (2, 7), (2, 10), (2, 14), (2, 16), (2, 17), (2, 18), (3, 7), (3, 10), (3, 14), (3, 16), (3, 17), (3, 18), (6, 7), (6, 10), (6, 14), (6, 16), (6, 17), (6, 18), (7, 10), (7, 14), (7, 16), (7, 17), (7, 18), (10, 14), (10, 16), (10, 17), (10, 18), (14, 17), (14, 18)] [0, 1, 4, 5, 8, 9, 11, 12, 13, 15, 2, 3, 6, 7, 10, 14, 16, 17, 18, 19] Tryz.mixed h (by decide +kernel) ?_
  clear h
  intro ψ σ h
  refine Dp rfl rfl rfl rfl (V_move rfl rfl) ?_
  refine Dp rfl rfl rfl rfl (V_fld rfl Tryz.underlying179 rfl ty3 (by decide) rfl) ?_
  refine Dp rfl rfl rfl rfl (V_fld rfl Tryz.underlying179 rfl ty9 (by decide) rfl) ?_
  obtain ⟨x55_21, hc, h⟩ := h
  refine Dp rfl rfl rfl rfl (V_ld rfl Tryz.underlying9 rfl rfl hc) ?_
  refine Dp rfl rfl rfl rfl (V_fld rfl Tryz.underlying179 rfl ty30 (by decide) rfl) ?_
  obtain ⟨x59_22, hc, h⟩ := h
  refine Dp rfl rfl rfl rfl (V_ld rfl Tryz.underlying30 rfl rfl hc) ?_
  refine Dp rfl rfl rfl rfl (V_fld rfl Tryz.underlying179 rfl ty3 (by decide) rfl) ?_
  obtain ⟨x62_23, hc, h⟩ := h
  refine Dp rfl rfl rfl rfl (V_ld rfl Tryz.underlying3 rfl rfl hc) ?_
  refine Dp rfl rfl rfl rfl (V_add rfl rfl rfl) ?_
  refine Dp rfl rfl rfl rfl (V_move rfl rfl) ?_
  obtain ⟨x52_24, hc, h⟩ := h
  refine Dr rfl rfl rfl rfl (R_ld rfl Tryz.underlying3 rfl rfl hc) ?_
  refine Dg rfl rfl rfl rfl (X_call rfl Tryz.func104 rfl rfl rfl (ACalls.mono h ?_))
  rintro v σ ⟨x53_25, rfl, h⟩
  refine Dc rfl rfl rfl rfl (F_s2b rfl Tryz.underlying9 Tryz.underlying30 Tryz.underlying5 rfl) (X_cvt rfl rfl (awp_mono _ h ?_))
  rintro v σ ⟨x56_26, rfl, h⟩
  refine Dg rfl rfl rfl rfl (X_call rfl Tryz.func103 rfl rfl rfl (ACalls.mono h ?_))
  rintro v σ ⟨x57_27, rfl, h⟩
  refine Dg rfl rfl rfl rfl (X_call rfl Tryz.func103 rfl rfl rfl (ACalls.mono h ?_))
  rintro v σ ⟨x60_28, rfl, h⟩
  refine Dg rfl rfl rfl rfl (X_call rfl Tryz.func104 rfl rfl rfl (ACalls.mono h ?_))
  rintro v σ ⟨x64_29, rfl, h⟩
  refine Dg rfl rfl rfl rfl (X_call rfl Tryz.func104 rfl rfl rfl (ACalls.mono h ?_))
  rintro v σ ⟨x66_30, rfl, h⟩
  refine Da rfl rfl rfl rfl (A_bsl (vs := [(0, Sl.v x4_5), (1, Sl.v x53_25), (2, Sl.v x57_27), (3, Sl.v x60_28), (4, Sl.v x64_29), (5, Sl.v x66_30)]) (cs := #[Sl.v x4_5, Sl.v x53_25, Sl.v x57_27, Sl.v x60_28, Sl.v x64_29, Sl.v x66_30]) rfl Tryz.underlying208 ty30 (by decide) rfl rfl) fun x67_31 g1 g2 => ?_
  replace h := h x67_31 g1 g2
  refine Dg rfl rfl rfl rfl (X_call rfl Tryz.func72 rfl rfl rfl (ACalls.mono h ?_))
  rintro v σ ⟨x68_32, rfl, h⟩
  refine Dp rfl rfl rfl rfl (V_asg rfl rfl) ?_
  refine ⟨_, FrEq.refl _, fun hdj => ?_⟩
  replace h := h hdj
  refine blockN ?_
  refine thenN ?_
  refine AW.reg ?_
  refine Lp (V_move rfl rfl) rfl rfl ?_
  refine Lp (V_add rfl rfl rfl) rfl rfl ?_
  refine Lp (V_asg rfl rfl) rfl rfl ?_
  refine Lnil ?_
  refine thenN ?_
  refine ARound.head (fr' := [(0, Sl.v a0), (4, Sl.v x68_32), (5, .int .i64 (IntKind.i64.wrap (x5_6 + 1)))]) ?_ (FrLe.cons rfl (FrLe.cons rfl (FrLe.cons rfl (FrLe.nil _))))
  exact hY4 _ _ h

def j4_ref08_Get (B : World) (ro : AH) (x12_1 : Nat) (Q : Sl → Bool → AH → Prop) (x6_5 : Sl) (σ : AH) : Prop :=
 c_ref01_Reader_Left B ro (some ⟨x12_1, 0, none⟩) σ fun x77_6 σ =>
 Q x6_5 (decide (x77_6 = 0)) σ

def j20_ref08_Get (B : World) (ro : AH) (x6_8 : Sl) (x7_9 : Int) (x8_11 : Nat) (x12_1 : Nat) (x14_2 : Int) (x44_16 : Int) (Q : Sl → Bool → AH → Prop) (Y7 : (Sl × Int) → AH → Prop) (x59_21 : Bool) (σ : AH) : Prop :=
 if (x59_21 = true) ∨ (3 < x44_16) then
  Q (⟨none, 0, 0⟩ : Sl) false σ
 else
 stN ((⟨x8_11, 0, none⟩ : Addr).add 4) (fun σ =>
  stN ((⟨x8_11, 0, none⟩ : Addr).add 5) (fun σ =>
   ∃ (x72_22a : Int) (x72_22b : ByteArray) (x72_22c : Sl) (x72_22d : Int) (x72_22e : Bool) (x72_22f : Bool), cellsAt ro σ ⟨x8_11, 0, none⟩ 0 [.int .i64 x72_22a, .string x72_22b, Sl.v x72_22c, .int .i64 x72_22d, .bool x72_22e, .bool x72_22f] ∧
   nw ro σ (.cells #[.int .i64 x72_22a, .string x72_22b, Sl.v x72_22c, .int .i64 x72_22d, .bool x72_22e, .bool x72_22f] 179) fun x73_23 σ =>
   awp Tryz.prog ro (Builtin.append_ #[96, 96] 96 #[Sl.v x6_8, Sl.v (⟨some ⟨x73_23, 0, none⟩, 1, 1⟩ : Sl)]) (fun v σ => ∃ (x74_24 : Sl), v = Sl.v x74_24 ∧
    Y7 (x74_24, IntKind.i64.wrap (x7_9 + 1)) σ) σ) [.bool (decide (1 < x44_16))] 0 σ) [.bool (decide ((Int.tmod x44_16 2) = 1))] 0 σ

def j18_ref08_Get (B : World) (ro : AH) (x6_8 : Sl) (x7_9 : Int) (x8_11 : Nat) (x12_1 : Nat) (x14_2 : Int) (x44_16 : Int) (Q : Sl → Bool → AH → Prop) (Y7 : (Sl × Int) → AH → Prop) (x54_19 : Bool) (σ : AH) : Prop :=
 if x54_19 = true then
  j20_ref08_Get B ro x6_8 x7_9 x8_11 x12_1 x14_2 x44_16 Q Y7 true σ
 else
 ∃ (x57_25 : Int), acell ro σ ⟨x8_11, 0, none⟩ = some (.int .i64 x57_25) ∧
 j20_ref08_Get B ro x6_8 x7_9 x8_11 x12_1 x14_2 x44_16 Q Y7 (decide (4 < x57_25)) σ

def l7_ref08_Get (B : World) (ro : AH) (x12_1 : Nat) (x14_2 : Int) (Q : Sl → Bool → AH → Prop) : (Sl × Int) → AH → ((Sl × Int) → AH → Prop) → Prop := fun ⟨x6_8, x7_9⟩ σ Y7 =>
 if x7_9 < x14_2 then
  c_ref01_Reader_Num B ro (some ⟨x12_1, 0, none⟩) σ fun x30_10 σ =>
  nw ro σ (.cells #[.int .i64 0, .string ByteArray.empty, Sl.v (⟨none, 0, 0⟩ : Sl), .int .i64 0, .bool false, .bool false] 179) fun x8_11 σ =>
  stN ⟨x8_11, 0, none⟩ (fun σ =>
   c_ref01_Reader_Blob B ro (some ⟨x12_1, 0, none⟩) σ fun x33_12 σ =>
   awp Tryz.prog ro (convert 30 9 (Sl.v x33_12)) (fun v σ =>
    (∃ (x34_13 : ByteArray), v = .string x34_13 ∧
     stN ((⟨x8_11, 0, none⟩ : Addr).add 1) (fun σ =>
      c_ref01_Reader_Blob B ro (some ⟨x12_1, 0, none⟩) σ fun x37_14 σ =>
      stN ((⟨x8_11, 0, none⟩ : Addr).add 2) (fun σ =>
       c_ref01_Reader_Num B ro (some ⟨x12_1, 0, none⟩) σ fun x40_15 σ =>
       stN ((⟨x8_11, 0, none⟩ : Addr).add 3) (fun σ =>
        c_ref01_Reader_Num B ro (some ⟨x12_1, 0, none⟩) σ fun x44_16 σ =>
        ∃ (x48_17 : Int), acell ro σ ((⟨x12_1, 0, none⟩ : Addr).add 2) = some (.int .i64 x48_17) ∧
        if ¬ (x48_17 = 0) then
         j18_ref08_Get B ro x6_8 x7_9 x8_11 x12_1 x14_2 x44_16 Q Y7 true σ
        else
        ∃ (x52_26 : Int), acell ro σ ⟨x8_11, 0, none⟩ = some (.int .i64 x52_26) ∧
        j18_ref08_Get B ro x6_8 x7_9 x8_11 x12_1 x14_2 x44_16 Q Y7 (decide (x52_26 < 1)) σ) [.int .i64 (IntKind.i64.wrap (x40_15 - 1))] 0 σ) [Sl.v x37_14] 0 σ) [.string x34_13] 0 σ)) σ) [.int .i64 x30_10, .string ByteArray.empty, Sl.v (⟨none, 0, 0⟩ : Sl), .int .i64 0, .bool false, .bool false] 0 σ
 else
 j4_ref08_Get B ro x12_1 Q x6_8 σ

def f_ref08_Get (B : World) (ro : AH) (a0 : Sl) (σ : AH) (Q : Sl → Bool → AH → Prop) : Prop :=
 nw ro σ (.cells #[Sl.v a0, .int .i64 0, .int .i64 0] 154) fun x12_1 σ =>
 c_ref01_Reader_Num B ro (some ⟨x12_1, 0, none⟩) σ fun x14_2 σ =>
 ∃ (x18_3 : Int), acell ro σ ((⟨x12_1, 0, none⟩ : Addr).add 2) = some (.int .i64 x18_3) ∧
 if (¬ (x18_3 = 0)) ∨ (16 < x14_2) then
  Q (⟨none, 0, 0⟩ : Sl) false σ
 else
 lfpD (l7_ref08_Get B ro x12_1 x14_2 Q ) ((⟨none, 0, 0⟩ : Sl), 0) σ

set_option maxRecDepth 100000 in
set_option maxHeartbeats 4000000 in
theorem ref08_Get_ok {B : World} {ro : AH} {a0 : Sl} {σ : AH} {Q : Sl → Bool → AH → Prop} (h : Sep ro σ → f_ref08_Get B ro a0 σ Q) : c_ref08_Get B ro a0 σ Q := by
  refine ACalls.of_sep fun hsep => ?_
  replace h := h hsep
  refine ACalls.of_body (args := [Sl.v a0]) Tryz.func53 rfl (by rw [Tryz.ntmps53]; simp) ?_
  rw [Tryz.ntmps53]
  unfold f_ref08_Get at h
  refine AW.seq ?_
  refine AW.reg ?_
  refine Lp (V_asg rfl rfl) rfl rfl ?_
  refine Lp (V_asg rfl rfl) rfl rfl ?_
  refine Lnil ?_
  refine thenN ?_
  refine AW.seq ?_
  refine AW.reg ?_
  refine Lp (V_move rfl rfl) rfl rfl ?_
  refine Lp (V_bld (vs := [(0, Sl.v a0)]) (cs := #[Sl.v a0, .int .i64 0, .int .i64 0]) rfl Tryz.underlying154 ty154 pl154 rfl rfl) rfl rfl ?_
  refine Ls rfl rfl (X_new (A_box rfl rfl) fun x12_1 g1 g2 => ?_)
  replace h := h x12_1 g1 g2
  refine Lp (V_asg rfl rfl) rfl rfl ?_
  refine Lnil ?_
  refine thenN ?_
  refine AW.seq ?_
  refine AW.reg ?_
  refine Lp (V_move rfl rfl) rfl rfl ?_
  refine Ls rfl rfl (X_call rfl Tryz.func83 rfl rfl rfl (ACalls.mono h ?_))
  rintro v σ ⟨x14_2, rfl, h⟩
  refine Lp (V_asg rfl rfl) rfl rfl ?_
  refine Lnil ?_
  refine thenN ?_
  refine AW.seq ?_
  refine AW.seq ?_
  refine AW.reg ?_
  refine Lp (V_move rfl rfl) rfl rfl ?_
  refine Lp (V_nil rfl rfl) rfl rfl ?_
  refine Lp (V_fld rfl Tryz.underlying154 rfl ty3 (by decide) rfl) rfl rfl ?_
  obtain ⟨x18_3, hc, h⟩ := h
  refine Ls rfl rfl (X_ld rfl Tryz.underlying3 rfl rfl hc ?_)
  refine Lp (V_neq rfl rfl rfl) rfl rfl ?_
  refine Lp (V_move rfl rfl) rfl rfl ?_
  refine Lsplit 3 (!(decide (x18_3 = 0))) [(4, .pointer (some ⟨x12_1, 0, none⟩)), (5, .int .i64 x14_2), (23, .bool ((!(decide (x18_3 = 0))) || (decide (16 < x14_2))))] ?_ ?_ ?_
  · intro e5 hk5
    refine Ln rfl rfl rfl rfl (.inl (by rw [e5]; rfl)) ?_
    refine Ln rfl rfl rfl rfl (.inl (by rw [e5]; rfl)) ?_
    refine Lp (V_pickT rfl (evb e5) rfl) rfl rfl ?_
    exact hk5 _ (FrLe.cons rfl (FrLe.cons rfl (FrLe.cons (by rw [e5]; rfl) (FrLe.nil _))))
  · intro e5 hk5
    refine Lypb (V_move rfl rfl) rfl rfl rfl rfl e5 ?_
    refine Lypb (V_gtr rfl rfl rfl) rfl rfl rfl rfl e5 ?_
    refine Lp (V_pickF rfl (evb e5) rfl) rfl rfl ?_
    exact hk5 _ (FrLe.cons rfl (FrLe.cons rfl (FrLe.cons (by rw [e5]; rfl) (FrLe.nil _))))
  intro fr hl
  refine Lfr hl ?_
  refine Lnil ?_
  refine thenN ?_
  refine AW.iff rfl (bor_iff (bnot_iff decide_eq_true_iff) decide_eq_true_iff) h (fun h => ?_) (fun h => ?_)
  · refine AW.seq ?_
    refine AW.reg ?_
    refine Lp (V_asg rfl rfl) rfl rfl ?_
    refine Lp (V_asg rfl rfl) rfl rfl ?_
    refine Lnil ?_
    refine thenN ?_
    refine AW.ret ?_
    refine thenR ?_
    exact bR2 Tryz.results53 rfl rfl ⟨_, _, rfl, h⟩
  refine AW.skip ?_
  refine thenN ?_
  refine AW.seq ?_
  refine AW.reg ?_
  refine Lp (V_asg rfl rfl) rfl rfl ?_
  refine Lnil ?_
  refine thenN ?_
  refine AW.seqJ (fun fr σ => ∃ (x6_5 : Sl), FrLe [(4, .pointer (some ⟨x12_1, 0, none⟩)), (6, Sl.v x6_5)] fr ∧ j4_ref08_Get B ro x12_1 Q x6_5 σ) ?_ ?_
  · rintro fr σ ⟨x6_5, hl, h⟩
    refine AW.weaken ?_ hl (HLe.refl _)
    unfold j4_ref08_Get at h
    refine AW.seq ?_
    refine AW.reg ?_
    refine Lp (V_move rfl rfl) rfl rfl ?_
    refine Lp (V_move rfl rfl) rfl rfl ?_
    refine Ls rfl rfl (X_call rfl Tryz.func81 rfl rfl rfl (ACalls.mono h ?_))
    rintro v σ ⟨x77_6, rfl, h⟩
    refine Lp (V_eql rfl rfl rfl) rfl rfl ?_
    refine Lp (V_asg rfl rfl) rfl rfl ?_
    refine Lp (V_asg rfl rfl) rfl rfl ?_
    refine Lnil ?_
    refine thenN ?_
    refine AW.ret ?_
    exact bR2 Tryz.results53 rfl rfl ⟨_, _, rfl, h⟩
  refine AW.seq ?_
  refine AW.reg ?_
  refine Lp (V_asg rfl rfl) rfl rfl ?_
  refine Lnil ?_
  refine thenN ?_
  refine AW.block ?_
  refine ARound.loop (fr' := [(4, .pointer (some ⟨x12_1, 0, none⟩)), (5, .int .i64 x14_2), (6, Sl.v (⟨none, 0, 0⟩ : Sl)), (7, .int .i64 0)]) ?_ (FrLe.cons rfl (FrLe.cons rfl (FrLe.cons rfl (FrLe.cons rfl (FrLe.nil _)))))
  refine h (fun ⟨x6_8, x7_9⟩ σ => ARound _ _ _ _ _ _ [(4, .pointer (some ⟨x12_1, 0, none⟩)), (5, .int .i64 x14_2), (6, Sl.v x6_8), (7, .int .i64 x7_9)] σ) ?_
  rintro ⟨x6_8, x7_9⟩ σ Y7 hY7 h
  show AW _ _ _ _ _ _ _ _
  unfold l7_ref08_Get at h
  dsimp only at h
  refine AW.seq ?_
  refine AW.seq ?_
  refine AW.reg ?_
  refine Lp (V_move rfl rfl) rfl rfl ?_
  refine Lp (V_move rfl rfl) rfl rfl ?_
  refine Lp (V_lss rfl rfl rfl) rfl rfl ?_
  refine Lnil ?_
  refine thenN ?_
  refine AW.iff rfl decide_eq_true_iff h (fun h => ?_) (fun h => ?_)
  rotate_left
  · refine AW.exit ?_
    refine thenE ?_
    refine thenE ?_
    refine blockE ?_
    refine thenN ?_
    exact ⟨_, (FrLe.cons rfl (FrLe.cons rfl (FrLe.nil _))), h⟩
  refine AW.skip ?_
  refine thenN ?_
  refine AW.seq ?_
  refine AW.block ?_
  refine AW.seq ?_
  refine AW.reg ?_
  refine Lp (V_move rfl rfl) rfl rfl ?_
  refine Ls rfl rfl (X_call rfl Tryz.func83 rfl rfl rfl (ACalls.mono h ?_))
  rintro v σ ⟨x30_10, rfl, h⟩
  refine Lp (V_bld (vs := [(0, .int .i64 x30_10)]) (cs := #[.int .i64 x30_10, .string ByteArray.empty, Sl.v (⟨none, 0, 0⟩ : Sl), .int .i64 0, .bool false, .bool false]) rfl Tryz.underlying179 ty179 pl179 rfl rfl) rfl rfl ?_
  refine Ls rfl rfl (X_new (A_alloc rfl ty179) fun x8_11 g1 g2 => ?_)
  replace h := h x8_11 g1 g2
  refine Ls rfl rfl (X_st rfl ty179 rfl rfl rfl rfl (stN_mono h fun σ h => ?_))
  refine Lnil ?_
  refine thenN ?_
  refine AW.seq ?_
  refine AW.reg ?_
  refine Lp (V_move rfl rfl) rfl rfl ?_
  refine Ls rfl rfl (X_call rfl Tryz.func82 rfl rfl rfl (ACalls.mono h ?_))
  rintro v σ ⟨x33_12, rfl, h⟩
  refine Ls rfl rfl (X_cvt rfl rfl (awp_mono _ h ?_))
  rintro v σ ⟨x34_13, rfl, h⟩
  refine Lp (V_fld rfl Tryz.underlying179 rfl ty9 (by decide) rfl) rfl rfl ?_
  refine Ls rfl rfl (X_st rfl ty9 rfl rfl rfl rfl (stN_mono h fun σ h => ?_))
  refine Lnil ?_
  refine thenN ?_
  refine AW.seq ?_
  refine AW.reg ?_
  refine Lp (V_move rfl rfl) rfl rfl ?_
  refine Ls rfl rfl (X_call rfl Tryz.func82 rfl rfl rfl (ACalls.mono h ?_))
  rintro v σ ⟨x37_14, rfl, h⟩
  refine Lp (V_fld rfl Tryz.underlying179 rfl ty30 (by decide) rfl) rfl rfl ?_
  refine Ls rfl rfl (X_st rfl ty30 rfl rfl rfl rfl (stN_mono h fun σ h => ?_))
  refine Lnil ?_
  refine thenN ?_
  refine AW.seq ?_
  refine AW.reg ?_
  refine Lp (V_move rfl rfl) rfl rfl ?_
  refine Ls rfl rfl (X_call rfl Tryz.func83 rfl rfl rfl (ACalls.mono h ?_))
  rintro v σ ⟨x40_15, rfl, h⟩
  refine Lp (V_sub rfl rfl rfl) rfl rfl ?_
  refine Lp (V_fld rfl Tryz.underlying179 rfl ty3 (by decide) rfl) rfl rfl ?_
  refine Ls rfl rfl (X_st rfl ty3 rfl rfl rfl rfl (stN_mono h fun σ h => ?_))
  refine Lnil ?_
  refine thenN ?_
  refine AW.seq ?_
  refine AW.reg ?_
  refine Lp (V_move rfl rfl) rfl rfl ?_
  refine Ls rfl rfl (X_call rfl Tryz.func83 rfl rfl rfl (ACalls.mono h ?_))
  rintro v σ ⟨x44_16, rfl, h⟩
  refine Lp (V_asg rfl rfl) rfl rfl ?_
  refine Lnil ?_
  refine thenN ?_
  refine AW.seq ?_
  refine AW.seq ?_
  refine AW.reg ?_
  refine Lp (V_move rfl rfl) rfl rfl ?_
  refine Lp (V_nil rfl rfl) rfl rfl ?_
  refine Lp (V_fld rfl Tryz.underlying154 rfl ty3 (by decide) rfl) rfl rfl ?_
  obtain ⟨x48_17, hc, h⟩ := h
  refine Ls rfl rfl (X_ld rfl Tryz.underlying3 rfl rfl hc ?_)
  refine Lp (V_neq rfl rfl rfl) rfl rfl ?_
  refine Lp (V_move rfl rfl) rfl rfl ?_
  refine LsplitJ 4 (!(decide (x48_17 = 0))) (bnot_iff decide_eq_true_iff) h (fun fr σ => ∃ (x54_19 : Bool), FrLe [(4, .pointer (some ⟨x12_1, 0, none⟩)), (5, .int .i64 x14_2), (6, Sl.v x6_8), (7, .int .i64 x7_9), (8, .pointer (some ⟨x8_11, 0, none⟩)), (9, .int .i64 x44_16), (54, .bool x54_19)] fr ∧ j18_ref08_Get B ro x6_8 x7_9 x8_11 x12_1 x14_2 x44_16 Q Y7 x54_19 σ) ?_ ?_ ?_
  · intro h e5 hk5
    refine Ln rfl rfl rfl rfl (.inl (by rw [e5]; rfl)) ?_
    refine Ln rfl rfl rfl rfl (.inl (by rw [e5]; rfl)) ?_
    refine Ln rfl rfl rfl rfl (.inl (by rw [e5]; rfl)) ?_
    refine Lp (V_pickT rfl (evb e5) rfl) rfl rfl ?_
    exact hk5 _ _ ⟨_, (FrLe.cons rfl (FrLe.cons rfl (FrLe.cons rfl (FrLe.cons rfl (FrLe.cons rfl (FrLe.cons rfl (FrLe.cons rfl (FrLe.nil _)))))))), h⟩
  · intro h e5 hk5
    refine Lypb (V_fld rfl Tryz.underlying179 rfl ty3 (by decide) rfl) rfl rfl rfl rfl e5 ?_
    obtain ⟨x52_26, hc, h⟩ := h
    refine Lyb rfl rfl rfl rfl e5 (X_ld rfl Tryz.underlying3 rfl rfl hc ?_)
    refine Lypb (V_lss rfl rfl rfl) rfl rfl rfl rfl e5 ?_
    refine Lp (V_pickF rfl (evb e5) rfl) rfl rfl ?_
    exact hk5 _ _ ⟨_, (FrLe.cons rfl (FrLe.cons rfl (FrLe.cons rfl (FrLe.cons rfl (FrLe.cons rfl (FrLe.cons rfl (FrLe.cons rfl (FrLe.nil _)))))))), h⟩
  rintro fr σ ⟨x54_19, hl, h⟩
  unfold j18_ref08_Get at h
  refine Lfr hl ?_
  refine Lp (V_move rfl rfl) rfl rfl ?_
  refine LsplitJ 4 x54_19 Iff.rfl h (fun fr σ => ∃ (x59_21 : Bool), FrLe [(4, .pointer (some ⟨x12_1, 0, none⟩)), (5, .int .i64 x14_2), (6, Sl.v x6_8), (7, .int .i64 x7_9), (8, .pointer (some ⟨x8_11, 0, none⟩)), (9, .int .i64 x44_16), (59, .bool x59_21)] fr ∧ j20_ref08_Get B ro x6_8 x7_9 x8_11 x12_1 x14_2 x44_16 Q Y7 x59_21 σ) ?_ ?_ ?_
  · intro h e10 hk10
    refine Ln rfl rfl rfl rfl (.inl (by rw [e10]; rfl)) ?_
    refine Ln rfl rfl rfl rfl (.inl (by rw [e10]; rfl)) ?_
    refine Ln rfl rfl rfl rfl (.inl (by rw [e10]; rfl)) ?_
    refine Lp (V_pickT rfl (evb e10) rfl) rfl rfl ?_
    exact hk10 _ _ ⟨_, (FrLe.cons rfl (FrLe.cons rfl (FrLe.cons rfl (FrLe.cons rfl (FrLe.cons rfl (FrLe.cons rfl (FrLe.cons rfl (FrLe.nil _)))))))), h⟩
  · intro h e10 hk10
    refine Lypb (V_fld rfl Tryz.underlying179 rfl ty3 (by decide) rfl) rfl rfl rfl rfl e10 ?_
    obtain ⟨x57_25, hc, h⟩ := h
    refine Lyb rfl rfl rfl rfl e10 (X_ld rfl Tryz.underlying3 rfl rfl hc ?_)
    refine Lypb (V_gtr rfl rfl rfl) rfl rfl rfl rfl e10 ?_
    refine Lp (V_pickF rfl (evb e10) rfl) rfl rfl ?_
    exact hk10 _ _ ⟨_, (FrLe.cons rfl (FrLe.cons rfl (FrLe.cons rfl (FrLe.cons rfl (FrLe.cons rfl (FrLe.cons rfl (FrLe.cons rfl (FrLe.nil _)))))))), h⟩
  rintro fr σ ⟨x59_21, hl, h⟩
  unfold j20_ref08_Get at h
  refine Lfr hl ?_
  refine Lp (V_move rfl rfl) rfl rfl ?_
  refine Lsplit 3 x59_21 [(4, .pointer (some ⟨x12_1, 0, none⟩)), (5, .int .i64 x14_2), (6, Sl.v x6_8), (7, .int .i64 x7_9), (8, .pointer (some ⟨x8_11, 0, none⟩)), (9, .int .i64 x44_16), (63, .bool (x59_21 || (decide (3 < x44_16))))] ?_ ?_ ?_
  · intro e15 hk15
    refine Ln rfl rfl rfl rfl (.inl (by rw [e15]; rfl)) ?_
    refine Ln rfl rfl rfl rfl (.inl (by rw [e15]; rfl)) ?_
    refine Lp (V_pickT rfl (evb e15) rfl) rfl rfl ?_
    exact hk15 _ (FrLe.cons rfl (FrLe.cons rfl (FrLe.cons rfl (FrLe.cons rfl (FrLe.cons rfl (FrLe.cons rfl (FrLe.cons (by rw [e15]; rfl) (FrLe.nil _))))))))
  · intro e15 hk15
    refine Lypb (V_move rfl rfl) rfl rfl rfl rfl e15 ?_
    refine Lypb (V_gtr rfl rfl rfl) rfl rfl rfl rfl e15 ?_
    refine Lp (V_pickF rfl (evb e15) rfl) rfl rfl ?_
    exact hk15 _ (FrLe.cons rfl (FrLe.cons rfl (FrLe.cons rfl (FrLe.cons rfl (FrLe.cons rfl (FrLe.cons rfl (FrLe.cons (by rw [e15]; rfl) (FrLe.nil _))))))))
  intro fr hl
  refine Lfr hl ?_
  refine Lnil ?_
  refine thenN ?_
  refine AW.iff rfl (bor_iff Iff.rfl decide_eq_true_iff) h (fun h => ?_) (fun h => ?_)
  · refine AW.seq ?_
    refine AW.reg ?_
    refine Lp (V_asg rfl rfl) rfl rfl ?_
    refine Lp (V_asg rfl rfl) rfl rfl ?_
    refine Lnil ?_
    refine thenN ?_
    refine AW.ret ?_
    refine thenR ?_
    refine blockR ?_
    refine thenR ?_
    refine thenR ?_
    refine blockR ?_
    refine thenR ?_
    exact bR2 Tryz.results53 rfl rfl ⟨_, _, rfl, h⟩
  refine AW.skip ?_
  refine thenN ?_
  refine AW.seq ?_
  refine AW.reg ?_
  refine Lp (V_move rfl rfl) rfl rfl ?_
  refine Lp (V_rem rfl rfl rfl (by decide)) rfl rfl ?_
  refine Lp (V_eql rfl rfl rfl) rfl rfl ?_
  refine Lp (V_move rfl rfl) rfl rfl ?_
  refine Lp (V_gtr rfl rfl rfl) rfl rfl ?_
  refine Lp (V_fld rfl Tryz.underlying179 rfl ty4 (by decide) rfl) rfl rfl ?_
  refine Ls rfl rfl (X_st rfl ty4 rfl rfl rfl rfl (stN_mono h fun σ h => ?_))
  refine Lp (V_fld rfl Tryz.underlying179 rfl ty4 (by decide) rfl) rfl rfl ?_
  refine Ls rfl rfl (X_st rfl ty4 rfl rfl rfl rfl (stN_mono h fun σ h => ?_))
  refine Lnil ?_
  refine thenN ?_
  refine AW.reg ?_
  refine Lp (V_move rfl rfl) rfl rfl ?_
  obtain ⟨x72_22a, x72_22b, x72_22c, x72_22d, x72_22e, x72_22f, hc, h⟩ := h
  refine Ls rfl rfl (X_lda rfl Tryz.underlying179 rfl ty179 rfl hc ?_)
  refine Ls rfl rfl (X_new (A_bsl (vs := [(0, .agg #[.int .i64 x72_22a, .string x72_22b, Sl.v x72_22c, .int .i64 x72_22d, .bool x72_22e, .bool x72_22f])]) (cs := #[.int .i64 x72_22a, .string x72_22b, Sl.v x72_22c, .int .i64 x72_22d, .bool x72_22e, .bool x72_22f]) rfl Tryz.underlying96 ty179 (by decide) rfl rfl) fun x73_23 g1 g2 => ?_)
  replace h := h x73_23 g1 g2
  refine Ls rfl rfl (X_bi (s := Builtin.append_ #[96, 96] 96 #[Sl.v x6_8, Sl.v (⟨some ⟨x73_23, 0, none⟩, 1, 1⟩ : Sl)]) rfl rfl (fun _ => rfl) (awp_mono _ h ?_))
  rintro v σ ⟨x74_24, rfl, h⟩
  refine Lp (V_asg rfl rfl) rfl rfl ?_
  refine Lnil ?_
  refine blockN ?_
  refine thenN ?_
  refine AW.reg ?_
  refine Lp (V_move rfl rfl) rfl rfl ?_
  refine Lp (V_add rfl rfl rfl) rfl rfl ?_
  refine Lp (V_asg rfl rfl) rfl rfl ?_
  refine Lnil ?_
  refine thenN ?_
  refine ARound.head (fr' := [(4, .pointer (some ⟨x12_1, 0, none⟩)), (5, .int .i64 x14_2), (6, Sl.v x74_24), (7, .int .i64 (IntKind.i64.wrap (x7_9 + 1)))]) ?_ (FrLe.cons rfl (FrLe.cons rfl (FrLe.cons rfl (FrLe.cons rfl (FrLe.nil _)))))
  exact hY7 _ _ h

def j1_ref08_SameOps (B : World) (ro : AH) (Q : Bool → AH → Prop) (σ : AH) : Prop :=
 Q true σ

def j20_ref08_SameOps (B : World) (ro : AH) (a0 : Sl) (a1 : Sl) (x5_3 : Int) (Q : Bool → AH → Prop) (Y2 : (Int) → AH → Prop) (x67_21 : Bool) (σ : AH) : Prop :=
 if x67_21 = true then
  Q false σ
 else
 Y2 (IntKind.i64.wrap (x5_3 + 1)) σ

def j18_ref08_SameOps (B : World) (ro : AH) (a0 : Sl) (a1 : Sl) (x5_3 : Int) (x6_8 : Nat) (x7_9 : Nat) (Q : Bool → AH → Prop) (Y2 : (Int) → AH → Prop) (x60_19 : Bool) (σ : AH) : Prop :=
 if x60_19 = true then
  j20_ref08_SameOps B ro a0 a1 x5_3 Q Y2 true σ
 else
 ∃ (x63_22 : Bool), acell ro σ ((⟨x6_8, 0, none⟩ : Addr).add 5) = some (.bool x63_22) ∧
 ∃ (x65_23 : Bool), acell ro σ ((⟨x7_9, 0, none⟩ : Addr).add 5) = some (.bool x65_23) ∧
 j20_ref08_SameOps B ro a0 a1 x5_3 Q Y2 (!(x63_22 == x65_23)) σ

def j16_ref08_SameOps (B : World) (ro : AH) (a0 : Sl) (a1 : Sl) (x5_3 : Int) (x6_8 : Nat) (x7_9 : Nat) (Q : Bool → AH → Prop) (Y2 : (Int) → AH → Prop) (x53_17 : Bool) (σ : AH) : Prop :=
 if x53_17 = true then
  j18_ref08_SameOps B ro a0 a1 x5_3 x6_8 x7_9 Q Y2 true σ
 else
 ∃ (x56_24 : Bool), acell ro σ ((⟨x6_8, 0, none⟩ : Addr).add 4) = some (.bool x56_24) ∧
 ∃ (x58_25 : Bool), acell ro σ ((⟨x7_9, 0, none⟩ : Addr).add 4) = some (.bool x58_25) ∧
 j18_ref08_SameOps B ro a0 a1 x5_3 x6_8 x7_9 Q Y2 (!(x56_24 == x58_25)) σ

def j14_ref08_SameOps (B : World) (ro : AH) (a0 : Sl) (a1 : Sl) (x5_3 : Int) (x6_8 : Nat) (x7_9 : Nat) (Q : Bool → AH → Prop) (Y2 : (Int) → AH → Prop) (x46_15 : Bool) (σ : AH) : Prop :=
 if x46_15 = true then
  j16_ref08_SameOps B ro a0 a1 x5_3 x6_8 x7_9 Q Y2 true σ
 else
 ∃ (x49_26 : Int), acell ro σ ((⟨x6_8, 0, none⟩ : Addr).add 3) = some (.int .i64 x49_26) ∧
 ∃ (x51_27 : Int), acell ro σ ((⟨x7_9, 0, none⟩ : Addr).add 3) = some (.int .i64 x51_27) ∧
 j16_ref08_SameOps B ro a0 a1 x5_3 x6_8 x7_9 Q Y2 (!(decide (x49_26 = x51_27))) σ

def j12_ref08_SameOps (B : World) (ro : AH) (a0 : Sl) (a1 : Sl) (x5_3 : Int) (x6_8 : Nat) (x7_9 : Nat) (Q : Bool → AH → Prop) (Y2 : (Int) → AH → Prop) (x38_13 : Bool) (σ : AH) : Prop :=
 if x38_13 = true then
  j14_ref08_SameOps B ro a0 a1 x5_3 x6_8 x7_9 Q Y2 true σ
 else
 ∃ (x41_28 : Sl), acell ro σ ((⟨x6_8, 0, none⟩ : Addr).add 2) = some (Sl.v x41_28) ∧
 ∃ (x43_29 : Sl), acell ro σ ((⟨x7_9, 0, none⟩ : Addr).add 2) = some (Sl.v x43_29) ∧
 c_ref01_Same B ro x41_28 x43_29 σ fun x44_30 σ =>
 j14_ref08_SameOps B ro a0 a1 x5_3 x6_8 x7_9 Q Y2 (!x44_30) σ

def l2_ref08_SameOps (B : World) (ro : AH) (a0 : Sl) (a1 : Sl) (Q : Bool → AH → Prop) : (Int) → AH → ((Int) → AH → Prop) → Prop := fun x5_3 σ Y2 =>
 if x5_3 < (a0.len : Int) then
  lent σ fun ψ σ =>
   ∃ p21_4 : Addr, a0.a = some p21_4 ∧ (0 : Int) ≤ x5_3 ∧ x5_3 < (a0.len : Int) ∧
   ∃ p25_5 : Addr, a1.a = some p25_5 ∧ (0 : Int) ≤ x5_3 ∧ x5_3 < (a1.len : Int) ∧
   ∃ (x26_6a : Int) (x26_6b : ByteArray) (x26_6c : Sl) (x26_6d : Int) (x26_6e : Bool) (x26_6f : Bool), cellsAt (join ro ψ) (fun _ => none) (p25_5.add (Int.toNat x5_3 * 6)) 0 [.int .i64 x26_6a, .string x26_6b, Sl.v x26_6c, .int .i64 x26_6d, .bool x26_6e, .bool x26_6f] ∧
   ∃ (x22_7a : Int) (x22_7b : ByteArray) (x22_7c : Sl) (x22_7d : Int) (x22_7e : Bool) (x22_7f : Bool), cellsAt (join ro ψ) σ (p21_4.add (Int.toNat x5_3 * 6)) 0 [.int .i64 x22_7a, .string x22_7b, Sl.v x22_7c, .int .i64 x22_7d, .bool x22_7e, .bool x22_7f] ∧
   nw (join ro ψ) σ (.cells #[.int .i64 0, .string ByteArray.empty, Sl.v (⟨none, 0, 0⟩ : Sl), .int .i64 0, .bool false, .bool false] 179) fun x6_8 σ =>
   nw (join ro ψ) σ (.cells #[.int .i64 0, .string ByteArray.empty, Sl.v (⟨none, 0, 0⟩ : Sl), .int .i64 0, .bool false, .bool false] 179) fun x7_9 σ =>
   stN ⟨x6_8, 0, none⟩ (fun σ =>
    stN ⟨x7_9, 0, none⟩ (fun σ =>
     (Disj ψ σ → (fun σ => 
      ∃ (x28_10 : Int), acell ro σ ⟨x6_8, 0, none⟩ = some (.int .i64 x28_10) ∧
      ∃ (x30_11 : Int), acell ro σ ⟨x7_9, 0, none⟩ = some (.int .i64 x30_11) ∧
      if ¬ (x28_10 = x30_11) then
       j12_ref08_SameOps B ro a0 a1 x5_3 x6_8 x7_9 Q Y2 true σ
      else
      ∃ (x34_31 : ByteArray), acell ro σ ((⟨x6_8, 0, none⟩ : Addr).add 1) = some (.string x34_31) ∧
      ∃ (x36_32 : ByteArray), acell ro σ ((⟨x7_9, 0, none⟩ : Addr).add 1) = some (.string x36_32) ∧
      j12_ref08_SameOps B ro a0 a1 x5_3 x6_8 x7_9 Q Y2 (!(decide (x34_31 = x36_32))) σ) (join ψ σ))) [.int .i64 x26_6a, .string x26_6b, Sl.v x26_6c, .int .i64 x26_6d, .bool x26_6e, .bool x26_6f] 0 σ) [.int .i64 x22_7a, .string x22_7b, Sl.v x22_7c, .int .i64 x22_7d, .bool x22_7e, .bool x22_7f] 0 σ
 else
 j1_ref08_SameOps B ro Q σ

def f_ref08_SameOps (B : World) (ro : AH) (a0 : Sl) (a1 : Sl) (σ : AH) (Q : Bool → AH → Prop) : Prop :=
 if ¬ ((a0.len : Int) = (a1.len : Int)) then
  Q false σ
 else
 lfpD (l2_ref08_SameOps B ro a0 a1 Q ) (0) σ

set_option maxRecDepth 100000 in
set_option maxHeartbeats 4000000 in
theorem ref08_SameOps_ok {B : World} {ro : AH} {a0 : Sl} {a1 : Sl} {σ : AH} {Q : Bool → AH → Prop} (h : Sep ro σ → f_ref08_SameOps B ro a0 a1 σ Q) : c_ref08_SameOps B ro a0 a1 σ Q := by
  refine ACalls.of_sep fun hsep => ?_
  replace h := h hsep
  refine ACalls.of_body (args := [Sl.v a0, Sl.v a1]) Tryz.func54 rfl (by rw [Tryz.ntmps54]; simp) ?_
  rw [Tryz.ntmps54]
  unfold f_ref08_SameOps at h
  refine AW.seq ?_
  refine AW.reg ?_
  refine Lp (V_asg rfl rfl) rfl rfl ?_
  refine Lnil ?_
  refine thenN ?_
  refine AW.seq ?_
  refine AW.seq ?_
  refine AW.reg ?_
  refine Lp (V_move rfl rfl) rfl rfl ?_
  refine Lp (V_lenL rfl rfl Tryz.underlying96 rfl rfl) rfl rfl ?_
  refine Lp (V_move rfl rfl) rfl rfl ?_
  refine Lp (V_lenL rfl rfl Tryz.underlying96 rfl rfl) rfl rfl ?_
  refine Lp (V_neq rfl rfl rfl) rfl rfl ?_
  refine Lnil ?_
  refine thenN ?_
  refine AW.iff rfl (bnot_iff decide_eq_true_iff) h (fun h => ?_) (fun h => ?_)
  · refine AW.seq ?_
    refine AW.reg ?_
    refine Lp (V_asg rfl rfl) rfl rfl ?_
    refine Lnil ?_
    refine thenN ?_
    refine AW.ret ?_
    refine thenR ?_
    exact bR1 Tryz.results54 rfl ⟨_, rfl, h⟩
  refine AW.skip ?_
  refine thenN ?_
  refine AW.seqJ (fun fr σ => FrLe [] fr ∧ j1_ref08_SameOps B ro Q σ) ?_ ?_
  · rintro fr σ ⟨hl, h⟩
    refine AW.weaken ?_ hl (HLe.refl _)
    unfold j1_ref08_SameOps at h
    refine AW.seq ?_
    refine AW.reg ?_
    refine Lp (V_asg rfl rfl) rfl rfl ?_
    refine Lnil ?_
    refine thenN ?_
    refine AW.ret ?_
    exact bR1 Tryz.results54 rfl ⟨_, rfl, h⟩
  refine AW.seq ?_
  refine AW.reg ?_
  refine Lp (V_asg rfl rfl) rfl rfl ?_
  refine Lnil ?_
  refine thenN ?_
  refine AW.block ?_
  refine ARound.loop (fr' := [(0, Sl.v a0), (1, Sl.v a1), (5, .int .i64 0)]) ?_ (FrLe.cons rfl (FrLe.cons rfl (FrLe.cons rfl (FrLe.nil _))))
  refine h (fun x5_3 σ => ARound _ _ _ _ _ _ [(0, Sl.v a0), (1, Sl.v a1), (5, .int .i64 x5_3)] σ) ?_
  rintro x5_3 σ Y2 hY2 h
  show AW _ _ _ _ _ _ _ _
  unfold l2_ref08_SameOps at h
  refine AW.seq ?_
  refine AW.seq ?_
  refine AW.reg ?_
  refine Lp (V_move rfl rfl) rfl rfl ?_
  refine Lp (V_move rfl rfl) rfl rfl ?_
  refine Lp (V_lenL rfl rfl Tryz.underlying96 rfl rfl) rfl rfl ?_
  refine Lp (V_lss rfl rfl rfl) rfl rfl ?_
  refine Lnil ?_
  refine thenN ?_
  refine AW.iff rfl decide_eq_true_iff h (fun h => ?_) (fun h => ?_)
  rotate_left
  · refine AW.exit ?_
    refine thenE ?_
    refine thenE ?_
    refine blockE ?_
    refine thenN ?_
    exact ⟨(FrLe.nil _), h⟩
  refine AW.skip ?_
  refine thenN ?_
  refine AW.seq ?_
  refine AW.block ?_
  refine AW.seq ?_
  refine AW.drawnL (fun i => ([0, 0, 0, 3, 0, 0, 0, 0, 1, 1, 2, 2] : List Nat).getD i 2) [] [0, 1, 2, 4, 5, 6, 7, 3, 8, 9, 10, 11] Tryz.mixed h (by decide +kernel) ?_
  clear h
  intro ψ σ h
  refine Dp rfl rfl rfl rfl (V_move rfl rfl) ?_
  refine Dp rfl rfl rfl rfl (V_move rfl rfl) ?_
  obtain ⟨p21_4, ha, h0, h1, h⟩ := h
  refine Dp rfl rfl rfl rfl (V_ixA rfl Tryz.underlying96 ty179 (ixL rfl ha) rfl h0 h1) ?_
  refine Dp rfl rfl rfl rfl (V_move rfl rfl) ?_
  refine Dp rfl rfl rfl rfl (V_move rfl rfl) ?_
  obtain ⟨p25_5, ha, h0, h1, h⟩ := h
  refine Dp rfl rfl rfl rfl (V_ixA rfl Tryz.underlying96 ty179 (ixL rfl ha) rfl h0 h1) ?_
  obtain ⟨x26_6a, x26_6b, x26_6c, x26_6d, x26_6e, x26_6f, hc, h⟩ := h
  refine Dp rfl rfl rfl rfl (V_lda rfl Tryz.underlying179 rfl ty179 rfl hc) ?_
  obtain ⟨x22_7a, x22_7b, x22_7c, x22_7d, x22_7e, x22_7f, hc, h⟩ := h
  refine Dr rfl rfl rfl rfl (R_lda rfl Tryz.underlying179 rfl ty179 rfl hc) ?_
  refine Da rfl rfl rfl rfl (A_alloc rfl ty179) fun x6_8 g1 g2 => ?_
  replace h := h x6_8 g1 g2
  refine Da rfl rfl rfl rfl (A_alloc rfl ty179) fun x7_9 g1 g2 => ?_
  replace h := h x7_9 g1 g2
  refine Dg rfl rfl rfl rfl (X_st rfl ty179 rfl rfl rfl rfl (stN_mono h fun σ h => ?_))
  refine Dg rfl rfl rfl rfl (X_st rfl ty179 rfl rfl rfl rfl (stN_mono h fun σ h => ?_))
  refine ⟨_, FrEq.refl _, fun hdj => ?_⟩
  replace h := h hdj
  refine thenN ?_
  refine AW.seq ?_
  refine AW.reg ?_
  refine Lp (V_fld rfl Tryz.underlying179 rfl ty3 (by decide) rfl) rfl rfl ?_
  obtain ⟨x28_10, hc, h⟩ := h
  refine Ls rfl rfl (X_ld rfl Tryz.underlying3 rfl rfl hc ?_)
  refine Lp (V_fld rfl Tryz.underlying179 rfl ty3 (by decide) rfl) rfl rfl ?_
  obtain ⟨x30_11, hc, h⟩ := h
  refine Ls rfl rfl (X_ld rfl Tryz.underlying3 rfl rfl hc ?_)
  refine Lp (V_neq rfl rfl rfl) rfl rfl ?_
  refine Lp (V_move rfl rfl) rfl rfl ?_
  refine LsplitJ 6 (!(decide (x28_10 = x30_11))) (bnot_iff decide_eq_true_iff) h (fun fr σ => ∃ (x38_13 : Bool), FrLe [(0, Sl.v a0), (1, Sl.v a1), (5, .int .i64 x5_3), (6, .pointer (some ⟨x6_8, 0, none⟩)), (7, .pointer (some ⟨x7_9, 0, none⟩)), (38, .bool x38_13)] fr ∧ j12_ref08_SameOps B ro a0 a1 x5_3 x6_8 x7_9 Q Y2 x38_13 σ) ?_ ?_ ?_
  · intro h e5 hk5
    refine Ln rfl rfl rfl rfl (.inl (by rw [e5]; rfl)) ?_
    refine Ln rfl rfl rfl rfl (.inl (by rw [e5]; rfl)) ?_
    refine Ln rfl rfl rfl rfl (.inl (by rw [e5]; rfl)) ?_
    refine Ln rfl rfl rfl rfl (.inl (by rw [e5]; rfl)) ?_
    refine Ln rfl rfl rfl rfl (.inl (by rw [e5]; rfl)) ?_
    refine Lp (V_pickT rfl (evb e5) rfl) rfl rfl ?_
    exact hk5 _ _ ⟨_, (FrLe.cons rfl (FrLe.cons rfl (FrLe.cons rfl (FrLe.cons rfl (FrLe.cons rfl (FrLe.cons rfl (FrLe.nil _))))))), h⟩
  · intro h e5 hk5
    refine Lypb (V_fld rfl Tryz.underlying179 rfl ty9 (by decide) rfl) rfl rfl rfl rfl e5 ?_
    obtain ⟨x34_31, hc, h⟩ := h
    refine Lyb rfl rfl rfl rfl e5 (X_ld rfl Tryz.underlying9 rfl rfl hc ?_)
    refine Lypb (V_fld rfl Tryz.underlying179 rfl ty9 (by decide) rfl) rfl rfl rfl rfl e5 ?_
    obtain ⟨x36_32, hc, h⟩ := h
    refine Lyb rfl rfl rfl rfl e5 (X_ld rfl Tryz.underlying9 rfl rfl hc ?_)
    refine Lypb (V_neqS rfl rfl rfl) rfl rfl rfl rfl e5 ?_
    refine Lp (V_pickF rfl (evb e5) rfl) rfl rfl ?_
    exact hk5 _ _ ⟨_, (FrLe.cons rfl (FrLe.cons rfl (FrLe.cons rfl (FrLe.cons rfl (FrLe.cons rfl (FrLe.cons rfl (FrLe.nil _))))))), h⟩
  rintro fr σ ⟨x38_13, hl, h⟩
  unfold j12_ref08_SameOps at h
  refine Lfr hl ?_
  refine Lp (V_move rfl rfl) rfl rfl ?_
  refine LsplitJ 7 x38_13 Iff.rfl h (fun fr σ => ∃ (x46_15 : Bool), FrLe [(0, Sl.v a0), (1, Sl.v a1), (5, .int .i64 x5_3), (6, .pointer (some ⟨x6_8, 0, none⟩)), (7, .pointer (some ⟨x7_9, 0, none⟩)), (46, .bool x46_15)] fr ∧ j14_ref08_SameOps B ro a0 a1 x5_3 x6_8 x7_9 Q Y2 x46_15 σ) ?_ ?_ ?_
  · intro h e12 hk12
    refine Ln rfl rfl rfl rfl (.inl (by rw [e12]; rfl)) ?_
    refine Ln rfl rfl rfl rfl (.inl (by rw [e12]; rfl)) ?_
    refine Ln rfl rfl rfl rfl (.inl (by rw [e12]; rfl)) ?_
    refine Ln rfl rfl rfl rfl (.inl (by rw [e12]; rfl)) ?_
    refine Ln rfl rfl rfl rfl (.inl (by rw [e12]; rfl)) ?_
    refine Ln rfl rfl rfl rfl (.inl (by rw [e12]; rfl)) ?_
    refine Lp (V_pickT rfl (evb e12) rfl) rfl rfl ?_
    exact hk12 _ _ ⟨_, (FrLe.cons rfl (FrLe.cons rfl (FrLe.cons rfl (FrLe.cons rfl (FrLe.cons rfl (FrLe.cons rfl (FrLe.nil _))))))), h⟩
  · intro h e12 hk12
    refine Lypb (V_fld rfl Tryz.underlying179 rfl ty30 (by decide) rfl) rfl rfl rfl rfl e12 ?_
    obtain ⟨x41_28, hc, h⟩ := h
    refine Lyb rfl rfl rfl rfl e12 (X_ld rfl Tryz.underlying30 rfl rfl hc ?_)
    refine Lypb (V_fld rfl Tryz.underlying179 rfl ty30 (by decide) rfl) rfl rfl rfl rfl e12 ?_
    obtain ⟨x43_29, hc, h⟩ := h
    refine Lyb rfl rfl rfl rfl e12 (X_ld rfl Tryz.underlying30 rfl rfl hc ?_)
    refine Lyb rfl rfl rfl rfl e12 (X_call rfl Tryz.func26 rfl rfl rfl (ACalls.mono h ?_))
    rintro v σ ⟨x44_30, rfl, h⟩
    refine Lypb (V_not rfl rfl) rfl rfl rfl rfl e12 ?_
    refine Lp (V_pickF rfl (evb e12) rfl) rfl rfl ?_
    exact hk12 _ _ ⟨_, (FrLe.cons rfl (FrLe.cons rfl (FrLe.cons rfl (FrLe.cons rfl (FrLe.cons rfl (FrLe.cons rfl (FrLe.nil _))))))), h⟩
  rintro fr σ ⟨x46_15, hl, h⟩
  unfold j14_ref08_SameOps at h
  refine Lfr hl ?_
  refine Lp (V_move rfl rfl) rfl rfl ?_
  refine LsplitJ 6 x46_15 Iff.rfl h (fun fr σ => ∃ (x53_17 : Bool), FrLe [(0, Sl.v a0), (1, Sl.v a1), (5, .int .i64 x5_3), (6, .pointer (some ⟨x6_8, 0, none⟩)), (7, .pointer (some ⟨x7_9, 0, none⟩)), (53, .bool x53_17)] fr ∧ j16_ref08_SameOps B ro a0 a1 x5_3 x6_8 x7_9 Q Y2 x53_17 σ) ?_ ?_ ?_
  · intro h e20 hk20
    refine Ln rfl rfl rfl rfl (.inl (by rw [e20]; rfl)) ?_
    refine Ln rfl rfl rfl rfl (.inl (by rw [e20]; rfl)) ?_
    refine Ln rfl rfl rfl rfl (.inl (by rw [e20]; rfl)) ?_
    refine Ln rfl rfl rfl rfl (.inl (by rw [e20]; rfl)) ?_
    refine Ln rfl rfl rfl rfl (.inl (by rw [e20]; rfl)) ?_
    refine Lp (V_pickT rfl (evb e20) rfl) rfl rfl ?_
    exact hk20 _ _ ⟨_, (FrLe.cons rfl (FrLe.cons rfl (FrLe.cons rfl (FrLe.cons rfl (FrLe.cons rfl (FrLe.cons rfl (FrLe.nil _))))))), h⟩
  · intro h e20 hk20
    refine Lypb (V_fld rfl Tryz.underlying179 rfl ty3 (by decide) rfl) rfl rfl rfl rfl e20 ?_
    obtain ⟨x49_26, hc, h⟩ := h
    refine Lyb rfl rfl rfl rfl e20 (X_ld rfl Tryz.underlying3 rfl rfl hc ?_)
    refine Lypb (V_fld rfl Tryz.underlying179 rfl ty3 (by decide) rfl) rfl rfl rfl rfl e20 ?_
    obtain ⟨x51_27, hc, h⟩ := h
    refine Lyb rfl rfl rfl rfl e20 (X_ld rfl Tryz.underlying3 rfl rfl hc ?_)
    refine Lypb (V_neq rfl rfl rfl) rfl rfl rfl rfl e20 ?_
    refine Lp (V_pickF rfl (evb e20) rfl) rfl rfl ?_
    exact hk20 _ _ ⟨_, (FrLe.cons rfl (FrLe.cons rfl (FrLe.cons rfl (FrLe.cons rfl (FrLe.cons rfl (FrLe.cons rfl (FrLe.nil _))))))), h⟩
  rintro fr σ ⟨x53_17, hl, h⟩
  unfold j16_ref08_SameOps at h
  refine Lfr hl ?_
  refine Lp (V_move rfl rfl) rfl rfl ?_
  refine LsplitJ 6 x53_17 Iff.rfl h (fun fr σ => ∃ (x60_19 : Bool), FrLe [(0, Sl.v a0), (1, Sl.v a1), (5, .int .i64 x5_3), (6, .pointer (some ⟨x6_8, 0, none⟩)), (7, .pointer (some ⟨x7_9, 0, none⟩)), (60, .bool x60_19)] fr ∧ j18_ref08_SameOps B ro a0 a1 x5_3 x6_8 x7_9 Q Y2 x60_19 σ) ?_ ?_ ?_
  · intro h e27 hk27
    refine Ln rfl rfl rfl rfl (.inl (by rw [e27]; rfl)) ?_
    refine Ln rfl rfl rfl rfl (.inl (by rw [e27]; rfl)) ?_
    refine Ln rfl rfl rfl rfl (.inl (by rw [e27]; rfl)) ?_
    refine Ln rfl rfl rfl rfl (.inl (by rw [e27]; rfl)) ?_
    refine Ln rfl rfl rfl rfl (.inl (by rw [e27]; rfl)) ?_
    refine Lp (V_pickT rfl (evb e27) rfl) rfl rfl ?_
    exact hk27 _ _ ⟨_, (FrLe.cons rfl (FrLe.cons rfl (FrLe.cons rfl (FrLe.cons rfl (FrLe.cons rfl (FrLe.cons rfl (FrLe.nil _))))))), h⟩
  · intro h e27 hk27
    refine Lypb (V_fld rfl Tryz.underlying179 rfl ty4 (by decide) rfl) rfl rfl rfl rfl e27 ?_
    obtain ⟨x56_24, hc, h⟩ := h
    refine Lyb rfl rfl rfl rfl e27 (X_ld rfl Tryz.underlying4 rfl rfl hc ?_)
    refine Lypb (V_fld rfl Tryz.underlying179 rfl ty4 (by decide) rfl) rfl rfl rfl rfl e27 ?_
    obtain ⟨x58_25, hc, h⟩ := h
    refine Lyb rfl rfl rfl rfl e27 (X_ld rfl Tryz.underlying4 rfl rfl hc ?_)
    refine Lypb (V_neB rfl Tryz.underlying4 rfl rfl) rfl rfl rfl rfl e27 ?_
    refine Lp (V_pickF rfl (evb e27) rfl) rfl rfl ?_
    exact hk27 _ _ ⟨_, (FrLe.cons rfl (FrLe.cons rfl (FrLe.cons rfl (FrLe.cons rfl (FrLe.cons rfl (FrLe.cons rfl (FrLe.nil _))))))), h⟩
  rintro fr σ ⟨x60_19, hl, h⟩
  unfold j18_ref08_SameOps at h
  refine Lfr hl ?_
  refine Lp (V_move rfl rfl) rfl rfl ?_
  refine LsplitJ 6 x60_19 Iff.rfl h (fun fr σ => ∃ (x67_21 : Bool), FrLe [(0, Sl.v a0), (1, Sl.v a1), (5, .int .i64 x5_3), (67, .bool x67_21)] fr ∧ j20_ref08_SameOps B ro a0 a1 x5_3 Q Y2 x67_21 σ) ?_ ?_ ?_
  · intro h e34 hk34
    refine Ln rfl rfl rfl rfl (.inl (by rw [e34]; rfl)) ?_
    refine Ln rfl rfl rfl rfl (.inl (by rw [e34]; rfl)) ?_
    refine Ln rfl rfl rfl rfl (.inl (by rw [e34]; rfl)) ?_
    refine Ln rfl rfl rfl rfl (.inl (by rw [e34]; rfl)) ?_
    refine Ln rfl rfl rfl rfl (.inl (by rw [e34]; rfl)) ?_
    refine Lp (V_pickT rfl (evb e34) rfl) rfl rfl ?_
    exact hk34 _ _ ⟨_, (FrLe.cons rfl (FrLe.cons rfl (FrLe.cons rfl (FrLe.cons rfl (FrLe.nil _))))), h⟩
  · intro h e34 hk34
    refine Lypb (V_fld rfl Tryz.underlying179 rfl ty4 (by decide) rfl) rfl rfl rfl rfl e34 ?_
    obtain ⟨x63_22, hc, h⟩ := h
    refine Lyb rfl rfl rfl rfl e34 (X_ld rfl Tryz.underlying4 rfl rfl hc ?_)
    refine Lypb (V_fld rfl Tryz.underlying179 rfl ty4 (by decide) rfl) rfl rfl rfl rfl e34 ?_
    obtain ⟨x65_23, hc, h⟩ := h
    refine Lyb rfl rfl rfl rfl e34 (X_ld rfl Tryz.underlying4 rfl rfl hc ?_)
    refine Lypb (V_neB rfl Tryz.underlying4 rfl rfl) rfl rfl rfl rfl e34 ?_
    refine Lp (V_pickF rfl (evb e34) rfl) rfl rfl ?_
    exact hk34 _ _ ⟨_, (FrLe.cons rfl (FrLe.cons rfl (FrLe.cons rfl (FrLe.cons rfl (FrLe.nil _))))), h⟩
  rintro fr σ ⟨x67_21, hl, h⟩
  unfold j20_ref08_SameOps at h
  refine Lfr hl ?_
  refine Lnil ?_
  refine thenN ?_
  refine AW.iff rfl Iff.rfl h (fun h => ?_) (fun h => ?_)
  · refine AW.seq ?_
    refine AW.reg ?_
    refine Lp (V_asg rfl rfl) rfl rfl ?_
    refine Lnil ?_
    refine thenN ?_
    refine AW.ret ?_
    refine blockR ?_
    refine thenR ?_
    refine thenR ?_
    refine blockR ?_
    refine thenR ?_
    exact bR1 Tryz.results54 rfl ⟨_, rfl, h⟩
  refine AW.skip ?_
  refine blockN ?_
  refine thenN ?_
  refine AW.reg ?_
  refine Lp (V_move rfl rfl) rfl rfl ?_
  refine Lp (V_add rfl rfl rfl) rfl rfl ?_
  refine Lp (V_asg rfl rfl) rfl rfl ?_
  refine Lnil ?_
  refine thenN ?_
  refine ARound.head (fr' := [(0, Sl.v a0), (1, Sl.v a1), (5, .int .i64 (IntKind.i64.wrap (x5_3 + 1)))]) ?_ (FrLe.cons rfl (FrLe.cons rfl (FrLe.cons rfl (FrLe.nil _))))
  exact hY2 _ _ h

end Go.Proofs.YthfpmipeejjogaaGreatDoor.G

/- Ops as bytes: the document's Put. -/
namespace Go.Proofs.YthfpmipeejjogaaGreatDoor.Zt
open Go Go.Proofs.YthfpmipeejjogaaGreatDoor.SL Go.Proofs.YthfpmipeejjogaaGreatDoor.G Go.Proofs.YthfpmipeejjogaaGreatDoor.Pa Go.Proofs.YthfpmipeejjogaaGreatDoor.Wi
set_option linter.unusedSimpArgs false
set_option linter.unusedVariables false
set_option maxRecDepth 100000
variable {B : World} {ro σ σ' : AH} {tag tag' : Nat → Nat}

theorem vput9 (n : Int) (h0 : 0 ≤ n) (h1 : n ≤ 4611686018427387903) : (vput n.toNat).length ≤ 9 := by
  have := wnum_len ([], false) n
  rw [wnums1 h0 h1] at this
  simpa using this
theorem blob9 (d : Str) (h : d.length ≤ 1048576) : (blob d).length ≤ 9 + d.length := by
  unfold blob
  have := vput9 (d.length : Int) (by omega) (by omega)
  rw [Int.toNat_natCast] at this
  rw [List.length_append]; omega
theorem encOp_len {o : MOp} (hok : okOp o) (h1 : o.path.length ≤ 1048576) (h2 : o.data.length ≤ 1048576) : (encOp o).length ≤ 2097200 := by
  obtain ⟨k1, k2, v1, v2⟩ := hok
  have hf := flagN_lt o
  have a1 := vput9 o.kind (by omega) (by omega)
  have a2 := blob9 o.path h1
  have a3 := blob9 o.data h2
  have a4 := vput9 (o.ver + 1) (by omega) (by omega)
  have a5 := vput9 (flagN o : Int) (by omega) (by omega)
  rw [Int.toNat_natCast] at a5
  unfold encOp
  simp only [List.length_append]
  omega
theorem rput8_ok {s : Sl} {ops : List MOp} {Q : Sl → Int → AH → Prop} (hO : ∀ tag' σ', StepS [0] ro tag σ tag' σ' → OpsD ro tag' σ' s ops) (hsm : ∀ o ∈ ops, o.path.length ≤ 1048576 ∧ o.data.length ≤ 1048576)
    (hno : putE ops = none → ∀ tag' σ', StepS [0] ro tag σ tag' σ' → Q ⟨none, 0, 0⟩ 80 σ')
    (hyes : ∀ b, putE ops = some b → ∀ s' tag' σ', StepS [0] ro tag σ tag' σ' → Row tag' σ' 6 5 s' (b.map vU) → Q s' 0 σ') : c_ref08_Put B ro s σ Q := by
  refine ref08_Put_ok fun hs => ?_
  unfold f_ref08_Put
  have hln := (hO tag σ (StepS.refl hs)).1
  by_cases c : 16 < ops.length
  · rw [if_pos (by omega)]
    exact hno (by unfold putE; rw [if_pos c]) tag σ (StepS.refl hs)
  rw [if_neg (by omega)]
  refine rput_ok (tag := tag) (by omega) (by omega) fun s1 tag1 σ1 st1 r1 => ?_
  rw [hln, Int.toNat_natCast] at r1
  have hvl := vput9 (ops.length : Int) (by omega) (by omega)
  rw [Int.toNat_natCast] at hvl
  suffices ∀ m j out tag4 σ4, j + m = ops.length → (∀ o ∈ ops.take j, okOp o) → ((ops.take j).flatMap encOp).length ≤ 2097200 * j → StepS [0] ro tag σ tag4 σ4 → Row tag4 σ4 6 5 out ((vput ops.length ++ (ops.take j).flatMap encOp).map vU) → lfpD (l4_ref08_Put B ro s Q) (out, (j : Int)) σ4 from
    this _ 0 s1 tag1 σ1 (Nat.zero_add _) (by simp) (by simp) ((st1 []).s (by simp)) (by simpa using r1)
  intro m
  induction m with
  | zero =>
    intro j out tag4 σ4 hj hok hel st4 b4
    refine lfpD.intro ?_
    unfold l4_ref08_Put
    simp only
    rw [if_neg (by omega)]
    unfold j2_ref08_Put
    rw [List.take_of_length_le (by omega)] at b4 hok hel
    exact hyes (encOps ops) (by unfold putE; rw [if_neg c, if_pos hok]) out tag4 σ4 st4 b4
  | succ m ih =>
    intro j out tag4 σ4 hj hok hel st4 b4
    have hjl : j < ops.length := by omega
    obtain ⟨p, ds, hp, hc, hrd⟩ := (hO tag4 σ4 st4).2 j ops[j] (List.getElem?_eq_getElem hjl)
    obtain ⟨hpl, hdl⟩ := hsm _ (List.getElem_mem hjl)
    have etk : ops.take (j + 1) = ops.take j ++ [ops[j]] := by rw [List.take_add_one, List.getElem?_eq_getElem hjl]; rfl
    have hmem : ops[j] ∈ ops := List.getElem_mem hjl
    generalize ops[j] = o at hc hrd hpl hdl etk hmem
    refine lfpD.intro ?_
    unfold l4_ref08_Put
    simp only
    rw [if_pos (by omega)]
    refine ⟨p, hp, by omega, by omega, o.kind, S o.path, ds, o.ver, o.eph, o.seq, by rw [Int.toNat_natCast]; exact hc, ?_⟩
    refine nw_st (tag := tag4) 0 st4.sep rfl (by simp [storable, Sl.v]) fun x tag5 σ5 st5 r5 => ?_
    have hs5 := (st5 []).sep
    have s5 : StepS [0] ro tag σ tag5 σ5 := st4.trans ((st5 []).s (by simp))
    have b5 := b4.keep (st5 []) (by simp)
    have hrd5 := hrd.keepS ((st5 []).s (C := []) (by simp)) (by simp)
    obtain ⟨p5, hp5, hg5⟩ := r5.ptr hs5 (by simp)
    cases hp5
    have no : ¬ okOp o → Q ⟨none, 0, 0⟩ 80 σ5 := fun h => hno (by unfold putE; rw [if_neg c, if_neg fun hall => h (hall o hmem)]) tag5 σ5 s5
    have no15 : ¬ okOp o → j15_ref08_Put B ro s out (j : Int) x Q (lfpD (l4_ref08_Put B ro s Q)) true σ5 := fun h => by
      unfold j15_ref08_Put; rw [if_pos rfl]; exact no h
    have no13 : ¬ okOp o → j13_ref08_Put B ro s out (j : Int) x Q (lfpD (l4_ref08_Put B ro s Q)) true σ5 := fun h => by
      unfold j13_ref08_Put; rw [if_pos rfl]; exact no15 h
    have no11 : ¬ okOp o → j11_ref08_Put B ro s out (j : Int) x Q (lfpD (l4_ref08_Put B ro s Q)) true σ5 := fun h => by
      unfold j11_ref08_Put; rw [if_pos rfl]; exact no13 h
    refine ⟨o.kind, hg5 0 _ rfl, ?_⟩
    by_cases k1 : o.kind < 1
    · rw [if_pos k1]
      exact no11 fun h => by have := h.1; omega
    rw [if_neg k1]
    refine ⟨o.kind, hg5 0 _ rfl, ?_⟩
    by_cases k2 : 4 < o.kind
    · rw [show decide (4 < o.kind) = true by simpa using k2]
      exact no11 fun h => by have := h.2.1; omega
    rw [show decide (4 < o.kind) = false by simpa using k2]
    unfold j11_ref08_Put
    rw [if_neg (by simp)]
    refine ⟨o.ver, hg5 3 _ rfl, ?_⟩
    by_cases k3 : o.ver < -1
    · rw [show decide (o.ver < -1) = true by simpa using k3]
      exact no13 fun h => by have := h.2.2.1; omega
    rw [show decide (o.ver < -1) = false by simpa using k3]
    unfold j13_ref08_Put
    rw [if_neg (by simp)]
    refine ⟨o.ver, hg5 3 _ rfl, ?_⟩
    by_cases k4 : 4611686018427387902 < o.ver
    · rw [show decide (4611686018427387902 < o.ver) = true by simpa using k4]
      exact no15 fun h => by have := h.2.2.2; omega
    rw [show decide (4611686018427387902 < o.ver) = false by simpa using k4]
    have hok1 : okOp o := ⟨by omega, by omega, by omega, by omega⟩
    have hoe := encOp_len hok1 hpl hdl
    have hfl := flagN_lt o
    have ev : IntKind.i64.wrap (o.ver + 1) = o.ver + 1 := by rw [SL.w64_eq (by omega) (by omega)]
    have hpre : (vput ops.length ++ (ops.take j).flatMap encOp).length ≤ 9 + 2097200 * 16 := by
      rw [List.length_append]
      have : 2097200 * j ≤ 2097200 * 16 := Nat.mul_le_mul_left _ (by omega)
      omega
    unfold j15_ref08_Put
    rw [if_neg (by simp)]
    have go : ∀ fl : Int, fl = (flagN o : Int) → j19_ref08_Put B ro s out (j : Int) x Q (lfpD (l4_ref08_Put B ro s Q)) fl σ5 := by
      intro fl hfe
      subst hfe
      unfold j19_ref08_Put
      obtain ⟨tX, hX⟩ := r5.tagOf
      refine lent_block x ?_
      have hsL : SL.Sep (join ro (SL.one σ5 x)) (SL.del σ5 x) := hs5.lent
      have cX : ∀ τ i v, (opV o ds)[i]? = some v → acell (join ro (SL.one σ5 x)) τ ((⟨x, 0, none⟩ : Addr).add i) = some v := fun τ i v hv => by
        have := r5.lend hs5 (τ := τ) (i := i) (v := v) hv
        rwa [Nat.mul_one] at this
      have dA := hrd5.lent (b := x) (by rw [tX]; decide)
      have bA := b5.del tX (by decide)
      refine ⟨S o.path, cX _ 1 _ rfl, ds, cX _ 2 _ rfl, o.ver, cX _ 3 _ rfl, o.kind, by have := cX (SL.del σ5 x) 0 _ rfl; rwa [add_zero] at this, ?_⟩
      refine rput_ok (tag := tag5) (by omega) (by omega) fun q1 tag6 σ6 st6 k1 => ?_
      refine awp_s2b (tag := tag6) (st6 []).sep fun sp tag7 σ7 st7 h7 => ?_
      refine ⟨sp, rfl, ?_⟩
      refine rblobp_ok (tag := tag7) h7 (by omega) fun q2 tag8 σ8 st8 k2 => ?_
      have st68 : ∀ R, Step R (join ro (SL.one σ5 x)) tag5 (SL.del σ5 x) tag8 σ8 := fun R => (st6 R).trans ((st7 R).trans (st8 R))
      have dB := dA.keepS ((st68 []).s (C := []) (by simp)) (by simp)
      refine rblobp_ok (tag := tag8) (dB.read (st8 []).sep) (by omega) fun q3 tag9 σ9 st9 k3 => ?_
      rw [ev]
      refine rput_ok (tag := tag9) (by omega) (by omega) fun q4 tag10 σ10 st10 k4 => ?_
      refine rput_ok (tag := tag10) (by omega) (by omega) fun q5 tag11 σ11 st11 k5 => ?_
      rw [Int.toNat_natCast] at k5
      refine nw_cells (tag := tag11) 0 (st11 []).sep fun Y tag12 σ12 st12 r12 => ?_
      have hs12 := (st12 []).sep
      have stq : ∀ R, Step R (join ro (SL.one σ5 x)) tag5 (SL.del σ5 x) tag12 σ12 := fun R => (st68 R).trans ((st9 R).trans ((st10 R).trans ((st11 R).trans (st12 R))))
      have a1 := ((((((k1.keep (st7 []) (by simp)).keep (st8 []) (by simp)).keep (st9 []) (by simp)).keep (st10 []) (by simp)).keep (st11 []) (by simp)).keep (st12 []) (by simp)).read hs12
      have a2 := ((((k2.keep (st9 []) (by simp)).keep (st10 []) (by simp)).keep (st11 []) (by simp)).keep (st12 []) (by simp)).read hs12
      have a3 := (((k3.keep (st10 []) (by simp)).keep (st11 []) (by simp)).keep (st12 []) (by simp)).read hs12
      have a4 := ((k4.keep (st11 []) (by simp)).keep (st12 []) (by simp)).read hs12
      have a5 := (k5.keep (st12 []) (by simp)).read hs12
      have a0 := (bA.keep (stq []) (by simp)).read hs12
      obtain ⟨acc, hacc⟩ : ∃ acc, vput ops.length ++ (ops.take j).flatMap encOp = acc := ⟨_, rfl⟩
      rw [hacc] at a0 hpre
      have efl : [acc, vput o.kind.toNat, blob o.path, blob o.data, vput (o.ver + 1).toNat, vput (flagN o)].flatten = acc ++ encOp o := by unfold encOp; simp
      refine rjoin_ok (tag := tag12) (ss := [out, q1, q2, q3, q4, q5]) (ls := [acc, vput o.kind.toNat, blob o.path, blob o.data, vput (o.ver + 1).toNat, vput (flagN o)]) (r12.read hs12) rfl (fun i s l hs' hl' => ?_) (by rw [efl, List.length_append]; omega) (by simp) fun s' tag13 σ13 st13 r13 => ?_
      · rcases i with _ | _ | _ | _ | _ | _ | i
        · cases hs'; cases hl'; exact a0
        · cases hs'; cases hl'; exact a1
        · cases hs'; cases hl'; exact a2
        · cases hs'; cases hl'; exact a3
        · cases hs'; cases hl'; exact a4
        · cases hs'; cases hl'; exact a5
        · cases hs'
      intro hdis
      have stB := ((stq []).trans (st13 [])).back hs5 hdis hX
      have r14 := r13.back (r' := tag5 x) hdis hX
      rw [Pa.inc j (by omega)]
      rw [efl] at r14
      refine ih (j + 1) s' _ _ (by omega) (fun y hy => ?_) ?_ (s5.trans (stB.s (by simp))) ?_
      · rw [etk] at hy
        rcases List.mem_append.1 hy with h | h
        · exact hok y h
        · rw [List.mem_singleton.1 h]; exact hok1
      · rw [etk, List.flatMap_append, List.length_append, List.flatMap_singleton]
        omega
      · rw [etk, List.flatMap_append, List.flatMap_singleton, ← List.append_assoc, hacc]
        exact r14
    refine ⟨o.eph, hg5 4 _ rfl, ?_⟩
    have e01 : IntKind.i64.wrap (0 + 1) = 1 := by decide
    have e12 : IntKind.i64.wrap (1 + 2) = 3 := by decide
    have e02 : IntKind.i64.wrap (0 + 2) = 2 := by decide
    cases he : o.eph <;> cases hq : o.seq
    all_goals
      first | rw [if_pos rfl] | rw [if_neg (by simp)]
      unfold j17_ref08_Put
      refine ⟨o.seq, hg5 5 _ rfl, ?_⟩
      rw [hq]
      first | rw [if_pos rfl] | rw [if_neg (by simp)]
      refine go _ ?_
      unfold flagN
      rw [he, hq]
      decide
end Go.Proofs.YthfpmipeejjogaaGreatDoor.Zt

/- Ops off bytes: multi.Get. -/
namespace Go.Proofs.YthfpmipeejjogaaGreatDoor.Zt
open Go Go.Proofs.YthfpmipeejjogaaGreatDoor.SL Go.Proofs.YthfpmipeejjogaaGreatDoor.G Go.Proofs.YthfpmipeejjogaaGreatDoor.Pa Go.Proofs.YthfpmipeejjogaaGreatDoor.Wi
set_option linter.unusedSimpArgs false
set_option linter.unusedVariables false
set_option maxRecDepth 100000
variable {B : World} {ro σ σ' : AH} {tag tag' : Nat → Nat}

theorem bit1 {f : Nat} (h : f ≤ 3) : (!(decide (bitAnd .i64 (f : Int) 1 = 0))) = decide (f % 2 = 1) := by
  rcases (show f = 0 ∨ f = 1 ∨ f = 2 ∨ f = 3 by omega) with rfl | rfl | rfl | rfl <;> decide
theorem bit2 {f : Nat} (h : f ≤ 3) : (!(decide (bitAnd .i64 (f : Int) 2 = 0))) = decide (1 < f) := by
  rcases (show f = 0 ∨ f = 1 ∨ f = 2 ∨ f = 3 by omega) with rfl | rfl | rfl | rfl <;> decide
theorem OpsAt.push {q : Nat} {s s' d : Sl} {ops : List MOp} {o : MOp} {dd : List Sl} {tag7 : Nat → Nat} {σ7 : AH} (d1 : dd.length = ops.length) (d3 : ∀ (i : Nat) (o : MOp) (d : Sl), ops[i]? = some o → dd[i]? = some d → Row tag7 σ7 6 5 d (o.data.map vU)) (r7 : RowW tag7 σ7 q 82 6 s' (List.zipWith opV ops dd ++ [opV o d])) (hd : Row tag7 σ7 6 5 d (o.data.map vU)) : OpsAt tag7 σ7 q s' (ops ++ [o]) := by
  refine ⟨dd ++ [d], by simp [d1], by rw [List.zipWith_append d1.symm]; exact r7, fun i o' d' ho hd' => ?_⟩
  rcases Nat.lt_or_ge i ops.length with h | h
  · rw [List.getElem?_append_left h] at ho
    rw [List.getElem?_append_left (by omega)] at hd'
    exact d3 i o' d' ho hd'
  · rw [List.getElem?_append_right h] at ho
    rw [List.getElem?_append_right (by omega), d1] at hd'
    cases hz : i - ops.length with
    | zero => rw [hz] at ho hd'; cases ho; cases hd'; exact hd
    | succ k => rw [hz] at ho; cases ho
theorem rnum0 (r : Rd) (h : (rnum r).2.err ≠ 0) : (rnum r).1 = 0 := by
  unfold rnum at h ⊢
  split
  · rfl
  · rename_i hc
    rw [if_neg hc] at h
    exact (num_err h).1
theorem mget_ok {a0 : Sl} {b : Str} {q : Nat} {Q : Sl → Int → AH → Prop} (hq : q < 64) (hq0 : q ≠ 0) (hq6 : q ≠ 6) (hq31 : q ≠ 31) (h : SL.Read ro σ a0 (b.map vU)) (hl : b.length ≤ 140737488355328)
    (hno : getE b = none → ∀ tag' σ', StepS [0, 31, q] ro tag σ tag' σ' → Q ⟨none, 0, 0⟩ 13 σ')
    (hyes : ∀ l, getE b = some l → ∀ s tag' σ', StepS [0, 31, q] ro tag σ tag' σ' → OpsAt tag' σ' q s l → Q s 0 σ') : c_multi_Get B ro a0 σ Q := by
  refine multi_Get_ok fun hs => ?_
  unfold f_multi_Get
  have hqm : q % 64 = q := Nat.mod_eq_of_lt hq
  refine newReader_ok (tag := tag) (r := 31) h hs hl fun A tag1 σ1 st1 rd1 => ?_
  refine rdNum_ok rd1 (by decide) (st1 []).sep fun σ2 st2 rd2 => ?_
  have hge : getE b = if (rnum ⟨b, 0⟩).2.err ≠ 0 ∨ 16 < (rnum ⟨b, 0⟩).1 then none else match getL (rnum ⟨b, 0⟩).1 (rnum ⟨b, 0⟩).2 with | none => none | some (l, r) => if r.rest = [] then some l else none := rfl
  have hn0 := rnum0 ⟨b, 0⟩
  obtain ⟨H, hH⟩ : ∃ H, rnum ⟨b, 0⟩ = H := ⟨_, rfl⟩
  rw [hH] at hge rd2 hn0
  rw [hH]
  have s2 : StepS [0, 31, q] ro tag σ tag1 σ2 := ((st1 []).s (by simp)).trans (st2.s (by simp))
  by_cases c : 16 < H.1
  · rw [if_pos (by omega)]
    exact hno (by rw [hge, if_pos (.inr c)]) tag1 σ2 s2
  rw [if_neg (by omega)]
  suffices ∀ m i out (l : List MOp) (x : Rd) tag4 σ4, i + m = H.1 → l.length = i → (H.2.err = 0 → x.err = 0 ∧ (getL m x = none → getL H.1 H.2 = none) ∧ ∀ l' r', getL m x = some (l', r') → getL H.1 H.2 = some (l ++ l', r')) → (H.2.err ≠ 0 → x.err ≠ 0) →
      StepS [0, 31, q] ro tag σ tag4 σ4 → OpsAt tag4 σ4 q out l → RdAt tag4 σ4 31 A x → lfpD (l9_multi_Get B ro (some ⟨A, 0, none⟩) (H.1 : Int) Q) (out, (i : Int)) σ4 from
    this H.1 0 ⟨none, 0, 0⟩ [] H.2 tag1 σ2 (Nat.zero_add _) rfl (fun e => ⟨e, id, fun l' r' h => h⟩) id s2 ⟨[], rfl, RowW.nil _ _ _, fun i o d h => by cases h⟩ rd2
  intro m
  induction m with
  | zero =>
    intro i out l x tag4 σ4 hi hli hgood hbad st4 o4 rd4
    refine lfpD.intro ?_
    unfold l9_multi_Get
    simp only
    rw [if_neg (by omega)]
    unfold j3_multi_Get
    refine rerr_ok rd4 st4.sep ?_
    by_cases he : H.2.err = 0
    · obtain ⟨e0, _, g2⟩ := hgood he
      have hL := g2 [] x rfl
      rw [List.append_nil] at hL
      rw [if_neg (by simpa using e0)]
      refine left_ok rd4 st4.sep ?_
      have hge2 : getE b = if x.rest = [] then some l else none := by
        rw [hge, if_neg (by rintro (h | h); exact h he; exact c h), hL]
      unfold j6_multi_Get
      by_cases hr : x.rest = []
      · rw [hr]
        rw [if_neg (by simp)]
        exact hyes l (by rw [hge2, if_pos hr]) out tag4 σ4 st4 o4
      · have := List.length_pos_iff.2 hr
        rw [show decide ((0 : Int) < (x.rest.length : Nat)) = true by simp; omega, if_pos rfl]
        exact hno (by rw [hge2, if_neg hr]) tag4 σ4 st4
    · rw [if_pos (hbad he)]
      unfold j6_multi_Get
      rw [if_pos rfl]
      exact hno (by rw [hge, if_pos (.inl he)]) tag4 σ4 st4
  | succ m ih =>
    intro i out l x tag4 σ4 hi hli hgood hbad st4 o4 rd4
    have he : H.2.err = 0 := Classical.byContradiction fun hc => by have := hn0 hc; omega
    obtain ⟨e0, g1, g2⟩ := hgood he
    have hgl : getL (m + 1) x = if badOp (rop x) then none else match getL m (rop x).2 with | none => none | some (l, r') => some ((rop x).1.1 :: l, r') := rfl
    have hnone : getL (m + 1) x = none → getE b = none := fun hn => by
      rw [hge, if_neg (by rintro (h | h); exact h he; exact c h), g1 hn]
    refine lfpD.intro ?_
    unfold l9_multi_Get
    simp only
    rw [if_pos (by omega)]
    refine rdNum_ok rd4 (by decide) st4.sep fun σ5 st5 rd5 => ?_
    refine rdText_ok rd5 (by decide) st5.sep fun tag6 σ6 st6 rd6 => ?_
    refine rdBlob_ok rd6 (by decide) st6.sep fun dsl tag7 σ7 st7 k7 rd7 => ?_
    refine rdNum_ok rd7 (by decide) st7.sep fun σ8 st8 rd8 => ?_
    have k8 := k7.keep st8 (by decide)
    have ev : IntKind.i64.wrap (((rnum (rblob (rblob (rnum x).2).2).2).1 : Nat) - 1 : Int) = ((rnum (rblob (rblob (rnum x).2).2).2).1 : Int) - 1 := by
      have := rnum_lt (rblob (rblob (rnum x).2).2).2
      rw [SL.w64_eq (by omega) (by omega)]
    rw [ev]
    refine nw_st (tag := tag7) 0 st8.sep rfl (by simp [storable, Sl.v]) fun X tag9 σ9 st9 r9 => ?_
    refine rdNum_ok (rd8.keep (st9 []) (by simp) (by simp)) (by decide) (st9 []).sep fun σa sta rda => ?_
    refine (r9.keep sta (by decide)).st (i := 4) sta.sep rfl (by simp) rfl fun σb stb rb => ?_
    refine rb.st (i := 5) stb.sep rfl (by simp) rfl fun σc stc rc => ?_
    have rdc := (rda.keep stb (by decide) (by decide)).keep stc (by decide) (by decide)
    have kc := (((k8.keep (st9 []) (by simp)).keep sta (by decide)).keep stb (by decide)).keep stc (by decide)
    have s4c : StepS [0, 31] ro tag4 σ4 tag9 σc := (st5.s (by decide)).trans ((st6.s (by decide)).trans ((st7.s (by decide)).trans ((st8.s (by decide)).trans (((st9 []).s (by simp)).trans ((sta.s (by decide)).trans ((stb.s (by decide)).trans (stc.s (by decide))))))))
    have oc := o4.keepS s4c (by rw [hqm]; simp; omega) (by decide)
    have hsc := s4c.sep
    have stC : StepS [0, 31, q] ro tag σ tag9 σc := st4.trans (s4c.mono (by simp))
    have hX : rop x = (((rop x).1.1, (rop x).1.2), (rop x).2) := rfl
    have rc : Row tag9 σc 0 82 ⟨some ⟨X, 0, none⟩, 6, 6⟩ [.int .i64 (rop x).1.1.kind, Pa.vS (rop x).1.1.path, Sl.v dsl, .int .i64 (rop x).1.1.ver, .bool (!(decide (bitAnd .i64 ((rop x).1.2 : Int) 1 = 0))), .bool (!(decide (bitAnd .i64 ((rop x).1.2 : Int) 2 = 0)))] := rc
    have rdc : RdAt tag9 σc 31 A (rop x).2 := rdc
    have kc : Row tag9 σc 6 5 dsl ((rop x).1.1.data.map vU) := kc
    have hfe : (((rnum (rnum (rblob (rblob (rnum x).2).2).2).2).1 : Nat) : Int) = ((rop x).1.2 : Int) := rfl
    have heph : (rop x).1.1.eph = decide ((rop x).1.2 % 2 = 1) := rfl
    have hseq : (rop x).1.1.seq = decide (1 < (rop x).1.2) := rfl
    rw [hfe]
    obtain ⟨Y, hY⟩ : ∃ Y, rop x = Y := ⟨_, rfl⟩
    rw [hY] at hgl rc rdc kc heph hseq
    rw [hY]
    obtain ⟨p, hp, hg⟩ := rc.ptr hsc (by simp)
    cases hp
    have bad : badOp Y → Q ⟨none, 0, 0⟩ 13 σc := fun hb => hno (hnone (by rw [hgl, if_pos hb])) tag9 σc stC
    have b21 : badOp Y → j21_multi_Get B ro out X (some ⟨A, 0, none⟩) (H.1 : Int) (i : Int) (Y.1.2 : Int) Q (lfpD (l9_multi_Get B ro (some ⟨A, 0, none⟩) (H.1 : Int) Q)) true σc := fun hb => by
      unfold j21_multi_Get; rw [if_pos (.inl rfl)]; exact bad hb
    have b19 : badOp Y → j19_multi_Get B ro out X (some ⟨A, 0, none⟩) (H.1 : Int) (i : Int) (Y.1.2 : Int) Q (lfpD (l9_multi_Get B ro (some ⟨A, 0, none⟩) (H.1 : Int) Q)) true σc := fun hb => by
      unfold j19_multi_Get; rw [if_pos rfl]; exact b21 hb
    refine rerr_ok rdc hsc ?_
    by_cases c1 : Y.2.err ≠ 0
    · rw [if_pos c1]
      exact b19 (.inl c1)
    rw [if_neg c1]
    refine ⟨_, by have := hg 0 _ rfl; rwa [Nat.zero_mul, add_zero] at this, ?_⟩
    by_cases c2 : Y.1.1.kind < 1
    · rw [show decide (Y.1.1.kind < 1) = true by simpa using c2]
      exact b19 (.inr (.inl c2))
    rw [show decide (Y.1.1.kind < 1) = false by simpa using c2]
    unfold j19_multi_Get
    rw [if_neg (by simp)]
    refine ⟨_, by have := hg 0 _ rfl; rwa [Nat.zero_mul, add_zero] at this, ?_⟩
    by_cases c3 : 4 < Y.1.1.kind
    · rw [show decide (4 < Y.1.1.kind) = true by simpa using c3]
      exact b21 (.inr (.inr (.inl c3)))
    rw [show decide (4 < Y.1.1.kind) = false by simpa using c3]
    unfold j21_multi_Get
    by_cases c4 : 3 < Y.1.2
    · rw [if_pos (.inr (by omega))]
      exact bad (.inr (.inr (.inr c4)))
    rw [if_neg (by rintro (h | h); cases h; omega)]
    have hnb : ¬ badOp Y := by
      unfold badOp
      rintro (h | h | h | h)
      · exact c1 h
      · exact c2 h
      · exact c3 h
      · exact c4 h
    rw [if_neg hnb] at hgl
    rw [bit1 (by omega), ← heph, bit2 (by omega), ← hseq] at rc
    have rc : Row tag9 σc 0 82 ⟨some ⟨X, 0, none⟩, 6, 6⟩ (opV Y.1.1 dsl) := rc
    refine ⟨_, _, _, _, _, _, Row.cellsAt rc hsc, ?_⟩
    refine nw_cells (tag := tag9) 0 hsc fun y tagd σd std rd => ?_
    obtain ⟨dd, d1, d2, d3⟩ := oc.keepS ((std []).s (C := []) (by simp)) (by simp) (by simp)
    have hlz : (List.zipWith opV l dd).length = i := by rw [List.length_zipWith, d1, Nat.min_self, hli]
    refine awp_appendW (l2 := [opV Y.1.1 dsl]) d2 (std []).sep (Row.readW1 rd (std []).sep rfl (by decide)) (t := 70) (by kernel_rfl) ty82 rfl (by simp [opV, storable, Sl.v]) (by rw [hlz]; simp; omega) (by decide) fun sn tage σe ste re => ?_
    have ste := ste [q] (.inr (by simp))
    refine ⟨sn, rfl, ?_⟩
    rw [Pa.inc i (by omega)]
    have h6q : (6 : Nat) ∉ [q] := by simp; omega
    refine ih (i + 1) sn (l ++ [Y.1.1]) Y.2 tage σe (by omega) (by simp [hli]) (fun _ => ⟨Classical.not_not.1 c1, fun hn => g1 (by rw [hgl, hn]), fun l' r' hs' => ?_⟩) (fun hc => absurd he hc) (stC.trans (((std []).s (by simp)).trans (ste.s (by simp [hqm])))) ?_ ((rdc.keep (std []) (by simp) (by simp)).keep ste (by simp; omega) h6q)
    · rw [List.append_assoc]
      exact g2 (Y.1.1 :: l') r' (by rw [hgl, hs'])
    · exact OpsAt.push (s := out) d1 (fun i o d ho hd => (d3 i o d ho hd).keep ste h6q) re ((kc.keep (std []) (by simp)).keep ste h6q)
end Go.Proofs.YthfpmipeejjogaaGreatDoor.Zt

/- The document's tree off bytes: Decode. -/
namespace Go.Proofs.YthfpmipeejjogaaGreatDoor.Zt
open Go Go.Proofs.YthfpmipeejjogaaGreatDoor.SL Go.Proofs.YthfpmipeejjogaaGreatDoor.G Go.Proofs.YthfpmipeejjogaaGreatDoor.Pa Go.Proofs.YthfpmipeejjogaaGreatDoor.Wi
set_option linter.unusedSimpArgs false
set_option linter.unusedVariables false
set_option maxRecDepth 100000
variable {B : World} {ro σ σ' : AH} {tag tag' : Nat → Nat}

theorem RdIs.keep {q X : Nat} {s : Sl} {l : Str} {rd : Rd} {R : List Nat} (h : RdIs tag σ q X s l rd) (k : Step R ro tag σ tag' σ') (hq : q ∉ R) : RdIs tag' σ' q X s l rd := by
  obtain ⟨p, h1, h2, h3⟩ := h
  exact ⟨p, h1, h2, h3.keep k hq⟩
theorem RdIs.err {q X : Nat} {s : Sl} {l : Str} {rd : Rd} (h : RdIs tag σ q X s l rd) (hs : SL.Sep ro σ) : acell ro σ ((⟨X, 0, none⟩ : Addr).add 2) = some (.int .i64 rd.err) := by
  obtain ⟨p, h1, h2, h3⟩ := h
  obtain ⟨pp, hpp, hg⟩ := h3.ptr hs (by simp)
  cases hpp
  exact hg 2 _ rfl
end Go.Proofs.YthfpmipeejjogaaGreatDoor.Zt
