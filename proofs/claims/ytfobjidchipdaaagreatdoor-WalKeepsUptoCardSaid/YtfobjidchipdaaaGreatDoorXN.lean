/- WlJ, WlK, WlN -/
import Derived.Test.YtfobjidchipdaaaGreatDoorXM
/- Logs, the walk: Open. -/
namespace Go.Proofs.YtfobjidchipdaaaGreatDoor.Wl
open Go Go.Proofs.YtfobjidchipdaaaGreatDoor.SL Go.Proofs.YtfobjidchipdaaaGreatDoor.G Go.Proofs.YtfobjidchipdaaaGreatDoor.Pa Go.Proofs.YtfobjidchipdaaaGreatDoor.Wi Go.Proofs.YtfobjidchipdaaaGreatDoor.Dk
set_option linter.unusedSimpArgs false
set_option linter.unusedVariables false
set_option maxRecDepth 100000
variable {B : World} {ro σ σ' : AH} {tag tag' : Nat → Nat}
abbrev OC : List Nat := [0, 3, 10, 11, 16, 17]
/-- up to the loop over the files' numbers -/
theorem openBegin_ok {T M : Nat} {limit cap : Int} {ps : Ps} {ns : List Nat} {Q : Option Addr → Int → AH → Prop} (hD : Disk tag σ 10 T M cap ps) (hbl : ∀ p ∈ ps, p.2.2.b.length ≤ 140737488355328) (hns : (pfs ps).map (·.1) = ns.map fname) (hlt : ∀ n ∈ ns, 0 < n ∧ n < 1003) (hpw : ns.Pairwise (· < ·))
    (hbad : limit < 16 ∨ 1048576 < limit → SL.Sep ro σ → Q none 40 σ)
    (hgo : ¬ (limit < 16 ∨ 1048576 < limit) → ∀ Lb Wb s tag' σ', StepS OC ro tag σ tag' σ' → LogAt tag' σ' 11 T Lb limit 0 ⟨none, 0, 0⟩ [] → Disk tag' σ' 10 T M cap ps → Row tag' σ' 16 4 ⟨some ⟨Wb, 0, none⟩, 1, 1⟩ [.bool true] → Row tag' σ' 17 3 s (ns.map fun (n : Nat) => Zt.vI (n : Int)) → lfpD (l24_wal_Open B ro (some ⟨T, 0, none⟩) Wb Lb s Q) 0 σ') : c_wal_Open B ro (some ⟨T, 0, none⟩) (S logN) limit σ Q := by
  refine wal_Open_ok fun hs => ?_
  unfold f_wal_Open
  refine rightLog_ok ?_
  by_cases c : limit < 16 ∨ 1048576 < limit
  · rw [if_pos (by rcases c with c | c; exact .inl (.inr c); exact .inr c)]
    exact hbad c hs
  rw [if_neg (by rintro ((h | h) | h); exact h rfl; exact c (.inl h); exact c (.inr h))]
  refine nw_cells (tag := tag) 11 hs fun Lb tag1 σ1 st1 r1 => ?_
  have hs1 := (st1 []).sep
  have rd : ∀ {tg : Nat → Nat} {τ : AH}, Row tg τ 11 131 ⟨some ⟨Lb, 0, none⟩, 5, 5⟩ [ptr T, vS logN, vI limit, Sl.v ⟨none, 0, 0⟩, vI ((0 : Nat) : Int)] → SL.Sep ro τ → cellsAt ro τ ⟨Lb, 0, none⟩ 0 [.pointer (some ⟨T, 0, none⟩), .string (S logN)] := fun {tg τ} r h => by
    obtain ⟨p, hp, hg⟩ := r.ptr h (by simp)
    cases hp
    refine cellsAt_of 0 fun i v hv => ?_
    rw [Nat.zero_add]
    match i, hv with
    | 0, hv => have := hg 0 v hv; rwa [Nat.zero_mul] at this
    | 1, hv => have := hg 1 v hv; rwa [Nat.one_mul] at this
  refine ⟨_, _, rd r1 hs1, ?_⟩
  refine cutFile_ok (tag := tag1) fun tag2 σ2 st2 => ?_
  have hD2 := hD.keep ((st1 []).trans (st2 [])) (by simp)
  have r2 := r1.keep (st2 []) (by simp)
  have hno : ps.lookup cutN = none := by
    rw [lookup_key, ← pfs_keys, hns]
    intro hm
    obtain ⟨n, _, e⟩ := List.mem_map.1 hm
    exact fname_cut n e
  refine read_ok (n := cutN) hD2 (by decide) (by decide) (st2 []).sep hbl (fun e tag3 σ3 he st3 => ?_) (fun _ b f hb => by rw [hno] at hb; cases hb)
  have hne : ¬ e = 0 := by rcases he with ⟨_, rfl⟩ | ⟨_, _, rfl⟩ <;> decide
  rw [if_neg hne]
  have hD3 := hD2.keep st3 (by nia)
  have r3 := r2.keep st3 (by decide)
  have s03 : StepS OC ro tag σ tag3 σ3 := ((st1 []).s (by simp)).trans (((st2 []).s (by simp)).trans (st3.s (by decide)))
  unfold j3_wal_Open
  refine nw_cells (tag := tag3) 16 st3.sep fun Wb tag4 σ4 st4 r4 => ?_
  refine r4.stAll (st4 []).sep rfl (by simp [storable]) fun σ5 st5 r5 => ?_
  have r35 := (r3.keep (st4 []) (by simp)).keep st5 (by decide)
  refine ⟨_, _, rd r35 st5.sep, ?_⟩
  refine numbers_ok (tag := tag4) (q := 17) (ns := ns) ((hD3.keep (st4 []) (by simp)).keep st5 (by nia)) hns hlt hpw (by decide) (by decide) (by decide) fun s6 tag6 σ6 st6 r6 => ?_
  exact hgo c Lb Wb s6 tag6 σ6 (s03.trans (((st4 []).s (by simp)).trans ((st5.s (by decide)).trans (st6.mono (by decide))))) ⟨r35.keepS st6 (by decide), Held.nil _, (fun x hx => by cases hx), List.nodup_nil⟩ (Sn.DiskAt.keepS ((hD3.keep (st4 []) (by simp)).keep st5 (by nia)) st6 (by decide)) (r5.keepS st6 (by decide)) r6
/-- a log on an empty disk -/
theorem openEmpty_ok {T M : Nat} {limit cap : Int} {Q : Option Addr → Int → AH → Prop} (g : Glob ro) (hD : Disk tag σ 10 T M cap []) (hc0 : 0 ≤ cap)
    (hbad : limit < 16 ∨ 1048576 < limit → SL.Sep ro σ → Q none 40 σ)
    (hgo : ¬ (limit < 16 ∨ 1048576 < limit) → ∀ Lb tag' σ', StepS OC ro tag σ tag' σ' → LSt tag' σ' T M Lb limit cap 0 [] → Q (some ⟨Lb, 0, none⟩) 0 σ') : c_wal_Open B ro (some ⟨T, 0, none⟩) (S logN) limit σ Q := by
  refine openBegin_ok (ns := []) hD (fun p hp => by cases hp) rfl (fun n hn => by cases hn) List.Pairwise.nil hbad fun hlim Lb Wb s tag1 σ1 st1 hA hD1 hW hN => ?_
  have hsl : s.len = 0 := by rw [hN.len]; rfl
  refine lfpD.intro ?_
  unfold l24_wal_Open
  rw [if_neg (by omega)]
  unfold j5_wal_Open
  have hs1 := st1.sep
  obtain ⟨pw, hpw, hgw⟩ := hW.ptr hs1 (by simp)
  cases hpw
  refine ⟨true, by have := hgw 0 _ rfl; rwa [Nat.zero_mul, add_zero] at this, ?_⟩
  rw [if_neg (by simp)]
  have hI : LogIn 1 0 (([] : List (Nat × Seg)).map (·.2)) := ⟨trivial, by decide, by decide, by decide⟩
  refine openEnd_ok g hA hD1 hI hs1 fun tag2 σ2 st2 hA2 hD2 => ?_
  exact hgo hlim Lb tag2 σ2 (st1.trans (st2.s (fun x hx => by simp only [syncP] at hx; simp; omega))) ⟨⟨⟨none, 0, 0⟩, [], [], hA2, Row.nil _ _, hD2 rfl, rfl, rfl⟩, LW.nil, by simpa [logFs, used] using hc0⟩
theorem fl_mono {g : Seg} {i j : Nat} (h : i ≤ j) : fl g i ≤ fl g j := by
  unfold fl
  have : g.recs.take i = (g.recs.take j).take i := by rw [List.take_take, Nat.min_eq_left h]
  rw [this]
  conv => rhs; rw [← List.take_append_drop i (g.recs.take j), List.flatMap_append, List.length_append]
  omega
theorem chain_numbers : ∀ {gs : List Seg} {n f : Nat}, Chain n f gs → gs.map (·.number) = List.range' n gs.length := by
  intro gs
  induction gs with
  | nil => intro n f _; rfl
  | cons g r ih =>
    intro n f h
    obtain ⟨h1, _, h3⟩ := h
    rw [List.map_cons, ih h3, h1, List.length_cons, List.range'_succ]
/-- a log that is opened again: all files are whole but the last, of which the first m bytes are there -/
theorem openFull_ok {T M n f m sf : Nat} {limit cap : Int} {ps : Ps} {L0 : List (Seg × Nat)} {gs : Seg} {Q : Option Addr → Int → AH → Prop} (g : Glob ro) (hD : Disk tag σ 10 T M cap ps) (hc0 : 0 ≤ cap) (hc1 : cap ≤ 1073741824) (hI : LogIn n f (segs L0 ++ [gs])) (hrecs : ∀ d ∈ recsOf (segs L0 ++ [gs]), d.length ≤ 65536)
    (hps : pfs ps = logFs L0 ++ [(fname gs.number, ⟨gs.bytes.take m, sf⟩)]) (hm : m ≤ gs.bytes.length) (hbyt : ∀ x ∈ segs L0 ++ [gs], x.bytes.length ≤ 1073741824) (hu : used (pfs ps) ≤ 1073741824) (hroom : m = gs.bytes.length ∨ ((used (pfs ps) + m : Nat) : Int) ≤ cap)
    (hbad : limit < 16 ∨ 1048576 < limit → SL.Sep ro σ → Q none 40 σ)
    (hgo : ¬ (limit < 16 ∨ 1048576 < limit) → ∀ Lb s xs tag' σ', StepS OC ro tag σ tag' σ' → LogAt tag' σ' 11 T Lb limit (nextOf (xs.map (·.2))) s xs →
      ((m < (headOf gs.first).length ∧ xs.map (·.2) = segs L0) ∨ ((headOf gs.first).length ≤ m ∧ ∃ j, j ≤ gs.recs.length ∧ fl gs j ≤ m ∧ (j = gs.recs.length ∨ m < fl gs (j + 1)) ∧ xs.map (·.2) = segs L0 ++ [⟨gs.number, gs.first, gs.recs.take j⟩])) → Q (some ⟨Lb, 0, none⟩) 0 σ') :
    c_wal_Open B ro (some ⟨T, 0, none⟩) (S logN) limit σ Q := by
  have hl0 : (segs L0).length = L0.length := by unfold segs; rw [List.length_map]
  have hnum := hI.num
  have hidx := hI.idx
  have hpos := hI.pos
  rw [List.length_append, hl0] at hnum
  have hl1 : [gs].length = 1 := rfl
  obtain ⟨ch0, chl⟩ := chain_append.1 hI.chain
  obtain ⟨hgn, hgf, _⟩ := chl
  rw [hl0] at hgn
  have hr0 : recsOf (segs L0 ++ [gs]) = recsOf (segs L0) ++ gs.recs := recsOf_snoc _ _
  rw [hr0, List.length_append] at hidx
  have hcn := chain_numbers hI.chain
  have hkeys : (pfs ps).map (·.1) = (List.range' n (L0.length + 1)).map fname := by
    have e1 : List.range' n (L0.length + 1) = (segs L0).map (·.number) ++ [gs.number] := by
      rw [List.length_append, hl0, List.map_append] at hcn
      exact hcn.symm
    rw [hps, e1, List.map_append, List.map_append, List.map_map, logFs_names]; rfl
  have hmem : ∀ p ∈ ps, (p.1, p.2.2) ∈ pfs ps := fun p hp => List.mem_map.2 ⟨p, hp, rfl⟩
  have hbl : ∀ p ∈ ps, p.2.2.b.length ≤ 140737488355328 := fun p hp => by
    have := hmem p hp
    rw [hps] at this
    rcases List.mem_append.1 this with h | h
    · obtain ⟨x, hx, e⟩ := List.mem_map.1 h
      have := hbyt x.1 (List.mem_append_left _ (List.mem_map.2 ⟨x, hx, rfl⟩))
      have e2 := congrArg (fun z : Str × Fl => z.2.b.length) e
      simp only at e2
      omega
    · have e := List.mem_singleton.1 h
      have := hbyt gs (by simp)
      have e2 := congrArg (fun z : Str × Fl => z.2.b.length) e
      simp only [List.length_take] at e2
      omega
  refine openBegin_ok (ns := List.range' n (L0.length + 1)) hD hbl hkeys (fun k hk => by rw [List.mem_range'_1] at hk; omega) (List.pairwise_lt_range' ..) hbad fun hlim Lb Wb s tag1 σ1 st1 hA hD1 hW hN => ?_
  have hsl : s.len = L0.length + 1 := by rw [hN.len, List.length_map, List.length_range']
  have look0 : ∀ (i : Nat) (x : Seg × Nat), L0[i]? = some x → ∃ bk, ps.lookup (fname x.1.number) = some (bk, ⟨x.1.bytes.take x.1.bytes.length, x.2⟩) := fun i x hx => by
    have hm : (fname x.1.number, (⟨x.1.bytes, x.2⟩ : Fl)) ∈ pfs ps := by
      rw [hps]
      exact List.mem_append_left _ (List.mem_map.2 ⟨x, List.mem_of_getElem? hx, rfl⟩)
    have := lookup_mem (by rw [pfs_keys]; exact hD.keys) hm
    rw [pfs_lookup] at this
    obtain ⟨⟨bk, fl'⟩, e1, e2⟩ := Option.map_eq_some_iff.1 this
    simp only at e2
    rw [List.take_length]
    exact ⟨bk, by rw [e1, e2]⟩
  have lookL : ∃ bk, ps.lookup (fname gs.number) = some (bk, ⟨gs.bytes.take m, sf⟩) := by
    have hm : (fname gs.number, (⟨gs.bytes.take m, sf⟩ : Fl)) ∈ pfs ps := by rw [hps]; simp
    have := lookup_mem (by rw [pfs_keys]; exact hD.keys) hm
    rw [pfs_lookup] at this
    obtain ⟨⟨bk, fl'⟩, e1, e2⟩ := Option.map_eq_some_iff.1 this
    simp only at e2
    exact ⟨bk, by rw [e1, e2]⟩
  have hnd : ∀ i, i < L0.length → (hi : i < (segs L0).length) → (segs L0)[i].number = n + i := fun i h hi => (chain_get ch0 (List.getElem?_eq_getElem hi)).1
  -- the numbers in memory
  have nth : ∀ (tg : Nat → Nat) (τ : AH), Row tg τ 17 3 s ((List.range' n (L0.length + 1)).map fun (n : Nat) => Zt.vI (n : Int)) → SL.Sep ro τ → ∀ i, i < L0.length + 1 → ∃ p, s.a = some p ∧ acell ro τ (p.add (i * 1)) = some (Zt.vI ((n + i : Nat) : Int)) := fun tg τ r h i hi => by
    obtain ⟨p, hp, hg⟩ := r.ptr h (by rw [List.length_map, List.length_range']; omega)
    refine ⟨p, hp, hg i _ ?_⟩
    rw [List.getElem?_map, List.getElem?_range' hi, Nat.one_mul]; rfl
  -- behind the loop, all whole
  have wholeEnd : ∀ (s' : Sl) (xs : List (Nat × Seg)) (ps' : Ps) (tag2 : Nat → Nat) (σ2 : AH), StepS OC ro tag σ tag2 σ2 → LogAt tag2 σ2 11 T Lb limit 0 s' xs → Disk tag2 σ2 10 T M cap ps' → LogIn n f (xs.map (·.2)) →
      ((m < (headOf gs.first).length ∧ xs.map (·.2) = segs L0) ∨ ((headOf gs.first).length ≤ m ∧ ∃ j, j ≤ gs.recs.length ∧ fl gs j ≤ m ∧ (j = gs.recs.length ∨ m < fl gs (j + 1)) ∧ xs.map (·.2) = segs L0 ++ [⟨gs.number, gs.first, gs.recs.take j⟩])) → j6_wal_Open B ro (some ⟨T, 0, none⟩) Lb Q σ2 := by
    intro s' xs ps' tag2 σ2 st2 hA2 hD2 hI2 hres
    refine openEnd_ok g hA2 hD2 hI2 st2.sep fun tag3 σ3 st3 hA3 _ => ?_
    exact hgo hlim Lb s' xs tag3 σ3 (st2.trans (st3.s (fun x hx => by simp only [syncP] at hx; simp; omega))) hA3 hres
  have hI0 : LogIn n f (segs L0) := ⟨ch0, by omega, by omega, hpos⟩
  have hIj : ∀ j, j ≤ gs.recs.length → LogIn n f (segs L0 ++ [⟨gs.number, gs.first, gs.recs.take j⟩]) := fun j hj => by
    refine ⟨chain_append.2 ⟨ch0, by rw [hl0]; exact hgn, hgf, trivial⟩, by rw [List.length_append, hl0]; exact hnum, ?_, hpos⟩
    rw [recsOf_snoc, List.length_append, List.length_take]; omega
  suffices ∀ (k i : Nat) (s' : Sl) (xs : List (Nat × Seg)) (tag2 : Nat → Nat) (σ2 : AH), i + k = L0.length → StepS OC ro tag σ tag2 σ2 → LogAt tag2 σ2 11 T Lb limit 0 s' xs → Row tag2 σ2 75 136 s' (ptrs xs) → xs.map (·.2) = (segs L0).take i → Disk tag2 σ2 10 T M cap ps → Row tag2 σ2 16 4 ⟨some ⟨Wb, 0, none⟩, 1, 1⟩ [.bool true] → Row tag2 σ2 17 3 s ((List.range' n (L0.length + 1)).map fun (n : Nat) => Zt.vI (n : Int)) → lfpD (l24_wal_Open B ro (some ⟨T, 0, none⟩) Wb Lb s Q) (i : Int) σ2 from
    this _ 0 ⟨none, 0, 0⟩ [] tag1 σ1 (Nat.zero_add _) st1 hA (Row.nil _ _) rfl hD1 hW hN
  intro k
  induction k with
  | zero =>
    intro i s' xs tag2 σ2 hi st2 hA2 hrow2 hx2 hD2 hW2 hN2
    have hi0 : i = L0.length := by omega
    subst hi0
    rw [List.take_of_length_le (by omega)] at hx2
    have hs2 := st2.sep
    obtain ⟨p, hp, hcp⟩ := nth tag2 σ2 hN2 hs2 L0.length (by omega)
    obtain ⟨pw, hpw, hgw⟩ := hW2.ptr hs2 (by simp)
    cases hpw
    refine lfpD.intro ?_
    generalize hY : lfpD (l24_wal_Open B ro (some ⟨T, 0, none⟩) Wb Lb s Q) = Y
    have hfin : ∀ τ, j5_wal_Open B ro (some ⟨T, 0, none⟩) Wb Lb Q τ → Y ((L0.length + 1 : Nat) : Int) τ := fun τ h => by
      rw [← hY]
      refine lfpD.intro ?_
      unfold l24_wal_Open
      rw [if_neg (by omega)]
      exact h
    unfold l24_wal_Open
    rw [if_pos (by omega)]
    refine ⟨p, hp, by omega, by omega, _, by rw [Int.toNat_natCast]; exact hcp, true, by have := hgw 0 _ rfl; rwa [Nat.zero_mul, add_zero] at this, ?_⟩
    rw [if_neg (by simp), ← hgn]
    have hcons : xs = [] ∨ ∃ gl, (xs.map (·.2)).getLast? = some gl ∧ gs.number = gl.number + 1 ∧ gs.first = nextOf (xs.map (·.2)) := by
      rcases List.eq_nil_or_concat xs with h | ⟨xs0, x, h⟩
      · exact .inl h
      · right
        rw [List.concat_eq_append] at h
        have hne : segs L0 ≠ [] := by rw [← hx2, h]; simp
        have hlast : (xs.map (·.2)).getLast? = some x.2 := by rw [h]; simp
        refine ⟨x.2, hlast, ?_, ?_⟩
        · rw [hx2, List.getLast?_eq_getElem?, hl0] at hlast
          have := (chain_get ch0 hlast).1
          have : 0 < L0.length := by rw [← hl0]; exact List.length_pos_iff.2 hne
          omega
        · rw [hx2, chain_next ch0 hne]; exact hgf
    refine take_ok (tag := tag2) (gs := gs) (m := m) g hA2 hrow2 hD2 hbl hW2 (by rw [hx2]; exact hI0) (by omega) (by omega) (fun d hd => hrecs d (by rw [hr0]; exact List.mem_append_right _ hd)) (by omega) hm (hbyt gs (by simp)) hcons (by obtain ⟨bk, e⟩ := lookL; exact ⟨bk, sf, e⟩) (fun hlt tag3 σ3 st3 => ?_) (fun hge j b s3 tag3 σ3 hj1 hj2 hj3 st3 hA3 hrow3 hW3 => ?_)
    · -- the head is not whole: the file goes
      unfold j30_wal_Open
      rw [if_pos (by rfl)]
      have hA3 := hA2.keepS st3 (by decide) (by decide)
      have hD3 := Sn.DiskAt.keepS hD2 st3 (by decide)
      have hW3 := hW2.keepS st3 (by decide)
      have ew : (⟨Wb, 0, none⟩ : Addr) = (⟨Wb, 0, none⟩ : Addr).add (0 * 1) := rfl
      refine Row.stPre [.bool false] 0 _ _ hW3 st3.sep (by simp) (by simp [storable]) fun σ4 st4 hW4 => ?_
      have hW4 : Row tag3 σ4 16 4 ⟨some ⟨Wb, 0, none⟩, 1, 1⟩ [.bool false] := hW4
      have s04 : StepS OC ro tag σ tag3 σ4 := st2.trans ((st3.mono (by decide)).trans (st4.s (by decide)))
      have hA4 := hA3.keepS (st4.s (C := [16]) (by decide)) (by decide) (by decide)
      have hs4 := st4.sep
      refine ⟨some ⟨T, 0, none⟩, S logN, cellsAt_of 0 fun i v hv => ?_, ?_⟩
      · rw [Nat.zero_add]
        refine hA4.at hs4 i v ?_
        match i, hv with
        | 0, hv => exact hv
        | 1, hv => exact hv
      refine file_ok (tag := tag3) g (by omega) fun tag5 σ5 st5 => ?_
      refine nw_cells (tag := tag5) 3 (st5 []).sep fun V tag6 σ6 st6 r6 => ?_
      have hD6 := (hD3.keep st4 (by nia)).keep ((st5 []).trans (st6 [])) (by simp)
      refine remove_ok (tag := tag6) (q := 3) (n := fname gs.number) hD6 (by decide) (by decide) r6 (by decide) (dName_f (by omega)) fun e tag7 σ7 st7 hD7 => ?_
      unfold j26_wal_Open
      rw [Pa.inc L0.length (by omega)]
      refine hfin σ7 ?_
      have s47 : StepS [0, 10] ro tag3 σ4 tag7 σ7 := (((st5 []).trans (st6 [])).s (by simp)).trans st7
      have hA7 := hA4.keepS s47 (by decide) (by decide)
      have hW7 := hW4.keepS s47 (by decide)
      have hs7 := s47.sep
      obtain ⟨pw7, hpw7, hgw7⟩ := hW7.ptr hs7 (by simp)
      cases hpw7
      unfold j5_wal_Open
      refine ⟨false, by have := hgw7 0 _ rfl; rwa [Nat.zero_mul, add_zero] at this, ?_⟩
      rw [if_pos (by simp)]
      have hpd : pfs (adel ps (fname gs.number)) = logFs L0 := by
        rw [pfs_del, hps]
        refine adel_snoc ?_
        rw [logFs_names]
        exact notin_last hI.chain (by rw [hl0]; omega)
      have hu7 : used (pfs (adel ps (fname gs.number))) ≤ 1073741824 := by
        rw [hpd]
        rw [hps] at hu
        unfold used at hu ⊢
        rw [List.map_append, List.sum_append] at hu
        omega
      refine cut_ok g hA7 hD7 (fun p hp => ?_) hc0 hc1 hu7 (by rw [hx2]; exact hI0) (fun xs0 b gl hxe => ?_) (fun ps8 tag8 σ8 st8 hD8 => ?_)
      · have := (adel_sub ps (fname gs.number)).mem hp
        exact hbl p this
      · have hgl : (segs L0)[xs0.length]? = some gl := by rw [← hx2, hxe]; simp
        unfold segs at hgl
        rw [List.getElem?_map] at hgl
        obtain ⟨x, hx, rfl⟩ := Option.map_eq_some_iff.1 hgl
        have hm : (fname x.1.number, (⟨x.1.bytes, x.2⟩ : Fl)) ∈ pfs (adel ps (fname gs.number)) := by
          rw [hpd]
          exact List.mem_map.2 ⟨x, List.mem_of_getElem? hx, rfl⟩
        have := lookup_mem (by rw [pfs_keys]; exact hD7.keys) hm
        rw [pfs_lookup] at this
        obtain ⟨⟨bk, fl'⟩, e1, e2⟩ := Option.map_eq_some_iff.1 this
        simp only at e2
        exact ⟨bk, x.1.bytes, x.2, by rw [e1, e2], Nat.le_refl _, .inl rfl⟩
      · rw [if_neg (by decide)]
        exact wholeEnd s' xs ps8 tag8 σ8 (s04.trans ((s47.mono (by decide)).trans (st8.mono (by decide)))) (hA7.keepS st8 (by decide) (by decide)) hD8 (by rw [hx2]; exact hI0) (.inl ⟨hlt, hx2⟩)
    · unfold j30_wal_Open
      rw [if_neg (by simp)]
      unfold j26_wal_Open
      rw [Pa.inc L0.length (by omega)]
      refine hfin σ3 ?_
      have s03 : StepS OC ro tag σ tag3 σ3 := st2.trans (st3.mono (by decide))
      have hD3 := Sn.DiskAt.keepS hD2 st3 (by decide)
      have hs3 := st3.sep
      have hx3 : (xs ++ [(b, (⟨gs.number, gs.first, gs.recs.take j⟩ : Seg))]).map (·.2) = segs L0 ++ [⟨gs.number, gs.first, gs.recs.take j⟩] := by rw [List.map_append, hx2]; rfl
      have hres : ((m < (headOf gs.first).length ∧ (xs ++ [(b, (⟨gs.number, gs.first, gs.recs.take j⟩ : Seg))]).map (·.2) = segs L0) ∨ ((headOf gs.first).length ≤ m ∧ ∃ j', j' ≤ gs.recs.length ∧ fl gs j' ≤ m ∧ (j' = gs.recs.length ∨ m < fl gs (j' + 1)) ∧ (xs ++ [(b, (⟨gs.number, gs.first, gs.recs.take j⟩ : Seg))]).map (·.2) = segs L0 ++ [⟨gs.number, gs.first, gs.recs.take j'⟩])) := .inr ⟨hge, j, hj1, hj2, hj3, hx3⟩
      obtain ⟨pw3, hpw3, hgw3⟩ := hW3.ptr hs3 (by simp)
      cases hpw3
      unfold j5_wal_Open
      refine ⟨decide (fl gs j = m), by have := hgw3 0 _ rfl; rwa [Nat.zero_mul, add_zero] at this, ?_⟩
      by_cases c : fl gs j = m
      · rw [if_neg (by simpa using c)]
        exact wholeEnd s3 _ ps tag3 σ3 s03 hA3 hD3 (by rw [hx3]; exact hIj j hj1) hres
      · rw [if_pos (by simpa using c)]
        have hgb : (⟨gs.number, gs.first, gs.recs.take j⟩ : Seg).bytes.length = fl gs j := by unfold Seg.bytes fl; rw [List.length_append]
        refine cut_ok g hA3 hD3 hbl hc0 hc1 hu (by rw [hx3]; exact hIj j hj1) (fun xs0 b0 gl hxe => ?_) (fun ps8 tag8 σ8 st8 hD8 => ?_)
        · obtain ⟨_, e⟩ := snoc_inj hxe
          cases e
          obtain ⟨bk, e⟩ := lookL
          refine ⟨bk, gs.bytes.take m, sf, e, by rw [hgb, List.length_take]; omega, ?_⟩
          rw [hgb, List.length_take]
          rcases hroom with h | h
          · exfalso
            rcases hj3 with h2 | h2
            · rw [h2, fl_all] at c; omega
            · have := fl_mono (g := gs) (i := j + 1) (j := gs.recs.length)
              by_cases h5 : j + 1 ≤ gs.recs.length
              · have := this h5; rw [fl_all] at this; omega
              · have h6 : j = gs.recs.length := by omega
                rw [h6, fl_all] at c; omega
          · exact .inr (by omega)
        · rw [if_neg (by decide)]
          exact wholeEnd s3 _ ps8 tag8 σ8 (s03.trans (st8.mono (by decide))) (hA3.keepS st8 (by decide) (by decide)) hD8 (by rw [hx3]; exact hIj j hj1) hres
  | succ k ih =>
    intro i s' xs tag2 σ2 hi st2 hA2 hrow2 hx2 hD2 hW2 hN2
    have hil : i < L0.length := by omega
    have hs2 := st2.sep
    obtain ⟨p, hp, hcp⟩ := nth tag2 σ2 hN2 hs2 i (by omega)
    obtain ⟨pw, hpw, hgw⟩ := hW2.ptr hs2 (by simp)
    cases hpw
    have hLi := List.getElem?_eq_getElem hil
    generalize L0[i] = x at hLi
    have hgi : (segs L0)[i]? = some x.1 := by unfold segs; rw [List.getElem?_map, hLi]; rfl
    obtain ⟨cg1, cg2, cg3, _⟩ := chain_get ch0 hgi
    have htk : (segs L0).take (i + 1) = (segs L0).take i ++ [x.1] := by rw [List.take_add_one, hgi]; rfl
    have hchi : Chain n f ((segs L0).take i ++ [x.1]) := by
      have := ch0
      rw [← List.take_append_drop (i + 1) (segs L0)] at this
      rw [← htk]; exact (chain_append.1 this).1
    have hreci : (recsOf ((segs L0).take i)).length ≤ (recsOf (segs L0)).length := by
      have e : recsOf (segs L0) = recsOf ((segs L0).take i) ++ recsOf ((segs L0).drop i) := by
        unfold recsOf
        rw [← List.flatMap_append, List.take_append_drop]
      rw [e, List.length_append]; omega
    have hIi : LogIn n f ((segs L0).take i) := ⟨(chain_append.1 hchi).1, by rw [List.length_take]; omega, by omega, hpos⟩
    refine lfpD.intro ?_
    generalize hY : lfpD (l24_wal_Open B ro (some ⟨T, 0, none⟩) Wb Lb s Q) = Y
    unfold l24_wal_Open
    rw [if_pos (by omega)]
    refine ⟨p, hp, by omega, by omega, _, by rw [Int.toNat_natCast]; exact hcp, true, by have := hgw 0 _ rfl; rwa [Nat.zero_mul, add_zero] at this, ?_⟩
    rw [if_neg (by simp), ← cg1]
    have hcons : xs = [] ∨ ∃ gl, (xs.map (·.2)).getLast? = some gl ∧ x.1.number = gl.number + 1 ∧ x.1.first = nextOf (xs.map (·.2)) := by
      rcases List.eq_nil_or_concat xs with h | ⟨xs0, y, h⟩
      · exact .inl h
      · right
        rw [List.concat_eq_append] at h
        have hne : (segs L0).take i ≠ [] := by rw [← hx2, h]; simp
        have hlast : (xs.map (·.2)).getLast? = some y.2 := by rw [h]; simp
        have hti : ((segs L0).take i).length = i := by rw [List.length_take]; omega
        have hi1 : 0 < i := by rw [← hti]; exact List.length_pos_iff.2 hne
        refine ⟨y.2, hlast, ?_, ?_⟩
        · rw [hx2, List.getLast?_eq_getElem?, hti] at hlast
          have := (chain_get hIi.chain hlast).1
          omega
        · rw [hx2, chain_next hIi.chain hne]
          exact (chain_append.1 hchi).2.2.1
    refine take_ok (tag := tag2) (gs := x.1) (m := x.1.bytes.length) g hA2 hrow2 hD2 hbl hW2 (by rw [hx2]; exact hIi) (by omega) (by omega) (fun d hd => hrecs d (by rw [hr0]; exact List.mem_append_left _ (List.mem_flatMap.2 ⟨x.1, List.mem_of_getElem? hgi, hd⟩))) (by omega) (Nat.le_refl _) (hbyt x.1 (List.mem_append_left _ (List.mem_of_getElem? hgi))) hcons (by obtain ⟨bk, e⟩ := look0 i x hLi; exact ⟨bk, x.2, e⟩) (fun hlt => ?_) (fun hge j b s3 tag3 σ3 hj1 hj2 hj3 st3 hA3 hrow3 hW3 => ?_)
    · exfalso
      unfold Seg.bytes at hlt
      rw [List.length_append] at hlt; omega
    · have hj : j = x.1.recs.length := by
        rcases hj3 with h | h
        · exact h
        · by_cases h5 : j + 1 ≤ x.1.recs.length
          · have := fl_mono (g := x.1) h5
            rw [fl_all] at this; omega
          · omega
      subst hj
      rw [List.take_length] at hA3 hrow3
      rw [fl_all, decide_eq_true rfl] at hW3
      unfold j30_wal_Open
      rw [if_neg (by simp)]
      unfold j26_wal_Open
      rw [Pa.inc i (by omega), ← hY]
      exact ih (i + 1) s3 (xs ++ [(b, x.1)]) tag3 σ3 (by omega) (st2.trans (st3.mono (by decide))) hA3 hrow3 (by rw [List.map_append, hx2, htk]; rfl) (Sn.DiskAt.keepS hD2 st3 (by decide)) hW3 (hN2.keepS st3 (by decide))
end Go.Proofs.YtfobjidchipdaaaGreatDoor.Wl

/- Logs: behind a crash; awake; WalRoom, the walk. -/
namespace Go.Proofs.YtfobjidchipdaaaGreatDoor.Wl
open Go Go.Proofs.YtfobjidchipdaaaGreatDoor.SL Go.Proofs.YtfobjidchipdaaaGreatDoor.G Go.Proofs.YtfobjidchipdaaaGreatDoor.Pa Go.Proofs.YtfobjidchipdaaaGreatDoor.Wi Go.Proofs.YtfobjidchipdaaaGreatDoor.Dk
set_option linter.unusedSimpArgs false
set_option linter.unusedVariables false
set_option maxRecDepth 100000
variable {B : World} {ro σ σ' : AH} {tag tag' : Nat → Nat}
theorem assoc_ext {β : Type} : ∀ {l l' : List (Str × β)}, l'.map (·.1) = l.map (·.1) → (l.map (·.1)).Nodup → (∀ k, l.lookup k = l'.lookup k) → l' = l := by
  intro l
  induction l with
  | nil => intro l' h _ _; exact List.map_eq_nil_iff.1 h
  | cons p r ih =>
    intro l' hk hn hl
    cases l' with
    | nil => cases hk
    | cons p' r' =>
      rw [List.map_cons, List.map_cons] at hk
      obtain ⟨hk1, hk2⟩ := List.cons.inj hk
      rw [List.map_cons, List.nodup_cons] at hn
      have h0 := hl p.1
      rw [List.lookup_cons, List.lookup_cons, hk1] at h0
      simp at h0
      have hp : p' = p := Prod.ext hk1 h0.symm
      refine List.cons_eq_cons.2 ⟨hp, ih hk2 hn.2 fun k => ?_⟩
      by_cases c : k = p.1
      · subst c
        rw [lookup_key.2 hn.1, lookup_key.2 (by rw [hk2]; exact hn.1)]
      · have := hl k
        rw [List.lookup_cons, List.lookup_cons, hp, show (k == p.1) = false by simpa using c] at this
        exact this
theorem used_mem {L : List (Seg × Nat)} {x : Seg × Nat} (h : x ∈ L) : x.1.bytes.length ≤ used (logFs L) := by
  unfold used logFs
  rw [List.map_map]
  induction L with
  | nil => cases h
  | cons y r ih =>
    rw [List.map_cons, List.sum_cons]
    rcases List.mem_cons.1 h with rfl | h
    · simp
    · have := ih h; simp at this ⊢; omega
theorem crash_pre {ps : Ps} {L : List (Seg × Nat)} {n f : Nat} {cap : Int} (hI : LogIn n f (segs L)) (hf : pfs ps = logFs L) (hle : ∀ x ∈ L, x.2 ≤ x.1.bytes.length) (hu : (used (logFs L) : Int) ≤ cap) (hc1 : cap ≤ 1073741824) : (∀ p ∈ ps, p.1.length ≤ 128) ∧ ps.length ≤ 4398046511104 ∧ ∀ p ∈ ps, p.2.2.safe ≤ p.2.2.b.length ∧ p.2.2.b.length < 4611686018427387904 := by
  have hm : ∀ p ∈ ps, ∃ x ∈ L, p.1 = fname x.1.number ∧ p.2.2 = ⟨x.1.bytes, x.2⟩ := fun p hp => by
    have h1 : (p.1, p.2.2) ∈ pfs ps := List.mem_map.2 ⟨p, hp, rfl⟩
    rw [hf] at h1
    obtain ⟨x, hx, e⟩ := List.mem_map.1 h1
    have := Prod.mk.inj e
    exact ⟨x, hx, this.1.symm, this.2.symm⟩
  refine ⟨fun p hp => ?_, ?_, fun p hp => ?_⟩
  · obtain ⟨x, _, e, _⟩ := hm p hp
    rw [e, fname_len]; decide
  · have h1 := congrArg List.length hf
    unfold pfs logFs at h1
    rw [List.length_map, List.length_map] at h1
    have h2 : (segs L).length = L.length := by unfold segs; rw [List.length_map]
    have := hI.num
    omega
  · obtain ⟨x, hx, _, e⟩ := hm p hp
    rw [e]
    have := hle x hx
    have := used_mem hx
    exact ⟨by simpa using hle x hx, by simp only; omega⟩
theorem awake_ok (g : Glob ro) : c_law04_awake B ro σ fun r _ => r = true := by
  refine law04_awake_ok fun hs => ?_
  unfold f_law04_awake
  refine new_ok (tag := fun _ => 0) (r := 10) (fun h => absurd h (by decide)) fun hc0 hc1 T M tag1 σ1 st1 hD1 => ?_
  refine openEmpty_ok g hD1 hc0 (fun h => absurd h (by decide)) fun _ Lb tag2 σ2 st2 hL2 => ?_
  rw [if_neg (by simp)]
  have hs2 := st2.sep
  refine Zt.nw_lit (tag := tag2) (cs := #[.int .u8 97]) hs2 fun sa tag3 σ3 st3 ha => ?_
  refine ⟨sa, rfl, ?_⟩
  refine Zt.nw_lit (tag := tag3) (cs := #[.int .u8 98]) (st3 []).sep fun sb tag4 σ4 st4 hb => ?_
  refine ⟨sb, rfl, ?_⟩
  refine nw_cells (tag := tag4) 20 (st4 []).sep fun V tag5 σ5 st5 r5 => ?_
  have s25 : StepS [] ro tag2 σ2 tag5 σ5 := ((st3 []).trans ((st4 []).trans (st5 []))).s (by simp)
  have hL5 : LSt tag5 σ5 T M Lb 100 999 0 [] := by
    obtain ⟨⟨s, xs, ps, a, b, c, d, e⟩, w, u⟩ := hL2
    exact ⟨⟨s, xs, ps, a.keepS s25 (by simp) (by simp), b.keepS s25 (by simp), Sn.DiskAt.keepS c s25 (by simp), d, e⟩, w, u⟩
  refine append_ok (tag := tag5) (q := 20) (ss := [sa, sb]) (ds := [[97], [98]]) g hL5 (by decide) (by decide) r5 (by decide) ⟨rfl, fun i x d hx hd => ?_⟩ (by decide) (fun ⟨d, hd, h⟩ => ?_) (fun _ k _ _ _ _ _ hlt => ?_) (fun _ safe' L' tag6 σ6 st6 hL6 hrec hsf hsx _ => ?_)
  · match i, hx, hd with
    | 0, hx, hd => cases hx; cases hd; exact .inr (ha.keep ((st4 []).trans (st5 [])) (by simp))
    | 1, hx, hd => cases hx; cases hd; exact .inr (hb.keep (st5 []) (by simp))
    | i + 2, hx, _ => cases hx
  · rcases List.mem_cons.1 hd with rfl | hd
    · exact absurd h (by decide)
    · rw [List.mem_singleton.1 hd] at h; exact absurd h (by decide)
  · exact absurd hlt (by decide)
  have h0 : safe' = 0 := by rcases hsx with h | h; exact h; exact absurd h (by decide)
  subst h0
  obtain ⟨⟨s, xs, ps, hA, hrow, hD, hx, hf⟩, hW, hU⟩ := hL6
  have hrec : recsOf (segs L') = [[97], [98]] := hrec
  unfold j5_law04_awake
  rw [if_neg (by simp)]
  refine logNext_ok hA (by rw [hx]; exact hW.inn) ?_
  rw [hx, hW.next, hrec]
  unfold j7_law04_awake
  rw [if_neg (by simp)]
  refine get_ok (i := 1) hA (by rw [hx]; exact hW.inn) (by rw [hx]; exact hW.recs) (fun h => ?_) (fun j d hj hd s7 tag7 σ7 st7 r7 => ?_)
  · rw [hx, hrec] at h
    rcases h with h | h <;> exact absurd h (by decide)
  · rw [hx, hrec] at hd
    have : j = 1 := by omega
    subst this
    cases hd
    rw [if_pos rfl]
    refine Zt.awp_b2s (r7.read (st7 []).sep) ⟨_, rfl, ?_⟩
    unfold j11_law04_awake
    rw [if_pos (show decide (S [98] = (⟨#[98]⟩ : ByteArray)) = true from decide_eq_true rfl)]
    refine logSafe_ok (hA.keep0 (st7 [])) ?_
    unfold j13_law04_awake
    exact decide_eq_true rfl
end Go.Proofs.YtfobjidchipdaaaGreatDoor.Wl

/- WalKeeps, the walk. -/
namespace Go.Proofs.YtfobjidchipdaaaGreatDoor.Wl
open Go Go.Proofs.YtfobjidchipdaaaGreatDoor.SL Go.Proofs.YtfobjidchipdaaaGreatDoor.G Go.Proofs.YtfobjidchipdaaaGreatDoor.Pa Go.Proofs.YtfobjidchipdaaaGreatDoor.Wi Go.Proofs.YtfobjidchipdaaaGreatDoor.Dk
set_option linter.unusedSimpArgs false
set_option linter.unusedVariables false
set_option maxRecDepth 100000
variable {B : World} {ro σ σ' : AH} {tag tag' : Nat → Nat}
theorem room_le {ds : List Str} (h : ∀ d ∈ ds, d.length ≤ 4096) : room ds ≤ ds.length * 4121 := by
  unfold room
  induction ds with
  | nil => simp
  | cons d r ih =>
    have := ih fun x hx => h x (List.mem_cons_of_mem _ hx)
    have := h d List.mem_cons_self
    rw [List.map_cons, List.sum_cons, List.length_cons, Nat.add_mul]; omega
/-- what a crash leaves of a log's files -/
theorem crash_log {fs' : Fs} {L0 : List (Seg × Nat)} {g : Seg} {m n f : Nat} (hI : LogIn n f (segs (L0 ++ [(g, m)]))) (hfull : ∀ x ∈ L0, x.2 = x.1.bytes.length) (hcr : CrashR (logFs (L0 ++ [(g, m)])) fs') : ∃ m', m ≤ m' ∧ m' ≤ g.bytes.length ∧ fs' = logFs L0 ++ [(fname g.number, ⟨g.bytes.take m', m'⟩)] := by
  have hnum := hI.num
  have hsl : (segs (L0 ++ [(g, m)])).length = L0.length + 1 := by simp [segs]
  have hch := hI.chain
  rw [segs_snoc] at hch
  have hn0 := notin_last hch (by unfold segs; rw [List.length_map]; omega)
  have hnl := hn0
  rw [← logFs_names] at hnl
  obtain ⟨m', h1, h2, h3⟩ := hcr.file (fname g.number) ⟨g.bytes, m⟩ (by rw [logFs_snoc]; exact lookup_snoc hnl)
  simp only at h1 h2 h3
  refine ⟨m', h1, h2, ?_⟩
  have hnd : ((logFs (L0 ++ [(g, m)])).map (·.1)).Nodup := by
    rw [logFs_names]
    refine (chain_names hI.chain (by omega)).imp fun h e => ?_
    rw [e] at h; exact absurd h (List.lt_irrefl _)
  have hk2 : (logFs L0 ++ [(fname g.number, (⟨g.bytes.take m', m'⟩ : Fl))]).map (·.1) = (logFs (L0 ++ [(g, m)])).map (·.1) := by rw [logFs_snoc, List.map_append, List.map_append]; rfl
  refine assoc_ext (by rw [hcr.keys, hk2]) (by rw [hk2]; exact hnd) fun k => ?_
  by_cases c : k = fname g.number
  · rw [c, lookup_snoc hnl, h3]
  · cases e : (logFs L0).lookup k with
    | none =>
      have hno : k ∉ (logFs (L0 ++ [(g, m)])).map (·.1) := by
        rw [logFs_snoc, List.map_append, List.mem_append, not_or]
        exact ⟨lookup_key.1 e, by simpa using c⟩
      rw [lookup_key.2 (by rw [hk2]; exact hno), lookup_key.2 (by rw [hcr.keys]; exact hno)]
    | some x =>
      have hm := mem_lookup e
      have hx : x.safe = x.b.length := by
        obtain ⟨y, hy, e2⟩ := List.mem_map.1 hm
        rw [← (Prod.mk.inj e2).2]
        exact hfull y hy
      have hin : (k, x) ∈ logFs (L0 ++ [(g, m)]) := by rw [logFs_snoc]; exact List.mem_append_left _ hm
      obtain ⟨m2, a1, a2, a3⟩ := hcr.file k x (lookup_mem hnd hin)
      have : m2 = x.b.length := by omega
      subst this
      rw [List.take_length] at a3
      rw [a3]
      have hin2 : (k, x) ∈ logFs L0 ++ [(fname g.number, (⟨g.bytes.take m', m'⟩ : Fl))] := List.mem_append_left _ hm
      rw [lookup_mem (by rw [hk2]; exact hnd) hin2]
      cases x
      simp only at hx
      rw [hx]
/-- opened again behind a crash: how many records there are -/
theorem keepsOpen_ok {T M safe : Nat} {limit : Int} {ps : Ps} {L : List (Seg × Nat)} {s3 : Sl} {ws : List Int} {Q : Option Addr → Int → AH → Prop} (g : Glob ro) (hD : Disk tag σ 10 T M 1073741824 ps) (hW : LW safe L) (hf : pfs ps = logFs L) (hu : used (logFs L) ≤ 5000000) (hlim : ¬ (limit < 16 ∨ 1048576 < limit)) (h3 : SL.Read ro (fun _ => none) s3 (ws.map Zt.vI)) (hl3 : ws.length ≤ 17592186044416)
    (hQ : ∀ Lb s xs k tag' σ', StepS [0, 3, 10, 11, 16, 17, 51] ro tag σ tag' σ' → LogAt tag' σ' 11 T Lb limit (nextOf (xs.map (·.2))) s xs → LogIn 1 0 (xs.map (·.2)) → recsOf (xs.map (·.2)) = (recsOf (segs L)).take k → safe ≤ k → k ≤ (recsOf (segs L)).length → nextOf (xs.map (·.2)) = k → firstOf (xs.map (·.2)) = 0 → Q (some ⟨Lb, 0, none⟩) 0 σ') :
    c_ref01_CopyInts B ro s3 σ fun x σ => c_disk_Disk_Crash B ro (some ⟨T, 0, none⟩) x σ fun σ => c_wal_Open B ro (some ⟨T, 0, none⟩) (S logN) limit σ Q := by
  refine Zt.copyInts_ok (tag := tag) 51 h3 hl3 fun b tag1 σ1 st1 r1 => ?_
  have h1 := hD.keep st1 (by simp)
  have hI := hW.inn
  obtain ⟨p1, p2, p3⟩ := crash_pre hI hf hW.le (cap := 1073741824) (by omega) (Int.le_refl _)
  refine crash_ok (q := 0) (cs := ws) h1 (by decide) (by decide) (by decide) (Nat.le_refl _) (fun tag' σ' st => (r1.keepS st (by decide)).read st.sep) p1 p2 p3 fun ps' tag2 σ2 st2 hD2 hcr => ?_
  rw [hf] at hcr
  have s02 : StepS [0, 3, 10, 11, 16, 17, 51] ro tag σ tag2 σ2 := (st1.s (by decide)).trans (st2.mono (by decide))
  rcases List.eq_nil_or_concat L with rfl | ⟨L0, ⟨gl, m⟩, rfl⟩
  · have hps : ps' = [] := by
      have := hcr.keys
      rw [pfs_keys] at this
      exact List.map_eq_nil_iff.1 this
    subst hps
    refine openEmpty_ok g hD2 (by decide) (fun h => absurd h hlim) fun _ Lb tag3 σ3 st3 hL => ?_
    obtain ⟨⟨s, xs, ps2, hA, _, _, hx, _⟩, _, _⟩ := hL
    have hxn : xs = [] := List.map_eq_nil_iff.1 hx
    subst hxn
    exact hQ Lb s [] 0 tag3 σ3 (s02.trans (st3.mono (by decide))) hA ⟨trivial, by decide, by decide, by decide⟩ rfl (by rw [hW.safe.1 rfl]; exact Nat.le_refl _) (Nat.zero_le _) rfl rfl
  · rw [List.concat_eq_append] at *
    have hseg := segs_snoc L0 gl m
    have hrec := recsOf_snoc (segs L0) gl
    obtain ⟨m', c1, c2, c3⟩ := crash_log hI (fun x hx => hW.full x (by rw [List.dropLast_concat]; exact hx)) hcr
    obtain ⟨k0, k1, k2, k3⟩ := hW.safe.2 L0 gl m rfl
    have hub : ∀ x ∈ L0 ++ [(gl, m)], x.1.bytes.length ≤ 5000000 := fun x hx => by have := used_mem hx; omega
    have hglb := hub (gl, m) (by simp)
    simp only at hglb
    have hu2 : used (pfs ps') ≤ 5000000 := by
      rw [c3]
      rw [logFs_snoc] at hu
      unfold used at hu ⊢
      rw [List.map_append, List.sum_append] at hu ⊢
      simp only [List.map_cons, List.map_nil, List.sum_cons, List.sum_nil, List.length_take] at hu ⊢
      omega
    obtain ⟨ch0, chl⟩ := chain_append.1 (by have := hI.chain; rw [hseg] at this; exact this)
    obtain ⟨hgn, hgf, _⟩ := chl
    rw [Nat.zero_add] at hgf
    have hnum := hI.num
    have hidx := hI.idx
    have hsl : (segs (L0 ++ [(gl, m)])).length = (segs L0).length + 1 := by rw [hseg, List.length_append]; rfl
    rw [hseg, hrec, List.length_append] at hidx
    refine openFull_ok (n := 1) (f := 0) (m := m') (sf := m') (L0 := L0) (gs := gl) g hD2 (by decide) (Int.le_refl _) (by rw [← hseg]; exact hI) (by rw [← hseg]; exact hW.recs) c3 c2 (fun x hx => ?_) (by omega) (.inr (by omega)) (fun h => absurd h hlim) fun _ Lb s xs tag3 σ3 st3 hA hres => ?_
    · rw [← hseg] at hx
      obtain ⟨y, hy, rfl⟩ := List.mem_map.1 hx
      have := hub y hy
      omega
    · have s03 := s02.trans (st3.mono (D := [0, 3, 10, 11, 16, 17, 51]) (by decide))
      rcases hres with ⟨h1, hx⟩ | ⟨h1, j, j1, j2, j3, hx⟩
      · -- the last file is gone
        have hk00 : k0 = 0 := by
          rcases k3 with h | h
          · exact h
          · rw [List.length_append] at h; omega
        refine hQ Lb s xs (recsOf (segs L0)).length tag3 σ3 s03 hA (by rw [hx]; exact ⟨ch0, by omega, by omega, Nat.le_refl _⟩) ?_ (by omega) (by rw [hseg, hrec, List.length_append]; omega) ?_ ?_
        · rw [hx, hseg, hrec, List.take_left]
        · rw [hx]
          by_cases c : segs L0 = []
          · rw [c]; rfl
          · rw [chain_next ch0 c, Nat.zero_add]
        · rw [hx]
          cases e : segs L0 with
          | nil => rfl
          | cons x r => rw [e] at ch0; exact ch0.2.1
      · have hkj : k0 ≤ j := by
          rcases Nat.lt_or_ge j k0 with h | h
          · exfalso
            rcases k3 with h0 | h0
            · omega
            · rcases j3 with h4 | h4
              · omega
              · have hmn := fl_mono (g := gl) (i := j + 1) (j := k0) (by omega)
                have e : (headOf gl.first ++ (gl.recs.take k0).flatMap frame).length = fl gl k0 := by unfold fl; rw [List.length_append]
                rw [e] at h0; omega
          · exact h
        have hchj : Chain 1 0 (segs L0 ++ [⟨gl.number, gl.first, gl.recs.take j⟩]) := chain_append.2 ⟨ch0, hgn, by rw [Nat.zero_add]; exact hgf, trivial⟩
        have hrj : recsOf (segs L0 ++ [⟨gl.number, gl.first, gl.recs.take j⟩]) = recsOf (segs L0) ++ gl.recs.take j := recsOf_snoc _ _
        refine hQ Lb s xs ((recsOf (segs L0)).length + j) tag3 σ3 s03 hA (by rw [hx]; exact ⟨hchj, by rw [List.length_append]; simp; omega, by rw [hrj, List.length_append, List.length_take]; omega, Nat.le_refl _⟩) ?_ (by omega) (by rw [hseg, hrec, List.length_append]; omega) ?_ ?_
        · rw [hx, hrj, hseg, hrec, List.take_length_add_append]
        · rw [hx, chain_next hchj (by simp), hrj, List.length_append, List.length_take]; omega
        · rw [hx]
          cases e : segs L0 with
          | nil => rw [e] at hgf; exact hgf
          | cons x r => rw [e] at ch0; exact ch0.2.1
theorem Recs.append {ss1 ss2 : List Sl} {ds1 ds2 : List Str} (h1 : Recs ro tag σ ss1 ds1) (h2 : Recs ro tag σ ss2 ds2) : Recs ro tag σ (ss1 ++ ss2) (ds1 ++ ds2) := by
  have e1 := h1.1
  have e2 := h2.1
  refine ⟨by rw [List.length_append, List.length_append]; omega, fun i x d hx hd => ?_⟩
  rcases Nat.lt_or_ge i ss1.length with h | h
  · rw [List.getElem?_append_left h] at hx
    rw [List.getElem?_append_left (by omega)] at hd
    exact h1.2 i x d hx hd
  · rw [List.getElem?_append_right h] at hx
    rw [List.getElem?_append_right (by omega)] at hd
    exact h2.2 (i - ss1.length) x d hx (by rw [e1]; exact hd)
theorem walKeeps_ok (g : Glob ro) {limit : Int} {s1 s2 s3 : Sl} {cs ls : List (Sl × Str)} {ws : List Int} (h1 : SL.Read ro (fun _ => none) s1 ((cs.map (·.1)).map Sl.v)) (hcs : Sn.Given ro cs) (h2 : SL.Read ro (fun _ => none) s2 ((ls.map (·.1)).map Sl.v)) (hls : Sn.Given ro ls) (h3 : SL.Read ro (fun _ => none) s3 (ws.map Zt.vI)) (l1 : cs.length ≤ 1099511627776) (l2 : ls.length ≤ 1099511627776) (hl3 : ws.length ≤ 17592186044416) :
    c_law04_WalKeeps B ro limit s1 s2 s3 σ fun r _ => r = true := by
  refine law04_WalKeeps_ok fun hs => ?_
  unfold f_law04_WalKeeps
  have e1 : s1.len = cs.length := by rw [h1.1, List.length_map, List.length_map]
  have e2 : s2.len = ls.length := by rw [h2.1, List.length_map, List.length_map]
  have given : ∀ {ks : List (Sl × Str)}, Sn.Given ro ks → ∀ (i : Nat) (x : Sl) (d : Str), (ks.map (·.1))[i]? = some x → (ks.map (·.2))[i]? = some d → SL.Read ro (fun _ => none) x (d.map vU) ∧ d.length ≤ 140737488355328 := fun {ks} hk i x d hx hd => by
    rw [List.getElem?_map] at hx hd
    obtain ⟨y, hy, rfl⟩ := Option.map_eq_some_iff.1 hx
    rw [hy] at hd
    cases hd
    have := hk y (List.mem_of_getElem? hy)
    exact ⟨this.1, this.2.2⟩
  -- both copied and joined
  have both : ∀ (tag1 : Nat → Nat) (σ1 : AH) (K : Sl → AH → Prop), SL.Sep ro σ1 → (∀ s ss tag' σ', StepS [0, 20, 21] ro tag1 σ1 tag' σ' → Row tag' σ' 20 22 s (ss.map Sl.v) → Recs ro tag' σ' ss (cs.map (·.2) ++ ls.map (·.2)) → K s σ') →
      c_law04_copied B ro s1 σ1 fun x σ => c_law04_copied B ro s2 σ fun y σ => awp Tryz.prog ro (Builtin.append_ #[44, 44] 44 #[Sl.v x, Sl.v y]) (fun v σ => ∃ z : Sl, v = Sl.v z ∧ K z σ) σ := by
    intro tag1 σ1 K hs1 hK
    refine copied_ok (tag := tag1) 20 (by decide) (by decide) h1 (by rw [List.length_map, List.length_map]) (given hcs) (by rw [List.length_map]; exact l1) fun x ss1 tag2 σ2 st2 r2 hR2 => ?_
    refine copied_ok (tag := tag2) 21 (by decide) (by decide) h2 (by rw [List.length_map, List.length_map]) (given hls) (by rw [List.length_map]; exact l2) fun y ss2 tag3 σ3 st3 r3 hR3 => ?_
    have hR23 := hR2.keepS st3 (by decide)
    have n1 := hR2.1
    have n2 := hR3.1
    rw [List.length_map] at n1 n2
    refine awp_appendN (r2.keepS st3 (by decide)) st3.sep (r3.read st3.sep) Sn.u44 ty22 rfl (by simp [storable, Sl.v]) (by rw [List.length_map, List.length_map]; omega) (by decide) fun z tag4 σ4 st4 r4 => ?_
    have st4 := st4 [20] (.inr (by simp))
    refine ⟨z, rfl, ?_⟩
    refine hK z (ss1 ++ ss2) tag4 σ4 ((st2.mono (by decide)).trans ((st3.mono (by decide)).trans (st4.s (by decide)))) (by rw [List.map_append]; exact r4) ?_
    exact (Recs.append hR23 hR3).keepS (st4.s (C := [20]) (by decide)) (by decide)
  refine nw_cells (tag := fun _ => 0) 50 hs fun V tag1 σ1 st1 r1 => ?_
  obtain ⟨p, hp, hg⟩ := r1.ptr (st1 []).sep (by simp)
  cases hp
  refine ⟨limit, hg 0 _ rfl, s1, hg 1 _ rfl, s2, hg 2 _ rfl, s3, hg 3 _ rfl, ?_⟩
  refine new_ok (tag := tag1) (r := 10) (fun hb => absurd hb (by decide)) fun hc0 hc1 T M tag2 σ2 st2 hD2 => ?_
  rw [if_neg (by simp)]
  refine openEmpty_ok g hD2 hc0 (fun hb _ => ?_) fun hlim Lb tag3 σ3 st3 hL3 => ?_
  · rw [if_pos (.inl rfl), if_pos hb]
    unfold j10_law04_WalKeeps
    exact c_law04_awake_mono (awake_ok g) fun r σ _ e => e
  rw [if_neg (by simp)]
  have keepL : ∀ {C : List Nat} {safe : Nat} {L : List (Seg × Nat)} {tg tg' : Nat → Nat} {τ τ' : AH}, LSt tg τ T M Lb limit 1073741824 safe L → StepS C ro tg τ tg' τ' → 10 ∉ C → 11 ∉ C → 6 ∉ C → LSt tg' τ' T M Lb limit 1073741824 safe L := fun {C safe L tg tg' τ τ'} hL st c10 c11 c6 => by
    obtain ⟨⟨s, xs, ps, a, b, c, d, e⟩, w, u⟩ := hL
    exact ⟨⟨s, xs, ps, a.keepS st c11 c6, b.keepS st c11, Sn.DiskAt.keepS c st c10, d, e⟩, w, u⟩
  have hall0 : ∀ x ∈ cs.map (·.2) ++ ls.map (·.2), x.length ≤ 140737488355328 := fun x hx => by
    rcases List.mem_append.1 hx with hx | hx
    · obtain ⟨y, hy, rfl⟩ := List.mem_map.1 hx; exact (hcs y hy).2.2
    · obtain ⟨y, hy, rfl⟩ := List.mem_map.1 hx; exact (hls y hy).2.2
  refine both tag3 σ3 _ st3.sep fun z ss tag4 σ4 st4 r4 hR4 => ?_
  have hL4 := keepL hL3 st4 (by decide) (by decide) (by decide)
  have hzl : z.len = (cs.map (·.2) ++ ls.map (·.2)).length := by rw [r4.len, List.length_map]; exact hR4.1
  have hDl : (cs.map (·.2) ++ ls.map (·.2)).length = cs.length + ls.length := by rw [List.length_append, List.length_map, List.length_map]
  have ewl : IntKind.i64.wrap ((s1.len : Int) + (s2.len : Int)) = ((cs.length + ls.length : Nat) : Int) := by rw [w64_eq (by omega) (by omega)]; omega
  -- behind the first loop
  have body : (∀ d ∈ cs.map (·.2) ++ ls.map (·.2), d.length ≤ 4096) → j13_law04_WalKeeps B ro limit s1 s2 s3 (some ⟨T, 0, none⟩) (some ⟨Lb, 0, none⟩) (fun r _ => r = true) σ4 := by
    intro hall
    unfold j13_law04_WalKeeps
    rw [ewl]
    by_cases c1 : 1000 < cs.length + ls.length
    · rw [if_pos (by omega)]
      unfold j14_law04_WalKeeps
      rw [if_pos rfl]
      unfold j16_law04_WalKeeps
      rw [if_pos rfl]
      unfold j18_law04_WalKeeps
      rw [if_pos rfl]
      unfold j20_law04_WalKeeps
      rw [if_pos rfl, ewl, if_pos (by omega)]
      unfold j22_law04_WalKeeps
      exact c_law04_awake_mono (awake_ok g) fun r σ _ e => e
    rw [if_neg (by omega)]
    have hall1 : ∀ d ∈ cs.map (·.2), d.length ≤ 4096 := fun d hd => hall d (List.mem_append_left _ hd)
    have hall2 : ∀ d ∈ ls.map (·.2), d.length ≤ 4096 := fun d hd => hall d (List.mem_append_right _ hd)
    have rm1 := room_le hall1
    have rm2 := room_le hall2
    rw [List.length_map] at rm1 rm2
    refine copied_ok (tag := tag4) 20 (by decide) (by decide) h1 (by rw [List.length_map, List.length_map]) (given hcs) (by rw [List.length_map]; exact l1) fun x1 sx1 tag5 σ5 st5 r5 hR5 => ?_
    have hL5 := keepL hL4 st5 (by decide) (by decide) (by decide)
    have hu0 : used (logFs []) = 0 := rfl
    have n0 : (recsOf (segs [])).length = 0 := rfl
    refine append_ok (tag := tag5) (q := 20) (ds := cs.map (·.2)) g hL5 hc0 hc1 r5 (by decide) hR5 (by rw [List.length_map]; omega) (fun ⟨d, hd, hb⟩ => by have := hall1 d hd; omega) (fun _ k safe' L' tag6 σ6 hk hlt => by omega) (fun _ safeA LA tag6 σ6 st6 hL6 hrecA _ _ husA => ?_)
    have hrecA : recsOf (segs LA) = cs.map (·.2) := hrecA
    rw [decide_eq_true rfl]
    unfold j14_law04_WalKeeps
    rw [if_neg (by simp)]
    obtain ⟨⟨sA, xsA, psA, hA6, hrow6, hD6, hx6, hf6⟩, hW6, hU6⟩ := hL6
    refine logSync_ok g hA6 hD6 hx6 hW6.inn hf6 fun ps7 tag7 σ7 st7 hA7 hD7 hf7 => ?_
    rw [decide_eq_true rfl]
    have hseA := segs_syncL LA
    have hnxA : nextOf (segs LA) = cs.length := by rw [hW6.next, hrecA, List.length_map]
    have hL7 : LSt tag7 σ7 T M Lb limit 1073741824 cs.length (syncL LA) := by
      refine ⟨⟨sA, xsA, ps7, by rw [← hnxA]; exact hA7, hrow6.keepP st7 (by simp only [syncP]; omega), hD7, by rw [hseA]; exact hx6, hf7⟩, by rw [← hnxA]; exact hW6.sync, by rw [used_syncL]; exact hU6⟩
    unfold j16_law04_WalKeeps
    rw [if_neg (by simp)]
    refine copied_ok (tag := tag7) 20 (by decide) (by decide) h2 (by rw [List.length_map, List.length_map]) (given hls) (by rw [List.length_map]; exact l2) fun x2 sx2 tag8 σ8 st8 r8 hR8 => ?_
    have hL8 := keepL hL7 st8 (by decide) (by decide) (by decide)
    refine append_ok (tag := tag8) (q := 20) (ds := ls.map (·.2)) g hL8 hc0 hc1 r8 (by decide) hR8 (by rw [hseA, hrecA, List.length_map, List.length_map]; omega) (fun ⟨d, hd, hb⟩ => by have := hall2 d hd; omega) (fun _ k safe' L' tag9 σ9 hk hlt => by rw [used_syncL] at hlt; omega) (fun _ safeB LB tag9 σ9 st9 hL9 hrecB hsfB _ husB => ?_)
    rw [hseA, hrecA] at hrecB
    rw [used_syncL] at husB
    obtain ⟨⟨sB, xsB, psB, hA9, hrow9, hD9, hx9, hf9⟩, hW9, hU9⟩ := hL9
    rw [decide_eq_true rfl]
    unfold j18_law04_WalKeeps
    rw [if_neg (by simp)]
    refine logSafe_ok hA9 ?_
    rw [decide_eq_false (show ¬ ((safeB : Nat) : Int) < (s1.len : Int) by omega)]
    unfold j20_law04_WalKeeps
    rw [if_neg (by simp)]
    refine logSafe_ok hA9 ?_
    refine keepsOpen_ok g hD9 hW9 hf9 (by omega) hlim h3 hl3 fun Lb2 sC xsC k tagA σA stA hAA hIA hrecC hk1 hk2 hnC hfC => ?_
    rw [if_neg (by simp)]
    refine logNext_ok hAA hIA ?_
    rw [hnC, decide_eq_false (by omega)]
    unfold j29_law04_WalKeeps
    rw [if_neg (by simp)]
    refine logNext_ok hAA hIA ?_
    rw [hrecB, hDl] at hk2
    rw [hnC, ewl, decide_eq_false (by omega)]
    unfold j31_law04_WalKeeps
    rw [if_neg (by simp)]
    refine logFirst_ok hAA ?_
    rw [hfC, decide_eq_true (show ((0 : Nat) : Int) = 0 from rfl)]
    unfold j33_law04_WalKeeps
    rw [if_neg (by simp)]
    refine both tagA σA _ stA.sep fun zB ssB tagB σB stB rB hRB => ?_
    have hAB := hAA.keepS stB (by decide) (by decide)
    have hzB : zB.len = cs.length + ls.length := by rw [rB.len, List.length_map, hRB.1, hDl]
    have hrl : ∀ d ∈ recsOf (xsC.map (·.2)), d.length ≤ 65536 := fun d hd => by
      rw [hrecC] at hd
      exact hW9.recs d (List.mem_of_mem_take hd)
    have hrcl : (recsOf (xsC.map (·.2))).length = k := by rw [hrecC, List.length_take, hrecB, hDl]; omega
    suffices ∀ (m j : Nat) (tagC : Nat → Nat) (σC : AH), j + m = cs.length + ls.length → Step [] ro tagB σB tagC σC → lfpD (l40_law04_WalKeeps B ro (some ⟨Lb2, 0, none⟩) zB (fun r _ => r = true)) (j : Int) σC from
      this _ 0 tagB σB (Nat.zero_add _) (Step.refl stB.sep)
    intro m
    induction m with
    | zero =>
      intro j tagC σC hj stC
      refine lfpD.intro ?_
      unfold l40_law04_WalKeeps
      rw [if_neg (by omega)]
      unfold j35_law04_WalKeeps
      exact c_law04_awake_mono (awake_ok g) fun r σ _ e => e
    | succ m ih =>
      intro j tagC σC hj stC
      have hAC := hAB.keep0 stC
      have hRC := hRB.keepS (stC.s (C := []) (by simp)) (by simp)
      have hjs : j < ssB.length := by rw [hRB.1, hDl]; omega
      have hjd : j < (cs.map (·.2) ++ ls.map (·.2)).length := by rw [hDl]; omega
      obtain ⟨p, hp, hgp⟩ := (rB.keep stC (by simp)).ptr stC.sep (by rw [List.length_map]; omega)
      refine lfpD.intro ?_
      generalize hY : lfpD (l40_law04_WalKeeps B ro (some ⟨Lb2, 0, none⟩) zB (fun r _ => r = true)) = Y
      unfold l40_law04_WalKeeps
      rw [if_pos (by omega)]
      refine ⟨p, hp, by omega, by omega, ssB[j], by rw [Int.toNat_natCast]; exact hgp j _ (by rw [List.getElem?_map, List.getElem?_eq_getElem hjs]; rfl), ?_⟩
      refine get_ok (i := (j : Int)) hAC hIA hrl (fun hb => ?_) (fun j' d' hj' hd' sD tagD σD stD rD => ?_)
      · rw [hrcl] at hb
        refine logNext_ok hAC hIA ?_
        rw [hnC, if_neg (by omega)]
        unfold j47_law04_WalKeeps
        rw [if_neg (by simp)]
        refine logNext_ok hAC hIA ?_
        rw [decide_eq_false (show ¬ (41 : Int) = 0 by decide), Bool.and_false]
        unfold j49_law04_WalKeeps
        rw [if_neg (by simp), Pa.inc j (by omega), ← hY]
        exact ih (j + 1) tagC σC (by omega) stC
      · have hjj : j' = j := by omega
        subst hjj
        have hjk : j' < k := by
          rw [← hrcl]
          exact (List.getElem?_eq_some_iff.1 hd').1
        rw [hrecC, List.getElem?_take, if_pos hjk, hrecB] at hd'
        have hsd := (hRC.2 j' _ _ (List.getElem?_eq_getElem hjs) hd').keep (stD []) (by simp)
        have hAD := hAC.keep0 (stD [])
        refine logNext_ok hAD hIA ?_
        rw [hnC, if_pos (by omega), if_neg (by decide)]
        refine Zt.same_ok (hsd.read (stD []).sep) (rD.read (stD []).sep) ?_
        rw [decide_eq_true rfl]
        unfold j52_law04_WalKeeps j47_law04_WalKeeps
        rw [if_neg (by simp)]
        refine logNext_ok hAD hIA ?_
        rw [hnC, decide_eq_false (show ¬ ((k : Nat) : Int) ≤ (j' : Int) by omega), Bool.false_and]
        unfold j49_law04_WalKeeps
        rw [if_neg (by simp), Pa.inc j' (by omega), ← hY]
        exact ih (j' + 1) tagD σD (by omega) (stC.trans (stD []))
  suffices ∀ (m j : Nat), j + m = (cs.map (·.2) ++ ls.map (·.2)).length → (∀ (i : Nat) (d : Str), i < j → (cs.map (·.2) ++ ls.map (·.2))[i]? = some d → d.length ≤ 4096) → lfpD (l67_law04_WalKeeps B ro limit s1 s2 s3 (some ⟨T, 0, none⟩) (some ⟨Lb, 0, none⟩) z (fun r _ => r = true)) (j : Int) σ4 from
    this _ 0 (Nat.zero_add _) (fun i d h => by omega)
  intro m
  induction m with
  | zero =>
    intro j hj hall
    refine lfpD.intro ?_
    unfold l67_law04_WalKeeps
    rw [if_neg (by omega)]
    refine body fun d hd => ?_
    obtain ⟨i, hi, rfl⟩ := List.mem_iff_getElem.1 hd
    exact hall i _ (by omega) (List.getElem?_eq_getElem hi)
  | succ m ih =>
    intro j hj hall
    have hjd : j < (cs.map (·.2) ++ ls.map (·.2)).length := by omega
    have hjs : j < ss.length := by rw [hR4.1]; omega
    obtain ⟨p, hp, hgp⟩ := r4.ptr st4.sep (by rw [List.length_map]; omega)
    have hdj := (hR4.2 j _ _ (List.getElem?_eq_getElem hjs) (List.getElem?_eq_getElem hjd)).len
    rw [List.length_map] at hdj
    refine lfpD.intro ?_
    generalize hY : lfpD (l67_law04_WalKeeps B ro limit s1 s2 s3 (some ⟨T, 0, none⟩) (some ⟨Lb, 0, none⟩) z (fun r _ => r = true)) = Y
    unfold l67_law04_WalKeeps
    rw [if_pos (by omega)]
    refine ⟨p, hp, by omega, by omega, ss[j], by rw [Int.toNat_natCast]; exact hgp j _ (by rw [List.getElem?_map, List.getElem?_eq_getElem hjs]; rfl), ?_⟩
    by_cases c : 4096 < ((cs.map (·.2) ++ ls.map (·.2))[j]).length
    · rw [if_pos (by omega)]
      exact c_law04_awake_mono (awake_ok g) fun r σ _ e => e
    · rw [if_neg (by omega), Pa.inc j (by omega), ← hY]
      refine ih (j + 1) (by omega) fun i d hi hdi => ?_
      rcases Nat.lt_or_ge i j with h1 | h1
      · exact hall i d h1 hdi
      · obtain rfl : i = j := by omega
        rw [List.getElem?_eq_getElem hjd] at hdi
        cases hdi; omega
end Go.Proofs.YtfobjidchipdaaaGreatDoor.Wl
