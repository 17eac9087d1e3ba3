/- WlJ, WlK, WlM -/
import Derived.Test.YtfobjidchipdaaaGreatDoorXL
/- Logs, the walk: Open. -/
namespace Go.Proofs.YtfobjidchipdaaaGreatDoor.Wl
open Go Go.Proofs.YtfobjidchipdaaaGreatDoor.SL Go.Proofs.YtfobjidchipdaaaGreatDoor.G Go.Proofs.YtfobjidchipdaaaGreatDoor.Pa Go.Proofs.YtfobjidchipdaaaGreatDoor.Wi Go.Proofs.YtfobjidchipdaaaGreatDoor.Dk
set_option linter.unusedSimpArgs false
set_option linter.unusedVariables false
set_option maxRecDepth 100000
variable {B : World} {ro σ σ' : AH} {tag tag' : Nat → Nat}
abbrev OC : List Nat := [0, 3, 10, 11, 16, 17]
/-- up to the loop over the files' numbers -/
theorem openBegin_ok {T M : Nat} {limit cap : Int} {ps : Ps} {ns : List Nat} {Q : Option Addr → Int → AH → Prop} (hD : Disk tag σ 10 T M cap ps) (hbl : ∀ p ∈ ps, p.2.2.b.length ≤ 140737488355328) (hns : (pfs ps).map (·.1) = ns.map fname) (hlt : ∀ n ∈ ns, 0 < n ∧ n < 1003) (hpw : ns.Pairwise (· < ·))
    (hbad : limit < 16 ∨ 1048576 < limit → SL.Sep ro σ → Q none 40 σ)
    (hgo : ¬ (limit < 16 ∨ 1048576 < limit) → ∀ Lb Wb s tag' σ', StepS OC ro tag σ tag' σ' → LogAt tag' σ' 11 T Lb limit 0 ⟨none, 0, 0⟩ [] → Disk tag' σ' 10 T M cap ps → Row tag' σ' 16 4 ⟨some ⟨Wb, 0, none⟩, 1, 1⟩ [.bool true] → Row tag' σ' 17 3 s (ns.map fun (n : Nat) => Zt.vI (n : Int)) → lfpD (l24_wal_Open B ro (some ⟨T, 0, none⟩) Wb Lb s Q) 0 σ') : c_wal_Open B ro (some ⟨T, 0, none⟩) (S logN) limit σ Q := by
  refine wal_Open_ok fun hs => ?_
  unfold f_wal_Open
  refine rightLog_ok ?_
  by_cases c : limit < 16 ∨ 1048576 < limit
  · rw [if_pos (by rcases c with c | c; exact .inl (.inr c); exact .inr c)]
    exact hbad c hs
  rw [if_neg (by rintro ((h | h) | h); exact h rfl; exact c (.inl h); exact c (.inr h))]
  refine nw_cells (tag := tag) 11 hs fun Lb tag1 σ1 st1 r1 => ?_
  have hs1 := (st1 []).sep
  have rd : ∀ {tg : Nat → Nat} {τ : AH}, Row tg τ 11 131 ⟨some ⟨Lb, 0, none⟩, 5, 5⟩ [ptr T, vS logN, vI limit, Sl.v ⟨none, 0, 0⟩, vI ((0 : Nat) : Int)] → SL.Sep ro τ → cellsAt ro τ ⟨Lb, 0, none⟩ 0 [.pointer (some ⟨T, 0, none⟩), .string (S logN)] := fun {tg τ} r h => by
    obtain ⟨p, hp, hg⟩ := r.ptr h (by simp)
    cases hp
    refine cellsAt_of 0 fun i v hv => ?_
    rw [Nat.zero_add]
    match i, hv with
    | 0, hv => have := hg 0 v hv; rwa [Nat.zero_mul] at this
    | 1, hv => have := hg 1 v hv; rwa [Nat.one_mul] at this
  refine ⟨_, _, rd r1 hs1, ?_⟩
  refine cutFile_ok (tag := tag1) fun tag2 σ2 st2 => ?_
  have hD2 := hD.keep ((st1 []).trans (st2 [])) (by simp)
  have r2 := r1.keep (st2 []) (by simp)
  have hno : ps.lookup cutN = none := by
    rw [lookup_key, ← pfs_keys, hns]
    intro hm
    obtain ⟨n, _, e⟩ := List.mem_map.1 hm
    exact fname_cut n e
  refine read_ok (n := cutN) hD2 (by decide) (by decide) (st2 []).sep hbl (fun e tag3 σ3 he st3 => ?_) (fun _ b f hb => by rw [hno] at hb; cases hb)
  have hne : ¬ e = 0 := by rcases he with ⟨_, rfl⟩ | ⟨_, _, rfl⟩ <;> decide
  rw [if_neg hne]
  have hD3 := hD2.keep st3 (by nia)
  have r3 := r2.keep st3 (by decide)
  have s03 : StepS OC ro tag σ tag3 σ3 := ((st1 []).s (by simp)).trans (((st2 []).s (by simp)).trans (st3.s (by decide)))
  unfold j3_wal_Open
  refine nw_cells (tag := tag3) 16 st3.sep fun Wb tag4 σ4 st4 r4 => ?_
  refine r4.stAll (st4 []).sep rfl (by simp [storable]) fun σ5 st5 r5 => ?_
  have r35 := (r3.keep (st4 []) (by simp)).keep st5 (by decide)
  refine ⟨_, _, rd r35 st5.sep, ?_⟩
  refine numbers_ok (tag := tag4) (q := 17) (ns := ns) ((hD3.keep (st4 []) (by simp)).keep st5 (by nia)) hns hlt hpw (by decide) (by decide) (by decide) fun s6 tag6 σ6 st6 r6 => ?_
  exact hgo c Lb Wb s6 tag6 σ6 (s03.trans (((st4 []).s (by simp)).trans ((st5.s (by decide)).trans (st6.mono (by decide))))) ⟨r35.keepS st6 (by decide), Held.nil _, (fun x hx => by cases hx), List.nodup_nil⟩ (Sn.DiskAt.keepS ((hD3.keep (st4 []) (by simp)).keep st5 (by nia)) st6 (by decide)) (r5.keepS st6 (by decide)) r6
/-- a log on an empty disk -/
theorem openEmpty_ok {T M : Nat} {limit cap : Int} {Q : Option Addr → Int → AH → Prop} (g : Glob ro) (hD : Disk tag σ 10 T M cap []) (hc0 : 0 ≤ cap)
    (hbad : limit < 16 ∨ 1048576 < limit → SL.Sep ro σ → Q none 40 σ)
    (hgo : ¬ (limit < 16 ∨ 1048576 < limit) → ∀ Lb tag' σ', StepS OC ro tag σ tag' σ' → LSt tag' σ' T M Lb limit cap 0 [] → Q (some ⟨Lb, 0, none⟩) 0 σ') : c_wal_Open B ro (some ⟨T, 0, none⟩) (S logN) limit σ Q := by
  refine openBegin_ok (ns := []) hD (fun p hp => by cases hp) rfl (fun n hn => by cases hn) List.Pairwise.nil hbad fun hlim Lb Wb s tag1 σ1 st1 hA hD1 hW hN => ?_
  have hsl : s.len = 0 := by rw [hN.len]; rfl
  refine lfpD.intro ?_
  unfold l24_wal_Open
  rw [if_neg (by omega)]
  unfold j5_wal_Open
  have hs1 := st1.sep
  obtain ⟨pw, hpw, hgw⟩ := hW.ptr hs1 (by simp)
  cases hpw
  refine ⟨true, by have := hgw 0 _ rfl; rwa [Nat.zero_mul, add_zero] at this, ?_⟩
  rw [if_neg (by simp)]
  have hI : LogIn 1 0 (([] : List (Nat × Seg)).map (·.2)) := ⟨trivial, by decide, by decide, by decide⟩
  refine openEnd_ok g hA hD1 hI hs1 fun tag2 σ2 st2 hA2 hD2 => ?_
  exact hgo hlim Lb tag2 σ2 (st1.trans (st2.s (fun x hx => by simp only [syncP] at hx; simp; omega))) ⟨⟨⟨none, 0, 0⟩, [], [], hA2, Row.nil _ _, hD2 rfl, rfl, rfl⟩, LW.nil, by simpa [logFs, used] using hc0⟩
theorem fl_mono {g : Seg} {i j : Nat} (h : i ≤ j) : fl g i ≤ fl g j := by
  unfold fl
  have : g.recs.take i = (g.recs.take j).take i := by rw [List.take_take, Nat.min_eq_left h]
  rw [this]
  conv => rhs; rw [← List.take_append_drop i (g.recs.take j), List.flatMap_append, List.length_append]
  omega
theorem chain_numbers : ∀ {gs : List Seg} {n f : Nat}, Chain n f gs → gs.map (·.number) = List.range' n gs.length := by
  intro gs
  induction gs with
  | nil => intro n f _; rfl
  | cons g r ih =>
    intro n f h
    obtain ⟨h1, _, h3⟩ := h
    rw [List.map_cons, ih h3, h1, List.length_cons, List.range'_succ]
/-- a log that is opened again: all files are whole but the last, of which the first m bytes are there -/
theorem openFull_ok {T M n f m sf : Nat} {limit cap : Int} {ps : Ps} {L0 : List (Seg × Nat)} {gs : Seg} {Q : Option Addr → Int → AH → Prop} (g : Glob ro) (hD : Disk tag σ 10 T M cap ps) (hc0 : 0 ≤ cap) (hc1 : cap ≤ 1073741824) (hI : LogIn n f (segs L0 ++ [gs])) (hrecs : ∀ d ∈ recsOf (segs L0 ++ [gs]), d.length ≤ 65536)
    (hps : pfs ps = logFs L0 ++ [(fname gs.number, ⟨gs.bytes.take m, sf⟩)]) (hm : m ≤ gs.bytes.length) (hbyt : ∀ x ∈ segs L0 ++ [gs], x.bytes.length ≤ 1073741824) (hu : used (pfs ps) ≤ 1073741824) (hroom : m = gs.bytes.length ∨ ((used (pfs ps) + m : Nat) : Int) ≤ cap)
    (hbad : limit < 16 ∨ 1048576 < limit → SL.Sep ro σ → Q none 40 σ)
    (hgo : ¬ (limit < 16 ∨ 1048576 < limit) → ∀ Lb s xs tag' σ', StepS OC ro tag σ tag' σ' → LogAt tag' σ' 11 T Lb limit (nextOf (xs.map (·.2))) s xs →
      ((m < (headOf gs.first).length ∧ xs.map (·.2) = segs L0) ∨ ((headOf gs.first).length ≤ m ∧ ∃ j, j ≤ gs.recs.length ∧ fl gs j ≤ m ∧ (j = gs.recs.length ∨ m < fl gs (j + 1)) ∧ xs.map (·.2) = segs L0 ++ [⟨gs.number, gs.first, gs.recs.take j⟩])) → Q (some ⟨Lb, 0, none⟩) 0 σ') :
    c_wal_Open B ro (some ⟨T, 0, none⟩) (S logN) limit σ Q := by
  have hl0 : (segs L0).length = L0.length := by unfold segs; rw [List.length_map]
  have hnum := hI.num
  have hidx := hI.idx
  have hpos := hI.pos
  rw [List.length_append, hl0] at hnum
  have hl1 : [gs].length = 1 := rfl
  obtain ⟨ch0, chl⟩ := chain_append.1 hI.chain
  obtain ⟨hgn, hgf, _⟩ := chl
  rw [hl0] at hgn
  have hr0 : recsOf (segs L0 ++ [gs]) = recsOf (segs L0) ++ gs.recs := recsOf_snoc _ _
  rw [hr0, List.length_append] at hidx
  have hcn := chain_numbers hI.chain
  have hkeys : (pfs ps).map (·.1) = (List.range' n (L0.length + 1)).map fname := by
    have e1 : List.range' n (L0.length + 1) = (segs L0).map (·.number) ++ [gs.number] := by
      rw [List.length_append, hl0, List.map_append] at hcn
      exact hcn.symm
    rw [hps, e1, List.map_append, List.map_append, List.map_map, logFs_names]; rfl
  have hmem : ∀ p ∈ ps, (p.1, p.2.2) ∈ pfs ps := fun p hp => List.mem_map.2 ⟨p, hp, rfl⟩
  have hbl : ∀ p ∈ ps, p.2.2.b.length ≤ 140737488355328 := fun p hp => by
    have := hmem p hp
    rw [hps] at this
    rcases List.mem_append.1 this with h | h
    · obtain ⟨x, hx, e⟩ := List.mem_map.1 h
      have := hbyt x.1 (List.mem_append_left _ (List.mem_map.2 ⟨x, hx, rfl⟩))
      have e2 := congrArg (fun z : Str × Fl => z.2.b.length) e
      simp only at e2
      omega
    · have e := List.mem_singleton.1 h
      have := hbyt gs (by simp)
      have e2 := congrArg (fun z : Str × Fl => z.2.b.length) e
      simp only [List.length_take] at e2
      omega
  refine openBegin_ok (ns := List.range' n (L0.length + 1)) hD hbl hkeys (fun k hk => by rw [List.mem_range'_1] at hk; omega) (List.pairwise_lt_range' ..) hbad fun hlim Lb Wb s tag1 σ1 st1 hA hD1 hW hN => ?_
  have hsl : s.len = L0.length + 1 := by rw [hN.len, List.length_map, List.length_range']
  have look0 : ∀ (i : Nat) (x : Seg × Nat), L0[i]? = some x → ∃ bk, ps.lookup (fname x.1.number) = some (bk, ⟨x.1.bytes.take x.1.bytes.length, x.2⟩) := fun i x hx => by
    have hm : (fname x.1.number, (⟨x.1.bytes, x.2⟩ : Fl)) ∈ pfs ps := by
      rw [hps]
      exact List.mem_append_left _ (List.mem_map.2 ⟨x, List.mem_of_getElem? hx, rfl⟩)
    have := lookup_mem (by rw [pfs_keys]; exact hD.keys) hm
    rw [pfs_lookup] at this
    obtain ⟨⟨bk, fl'⟩, e1, e2⟩ := Option.map_eq_some_iff.1 this
    simp only at e2
    rw [List.take_length]
    exact ⟨bk, by rw [e1, e2]⟩
  have lookL : ∃ bk, ps.lookup (fname gs.number) = some (bk, ⟨gs.bytes.take m, sf⟩) := by
    have hm : (fname gs.number, (⟨gs.bytes.take m, sf⟩ : Fl)) ∈ pfs ps := by rw [hps]; simp
    have := lookup_mem (by rw [pfs_keys]; exact hD.keys) hm
    rw [pfs_lookup] at this
    obtain ⟨⟨bk, fl'⟩, e1, e2⟩ := Option.map_eq_some_iff.1 this
    simp only at e2
    exact ⟨bk, by rw [e1, e2]⟩
  have hnd : ∀ i, i < L0.length → (hi : i < (segs L0).length) → (segs L0)[i].number = n + i := fun i h hi => (chain_get ch0 (List.getElem?_eq_getElem hi)).1
  -- the numbers in memory
  have nth : ∀ (tg : Nat → Nat) (τ : AH), Row tg τ 17 3 s ((List.range' n (L0.length + 1)).map fun (n : Nat) => Zt.vI (n : Int)) → SL.Sep ro τ → ∀ i, i < L0.length + 1 → ∃ p, s.a = some p ∧ acell ro τ (p.add (i * 1)) = some (Zt.vI ((n + i : Nat) : Int)) := fun tg τ r h i hi => by
    obtain ⟨p, hp, hg⟩ := r.ptr h (by rw [List.length_map, List.length_range']; omega)
    refine ⟨p, hp, hg i _ ?_⟩
    rw [List.getElem?_map, List.getElem?_range' hi, Nat.one_mul]; rfl
  -- behind the loop, all whole
  have wholeEnd : ∀ (s' : Sl) (xs : List (Nat × Seg)) (ps' : Ps) (tag2 : Nat → Nat) (σ2 : AH), StepS OC ro tag σ tag2 σ2 → LogAt tag2 σ2 11 T Lb limit 0 s' xs → Disk tag2 σ2 10 T M cap ps' → LogIn n f (xs.map (·.2)) →
      ((m < (headOf gs.first).length ∧ xs.map (·.2) = segs L0) ∨ ((headOf gs.first).length ≤ m ∧ ∃ j, j ≤ gs.recs.length ∧ fl gs j ≤ m ∧ (j = gs.recs.length ∨ m < fl gs (j + 1)) ∧ xs.map (·.2) = segs L0 ++ [⟨gs.number, gs.first, gs.recs.take j⟩])) → j6_wal_Open B ro (some ⟨T, 0, none⟩) Lb Q σ2 := by
    intro s' xs ps' tag2 σ2 st2 hA2 hD2 hI2 hres
    refine openEnd_ok g hA2 hD2 hI2 st2.sep fun tag3 σ3 st3 hA3 _ => ?_
    exact hgo hlim Lb s' xs tag3 σ3 (st2.trans (st3.s (fun x hx => by simp only [syncP] at hx; simp; omega))) hA3 hres
  have hI0 : LogIn n f (segs L0) := ⟨ch0, by omega, by omega, hpos⟩
  have hIj : ∀ j, j ≤ gs.recs.length → LogIn n f (segs L0 ++ [⟨gs.number, gs.first, gs.recs.take j⟩]) := fun j hj => by
    refine ⟨chain_append.2 ⟨ch0, by rw [hl0]; exact hgn, hgf, trivial⟩, by rw [List.length_append, hl0]; exact hnum, ?_, hpos⟩
    rw [recsOf_snoc, List.length_append, List.length_take]; omega
  suffices ∀ (k i : Nat) (s' : Sl) (xs : List (Nat × Seg)) (tag2 : Nat → Nat) (σ2 : AH), i + k = L0.length → StepS OC ro tag σ tag2 σ2 → LogAt tag2 σ2 11 T Lb limit 0 s' xs → Row tag2 σ2 75 136 s' (ptrs xs) → xs.map (·.2) = (segs L0).take i → Disk tag2 σ2 10 T M cap ps → Row tag2 σ2 16 4 ⟨some ⟨Wb, 0, none⟩, 1, 1⟩ [.bool true] → Row tag2 σ2 17 3 s ((List.range' n (L0.length + 1)).map fun (n : Nat) => Zt.vI (n : Int)) → lfpD (l24_wal_Open B ro (some ⟨T, 0, none⟩) Wb Lb s Q) (i : Int) σ2 from
    this _ 0 ⟨none, 0, 0⟩ [] tag1 σ1 (Nat.zero_add _) st1 hA (Row.nil _ _) rfl hD1 hW hN
  intro k
  induction k with
  | zero =>
    intro i s' xs tag2 σ2 hi st2 hA2 hrow2 hx2 hD2 hW2 hN2
    have hi0 : i = L0.length := by omega
    subst hi0
    rw [List.take_of_length_le (by omega)] at hx2
    have hs2 := st2.sep
    obtain ⟨p, hp, hcp⟩ := nth tag2 σ2 hN2 hs2 L0.length (by omega)
    obtain ⟨pw, hpw, hgw⟩ := hW2.ptr hs2 (by simp)
    cases hpw
    refine lfpD.intro ?_
    generalize hY : lfpD (l24_wal_Open B ro (some ⟨T, 0, none⟩) Wb Lb s Q) = Y
    have hfin : ∀ τ, j5_wal_Open B ro (some ⟨T, 0, none⟩) Wb Lb Q τ → Y ((L0.length + 1 : Nat) : Int) τ := fun τ h => by
      rw [← hY]
      refine lfpD.intro ?_
      unfold l24_wal_Open
      rw [if_neg (by omega)]
      exact h
    unfold l24_wal_Open
    rw [if_pos (by omega)]
    refine ⟨p, hp, by omega, by omega, _, by rw [Int.toNat_natCast]; exact hcp, true, by have := hgw 0 _ rfl; rwa [Nat.zero_mul, add_zero] at this, ?_⟩
    rw [if_neg (by simp), ← hgn]
    have hcons : xs = [] ∨ ∃ gl, (xs.map (·.2)).getLast? = some gl ∧ gs.number = gl.number + 1 ∧ gs.first = nextOf (xs.map (·.2)) := by
      rcases List.eq_nil_or_concat xs with h | ⟨xs0, x, h⟩
      · exact .inl h
      · right
        rw [List.concat_eq_append] at h
        have hne : segs L0 ≠ [] := by rw [← hx2, h]; simp
        have hlast : (xs.map (·.2)).getLast? = some x.2 := by rw [h]; simp
        refine ⟨x.2, hlast, ?_, ?_⟩
        · rw [hx2, List.getLast?_eq_getElem?, hl0] at hlast
          have := (chain_get ch0 hlast).1
          have : 0 < L0.length := by rw [← hl0]; exact List.length_pos_iff.2 hne
          omega
        · rw [hx2, chain_next ch0 hne]; exact hgf
    refine take_ok (tag := tag2) (gs := gs) (m := m) g hA2 hrow2 hD2 hbl hW2 (by rw [hx2]; exact hI0) (by omega) (by omega) (fun d hd => hrecs d (by rw [hr0]; exact List.mem_append_right _ hd)) (by omega) hm (hbyt gs (by simp)) hcons (by obtain ⟨bk, e⟩ := lookL; exact ⟨bk, sf, e⟩) (fun hlt tag3 σ3 st3 => ?_) (fun hge j b s3 tag3 σ3 hj1 hj2 hj3 st3 hA3 hrow3 hW3 => ?_)
    · -- the head is not whole: the file goes
      unfold j30_wal_Open
      rw [if_pos (by rfl)]
      have hA3 := hA2.keepS st3 (by decide) (by decide)
      have hD3 := Sn.DiskAt.keepS hD2 st3 (by decide)
      have hW3 := hW2.keepS st3 (by decide)
      have ew : (⟨Wb, 0, none⟩ : Addr) = (⟨Wb, 0, none⟩ : Addr).add (0 * 1) := rfl
      refine Row.stPre [.bool false] 0 _ _ hW3 st3.sep (by simp) (by simp [storable]) fun σ4 st4 hW4 => ?_
      have hW4 : Row tag3 σ4 16 4 ⟨some ⟨Wb, 0, none⟩, 1, 1⟩ [.bool false] := hW4
      have s04 : StepS OC ro tag σ tag3 σ4 := st2.trans ((st3.mono (by decide)).trans (st4.s (by decide)))
      have hA4 := hA3.keepS (st4.s (C := [16]) (by decide)) (by decide) (by decide)
      have hs4 := st4.sep
      refine ⟨some ⟨T, 0, none⟩, S logN, cellsAt_of 0 fun i v hv => ?_, ?_⟩
      · rw [Nat.zero_add]
        refine hA4.at hs4 i v ?_
        match i, hv with
        | 0, hv => exact hv
        | 1, hv => exact hv
      refine file_ok (tag := tag3) g (by omega) fun tag5 σ5 st5 => ?_
      refine nw_cells (tag := tag5) 3 (st5 []).sep fun V tag6 σ6 st6 r6 => ?_
      have hD6 := (hD3.keep st4 (by nia)).keep ((st5 []).trans (st6 [])) (by simp)
      refine remove_ok (tag := tag6) (q := 3) (n := fname gs.number) hD6 (by decide) (by decide) r6 (by decide) (dName_f (by omega)) fun e tag7 σ7 st7 hD7 => ?_
      unfold j26_wal_Open
      rw [Pa.inc L0.length (by omega)]
      refine hfin σ7 ?_
      have s47 : StepS [0, 10] ro tag3 σ4 tag7 σ7 := (((st5 []).trans (st6 [])).s (by simp)).trans st7
      have hA7 := hA4.keepS s47 (by decide) (by decide)
      have hW7 := hW4.keepS s47 (by decide)
      have hs7 := s47.sep
      obtain ⟨pw7, hpw7, hgw7⟩ := hW7.ptr hs7 (by simp)
      cases hpw7
      unfold j5_wal_Open
      refine ⟨false, by have := hgw7 0 _ rfl; rwa [Nat.zero_mul, add_zero] at this, ?_⟩
      rw [if_pos (by simp)]
      have hpd : pfs (adel ps (fname gs.number)) = logFs L0 := by
        rw [pfs_del, hps]
        refine adel_snoc ?_
        rw [logFs_names]
        exact notin_last hI.chain (by rw [hl0]; omega)
      have hu7 : used (pfs (adel ps (fname gs.number))) ≤ 1073741824 := by
        rw [hpd]
        rw [hps] at hu
        unfold used at hu ⊢
        rw [List.map_append, List.sum_append] at hu
        omega
      refine cut_ok g hA7 hD7 (fun p hp => ?_) hc0 hc1 hu7 (by rw [hx2]; exact hI0) (fun xs0 b gl hxe => ?_) (fun ps8 tag8 σ8 st8 hD8 => ?_)
      · have := (adel_sub ps (fname gs.number)).mem hp
        exact hbl p this
      · have hgl : (segs L0)[xs0.length]? = some gl := by rw [← hx2, hxe]; simp
        unfold segs at hgl
        rw [List.getElem?_map] at hgl
        obtain ⟨x, hx, rfl⟩ := Option.map_eq_some_iff.1 hgl
        have hm : (fname x.1.number, (⟨x.1.bytes, x.2⟩ : Fl)) ∈ pfs (adel ps (fname gs.number)) := by
          rw [hpd]
          exact List.mem_map.2 ⟨x, List.mem_of_getElem? hx, rfl⟩
        have := lookup_mem (by rw [pfs_keys]; exact hD7.keys) hm
        rw [pfs_lookup] at this
        obtain ⟨⟨bk, fl'⟩, e1, e2⟩ := Option.map_eq_some_iff.1 this
        simp only at e2
        exact ⟨bk, x.1.bytes, x.2, by rw [e1, e2], Nat.le_refl _, .inl rfl⟩
      · rw [if_neg (by decide)]
        exact wholeEnd s' xs ps8 tag8 σ8 (s04.trans ((s47.mono (by decide)).trans (st8.mono (by decide)))) (hA7.keepS st8 (by decide) (by decide)) hD8 (by rw [hx2]; exact hI0) (.inl ⟨hlt, hx2⟩)
    · unfold j30_wal_Open
      rw [if_neg (by simp)]
      unfold j26_wal_Open
      rw [Pa.inc L0.length (by omega)]
      refine hfin σ3 ?_
      have s03 : StepS OC ro tag σ tag3 σ3 := st2.trans (st3.mono (by decide))
      have hD3 := Sn.DiskAt.keepS hD2 st3 (by decide)
      have hs3 := st3.sep
      have hx3 : (xs ++ [(b, (⟨gs.number, gs.first, gs.recs.take j⟩ : Seg))]).map (·.2) = segs L0 ++ [⟨gs.number, gs.first, gs.recs.take j⟩] := by rw [List.map_append, hx2]; rfl
      have hres : ((m < (headOf gs.first).length ∧ (xs ++ [(b, (⟨gs.number, gs.first, gs.recs.take j⟩ : Seg))]).map (·.2) = segs L0) ∨ ((headOf gs.first).length ≤ m ∧ ∃ j', j' ≤ gs.recs.length ∧ fl gs j' ≤ m ∧ (j' = gs.recs.length ∨ m < fl gs (j' + 1)) ∧ (xs ++ [(b, (⟨gs.number, gs.first, gs.recs.take j⟩ : Seg))]).map (·.2) = segs L0 ++ [⟨gs.number, gs.first, gs.recs.take j'⟩])) := .inr ⟨hge, j, hj1, hj2, hj3, hx3⟩
      obtain ⟨pw3, hpw3, hgw3⟩ := hW3.ptr hs3 (by simp)
      cases hpw3
      unfold j5_wal_Open
      refine ⟨decide (fl gs j = m), by have := hgw3 0 _ rfl; rwa [Nat.zero_mul, add_zero] at this, ?_⟩
      by_cases c : fl gs j = m
      · rw [if_neg (by simpa using c)]
        exact wholeEnd s3 _ ps tag3 σ3 s03 hA3 hD3 (by rw [hx3]; exact hIj j hj1) hres
      · rw [if_pos (by simpa using c)]
        have hgb : (⟨gs.number, gs.first, gs.recs.take j⟩ : Seg).bytes.length = fl gs j := by unfold Seg.bytes fl; rw [List.length_append]
        refine cut_ok g hA3 hD3 hbl hc0 hc1 hu (by rw [hx3]; exact hIj j hj1) (fun xs0 b0 gl hxe => ?_) (fun ps8 tag8 σ8 st8 hD8 => ?_)
        · obtain ⟨_, e⟩ := snoc_inj hxe
          cases e
          obtain ⟨bk, e⟩ := lookL
          refine ⟨bk, gs.bytes.take m, sf, e, by rw [hgb, List.length_take]; omega, ?_⟩
          rw [hgb, List.length_take]
          rcases hroom with h | h
          · exfalso
            rcases hj3 with h2 | h2
            · rw [h2, fl_all] at c; omega
            · have := fl_mono (g := gs) (i := j + 1) (j := gs.recs.length)
              by_cases h5 : j + 1 ≤ gs.recs.length
              · have := this h5; rw [fl_all] at this; omega
              · have h6 : j = gs.recs.length := by omega
                rw [h6, fl_all] at c; omega
          · exact .inr (by omega)
        · rw [if_neg (by decide)]
          exact wholeEnd s3 _ ps8 tag8 σ8 (s03.trans (st8.mono (by decide))) (hA3.keepS st8 (by decide) (by decide)) hD8 (by rw [hx3]; exact hIj j hj1) hres
  | succ k ih =>
    intro i s' xs tag2 σ2 hi st2 hA2 hrow2 hx2 hD2 hW2 hN2
    have hil : i < L0.length := by omega
    have hs2 := st2.sep
    obtain ⟨p, hp, hcp⟩ := nth tag2 σ2 hN2 hs2 i (by omega)
    obtain ⟨pw, hpw, hgw⟩ := hW2.ptr hs2 (by simp)
    cases hpw
    have hLi := List.getElem?_eq_getElem hil
    generalize L0[i] = x at hLi
    have hgi : (segs L0)[i]? = some x.1 := by unfold segs; rw [List.getElem?_map, hLi]; rfl
    obtain ⟨cg1, cg2, cg3, _⟩ := chain_get ch0 hgi
    have htk : (segs L0).take (i + 1) = (segs L0).take i ++ [x.1] := by rw [List.take_add_one, hgi]; rfl
    have hchi : Chain n f ((segs L0).take i ++ [x.1]) := by
      have := ch0
      rw [← List.take_append_drop (i + 1) (segs L0)] at this
      rw [← htk]; exact (chain_append.1 this).1
    have hreci : (recsOf ((segs L0).take i)).length ≤ (recsOf (segs L0)).length := by
      have e : recsOf (segs L0) = recsOf ((segs L0).take i) ++ recsOf ((segs L0).drop i) := by
        unfold recsOf
        rw [← List.flatMap_append, List.take_append_drop]
      rw [e, List.length_append]; omega
    have hIi : LogIn n f ((segs L0).take i) := ⟨(chain_append.1 hchi).1, by rw [List.length_take]; omega, by omega, hpos⟩
    refine lfpD.intro ?_
    generalize hY : lfpD (l24_wal_Open B ro (some ⟨T, 0, none⟩) Wb Lb s Q) = Y
    unfold l24_wal_Open
    rw [if_pos (by omega)]
    refine ⟨p, hp, by omega, by omega, _, by rw [Int.toNat_natCast]; exact hcp, true, by have := hgw 0 _ rfl; rwa [Nat.zero_mul, add_zero] at this, ?_⟩
    rw [if_neg (by simp), ← cg1]
    have hcons : xs = [] ∨ ∃ gl, (xs.map (·.2)).getLast? = some gl ∧ x.1.number = gl.number + 1 ∧ x.1.first = nextOf (xs.map (·.2)) := by
      rcases List.eq_nil_or_concat xs with h | ⟨xs0, y, h⟩
      · exact .inl h
      · right
        rw [List.concat_eq_append] at h
        have hne : (segs L0).take i ≠ [] := by rw [← hx2, h]; simp
        have hlast : (xs.map (·.2)).getLast? = some y.2 := by rw [h]; simp
        have hti : ((segs L0).take i).length = i := by rw [List.length_take]; omega
        have hi1 : 0 < i := by rw [← hti]; exact List.length_pos_iff.2 hne
        refine ⟨y.2, hlast, ?_, ?_⟩
        · rw [hx2, List.getLast?_eq_getElem?, hti] at hlast
          have := (chain_get hIi.chain hlast).1
          omega
        · rw [hx2, chain_next hIi.chain hne]
          exact (chain_append.1 hchi).2.2.1
    refine take_ok (tag := tag2) (gs := x.1) (m := x.1.bytes.length) g hA2 hrow2 hD2 hbl hW2 (by rw [hx2]; exact hIi) (by omega) (by omega) (fun d hd => hrecs d (by rw [hr0]; exact List.mem_append_left _ (List.mem_flatMap.2 ⟨x.1, List.mem_of_getElem? hgi, hd⟩))) (by omega) (Nat.le_refl _) (hbyt x.1 (List.mem_append_left _ (List.mem_of_getElem? hgi))) hcons (by obtain ⟨bk, e⟩ := look0 i x hLi; exact ⟨bk, x.2, e⟩) (fun hlt => ?_) (fun hge j b s3 tag3 σ3 hj1 hj2 hj3 st3 hA3 hrow3 hW3 => ?_)
    · exfalso
      unfold Seg.bytes at hlt
      rw [List.length_append] at hlt; omega
    · have hj : j = x.1.recs.length := by
        rcases hj3 with h | h
        · exact h
        · by_cases h5 : j + 1 ≤ x.1.recs.length
          · have := fl_mono (g := x.1) h5
            rw [fl_all] at this; omega
          · omega
      subst hj
      rw [List.take_length] at hA3 hrow3
      rw [fl_all, decide_eq_true rfl] at hW3
      unfold j30_wal_Open
      rw [if_neg (by simp)]
      unfold j26_wal_Open
      rw [Pa.inc i (by omega), ← hY]
      exact ih (i + 1) s3 (xs ++ [(b, x.1)]) tag3 σ3 (by omega) (st2.trans (st3.mono (by decide))) hA3 hrow3 (by rw [List.map_append, hx2, htk]; rfl) (Sn.DiskAt.keepS hD2 st3 (by decide)) hW3 (hN2.keepS st3 (by decide))
end Go.Proofs.YtfobjidchipdaaaGreatDoor.Wl

/- Logs: behind a crash; awake; WalRoom, the walk. -/
namespace Go.Proofs.YtfobjidchipdaaaGreatDoor.Wl
open Go Go.Proofs.YtfobjidchipdaaaGreatDoor.SL Go.Proofs.YtfobjidchipdaaaGreatDoor.G Go.Proofs.YtfobjidchipdaaaGreatDoor.Pa Go.Proofs.YtfobjidchipdaaaGreatDoor.Wi Go.Proofs.YtfobjidchipdaaaGreatDoor.Dk
set_option linter.unusedSimpArgs false
set_option linter.unusedVariables false
set_option maxRecDepth 100000
variable {B : World} {ro σ σ' : AH} {tag tag' : Nat → Nat}
theorem assoc_ext {β : Type} : ∀ {l l' : List (Str × β)}, l'.map (·.1) = l.map (·.1) → (l.map (·.1)).Nodup → (∀ k, l.lookup k = l'.lookup k) → l' = l := by
  intro l
  induction l with
  | nil => intro l' h _ _; exact List.map_eq_nil_iff.1 h
  | cons p r ih =>
    intro l' hk hn hl
    cases l' with
    | nil => cases hk
    | cons p' r' =>
      rw [List.map_cons, List.map_cons] at hk
      obtain ⟨hk1, hk2⟩ := List.cons.inj hk
      rw [List.map_cons, List.nodup_cons] at hn
      have h0 := hl p.1
      rw [List.lookup_cons, List.lookup_cons, hk1] at h0
      simp at h0
      have hp : p' = p := Prod.ext hk1 h0.symm
      refine List.cons_eq_cons.2 ⟨hp, ih hk2 hn.2 fun k => ?_⟩
      by_cases c : k = p.1
      · subst c
        rw [lookup_key.2 hn.1, lookup_key.2 (by rw [hk2]; exact hn.1)]
      · have := hl k
        rw [List.lookup_cons, List.lookup_cons, hp, show (k == p.1) = false by simpa using c] at this
        exact this
theorem crash_full {fs fs' : Fs} (hn : (fs.map (·.1)).Nodup) (hf : ∀ p ∈ fs, p.2.safe = p.2.b.length) (h : CrashR fs fs') : fs' = fs := by
  refine assoc_ext h.keys hn fun k => ?_
  cases e : fs.lookup k with
  | none =>
    rw [lookup_key] at e
    exact (lookup_key.2 (by rw [h.keys]; exact e)).symm
  | some x =>
    obtain ⟨m, h1, h2, h3⟩ := h.file k x e
    have hx := hf _ (mem_lookup e)
    simp only at hx
    have : m = x.b.length := by omega
    subst this
    rw [h3, List.take_length, ← hx]
theorem used_mem {L : List (Seg × Nat)} {x : Seg × Nat} (h : x ∈ L) : x.1.bytes.length ≤ used (logFs L) := by
  unfold used logFs
  rw [List.map_map]
  induction L with
  | nil => cases h
  | cons y r ih =>
    rw [List.map_cons, List.sum_cons]
    rcases List.mem_cons.1 h with rfl | h
    · simp
    · have := ih h; simp at this ⊢; omega
theorem crash_pre {ps : Ps} {L : List (Seg × Nat)} {n f : Nat} {cap : Int} (hI : LogIn n f (segs L)) (hf : pfs ps = logFs L) (hle : ∀ x ∈ L, x.2 ≤ x.1.bytes.length) (hu : (used (logFs L) : Int) ≤ cap) (hc1 : cap ≤ 1073741824) : (∀ p ∈ ps, p.1.length ≤ 128) ∧ ps.length ≤ 4398046511104 ∧ ∀ p ∈ ps, p.2.2.safe ≤ p.2.2.b.length ∧ p.2.2.b.length < 4611686018427387904 := by
  have hm : ∀ p ∈ ps, ∃ x ∈ L, p.1 = fname x.1.number ∧ p.2.2 = ⟨x.1.bytes, x.2⟩ := fun p hp => by
    have h1 : (p.1, p.2.2) ∈ pfs ps := List.mem_map.2 ⟨p, hp, rfl⟩
    rw [hf] at h1
    obtain ⟨x, hx, e⟩ := List.mem_map.1 h1
    have := Prod.mk.inj e
    exact ⟨x, hx, this.1.symm, this.2.symm⟩
  refine ⟨fun p hp => ?_, ?_, fun p hp => ?_⟩
  · obtain ⟨x, _, e, _⟩ := hm p hp
    rw [e, fname_len]; decide
  · have h1 := congrArg List.length hf
    unfold pfs logFs at h1
    rw [List.length_map, List.length_map] at h1
    have h2 : (segs L).length = L.length := by unfold segs; rw [List.length_map]
    have := hI.num
    omega
  · obtain ⟨x, hx, _, e⟩ := hm p hp
    rw [e]
    have := hle x hx
    have := used_mem hx
    exact ⟨by simpa using hle x hx, by simp only; omega⟩
theorem reopen_ok {T M n f : Nat} {limit cap : Int} {ps : Ps} {L : List (Seg × Nat)} {Q : Option Addr → Int → AH → Prop} (g : Glob ro) (hD : Disk tag σ 10 T M cap ps) (hc0 : 0 ≤ cap) (hc1 : cap ≤ 1073741824) (hI : LogIn n f (segs L)) (hrecs : ∀ d ∈ recsOf (segs L), d.length ≤ 65536) (hf : pfs ps = logFs L) (hfull : ∀ x ∈ L, x.2 = x.1.bytes.length) (hu : (used (logFs L) : Int) ≤ cap) (hlim : ¬ (limit < 16 ∨ 1048576 < limit))
    (hQ : ∀ Lb s xs tag' σ', StepS OC ro tag σ tag' σ' → LogAt tag' σ' 11 T Lb limit (nextOf (segs L)) s xs → xs.map (·.2) = segs L → Q (some ⟨Lb, 0, none⟩) 0 σ') :
    c_disk_Disk_Crash B ro (some ⟨T, 0, none⟩) ⟨none, 0, 0⟩ σ fun σ => c_wal_Open B ro (some ⟨T, 0, none⟩) (S logN) limit σ Q := by
  obtain ⟨p1, p2, p3⟩ := crash_pre hI hf (fun x hx => by rw [hfull x hx]; exact Nat.le_refl _) hu hc1
  refine crash_ok (q := 0) (cs := []) hD (by decide) (by decide) (by decide) (Nat.le_refl _) (fun tag' σ' st => ⟨rfl, fun _ => rfl, fun p h => by cases h⟩) p1 p2 p3 fun ps' tag1 σ1 st1 hD1 hcr => ?_
  have hsame : pfs ps' = logFs L := by
    rw [← hf]
    refine crash_full (by rw [pfs_keys]; exact hD.keys) (fun p hp => ?_) hcr
    rw [hf] at hp
    obtain ⟨x, hx, rfl⟩ := List.mem_map.1 hp
    exact hfull x hx
  rcases List.eq_nil_or_concat L with rfl | ⟨L0, ⟨gl, m⟩, rfl⟩
  · have hps : ps' = [] := List.map_eq_nil_iff.1 hsame
    subst hps
    refine openEmpty_ok g hD1 hc0 (fun h => absurd h hlim) fun _ Lb tag2 σ2 st2 hL => ?_
    obtain ⟨⟨s, xs, ps2, hA, _, _, hx, _⟩, _, _⟩ := hL
    exact hQ Lb s xs tag2 σ2 ((st1.mono (by decide)).trans st2) hA hx
  · rw [List.concat_eq_append] at *
    have hm : m = gl.bytes.length := hfull (gl, m) (by simp)
    have hseg := segs_snoc L0 gl m
    refine openFull_ok (n := n) (f := f) (m := gl.bytes.length) (sf := m) (L0 := L0) (gs := gl) g hD1 hc0 hc1 (by rw [← hseg]; exact hI) (by rw [← hseg]; exact hrecs) (by rw [hsame, logFs_snoc, List.take_length]) (Nat.le_refl _) (fun x hx => ?_) (by rw [hsame]; omega) (.inl rfl) (fun h => absurd h hlim) fun _ Lb s xs tag2 σ2 st2 hA hres => ?_
    · rw [← hseg] at hx
      obtain ⟨y, hy, rfl⟩ := List.mem_map.1 hx
      have := used_mem hy
      omega
    · have hx : xs.map (·.2) = segs (L0 ++ [(gl, m)]) := by
        rw [hseg]
        rcases hres with ⟨h1, _⟩ | ⟨_, j, j1, j2, j3, e⟩
        · unfold Seg.bytes at h1; rw [List.length_append] at h1; omega
        · have hj : j = gl.recs.length := by
            rcases j3 with h | h
            · exact h
            · by_cases h5 : j + 1 ≤ gl.recs.length
              · have := fl_mono (g := gl) h5
                rw [fl_all] at this; omega
              · omega
          rw [e, hj, List.take_length]
      rw [hx] at hA
      exact hQ Lb s xs tag2 σ2 ((st1.mono (by decide)).trans st2) hA hx
theorem awake_ok (g : Glob ro) : c_law04_awake B ro σ fun r _ => r = true := by
  refine law04_awake_ok fun hs => ?_
  unfold f_law04_awake
  refine new_ok (tag := fun _ => 0) (r := 10) (fun h => absurd h (by decide)) fun hc0 hc1 T M tag1 σ1 st1 hD1 => ?_
  refine openEmpty_ok g hD1 hc0 (fun h => absurd h (by decide)) fun _ Lb tag2 σ2 st2 hL2 => ?_
  rw [if_neg (by simp)]
  have hs2 := st2.sep
  refine Zt.nw_lit (tag := tag2) (cs := #[.int .u8 97]) hs2 fun sa tag3 σ3 st3 ha => ?_
  refine ⟨sa, rfl, ?_⟩
  refine Zt.nw_lit (tag := tag3) (cs := #[.int .u8 98]) (st3 []).sep fun sb tag4 σ4 st4 hb => ?_
  refine ⟨sb, rfl, ?_⟩
  refine nw_cells (tag := tag4) 20 (st4 []).sep fun V tag5 σ5 st5 r5 => ?_
  have s25 : StepS [] ro tag2 σ2 tag5 σ5 := ((st3 []).trans ((st4 []).trans (st5 []))).s (by simp)
  have hL5 : LSt tag5 σ5 T M Lb 100 999 0 [] := by
    obtain ⟨⟨s, xs, ps, a, b, c, d, e⟩, w, u⟩ := hL2
    exact ⟨⟨s, xs, ps, a.keepS s25 (by simp) (by simp), b.keepS s25 (by simp), Sn.DiskAt.keepS c s25 (by simp), d, e⟩, w, u⟩
  refine append_ok (tag := tag5) (q := 20) (ss := [sa, sb]) (ds := [[97], [98]]) g hL5 (by decide) (by decide) r5 (by decide) ⟨rfl, fun i x d hx hd => ?_⟩ (by decide) (fun ⟨d, hd, h⟩ => ?_) (fun _ k _ _ _ _ _ hlt => ?_) (fun _ safe' L' tag6 σ6 st6 hL6 hrec hsf hsx _ => ?_)
  · match i, hx, hd with
    | 0, hx, hd => cases hx; cases hd; exact .inr (ha.keep ((st4 []).trans (st5 [])) (by simp))
    | 1, hx, hd => cases hx; cases hd; exact .inr (hb.keep (st5 []) (by simp))
    | i + 2, hx, _ => cases hx
  · rcases List.mem_cons.1 hd with rfl | hd
    · exact absurd h (by decide)
    · rw [List.mem_singleton.1 hd] at h; exact absurd h (by decide)
  · exact absurd hlt (by decide)
  have h0 : safe' = 0 := by rcases hsx with h | h; exact h; exact absurd h (by decide)
  subst h0
  obtain ⟨⟨s, xs, ps, hA, hrow, hD, hx, hf⟩, hW, hU⟩ := hL6
  have hrec : recsOf (segs L') = [[97], [98]] := hrec
  unfold j5_law04_awake
  rw [if_neg (by simp)]
  refine logNext_ok hA (by rw [hx]; exact hW.inn) ?_
  rw [hx, hW.next, hrec]
  unfold j7_law04_awake
  rw [if_neg (by simp)]
  refine get_ok (i := 1) hA (by rw [hx]; exact hW.inn) (by rw [hx]; exact hW.recs) (fun h => ?_) (fun j d hj hd s7 tag7 σ7 st7 r7 => ?_)
  · rw [hx, hrec] at h
    rcases h with h | h <;> exact absurd h (by decide)
  · rw [hx, hrec] at hd
    have : j = 1 := by omega
    subst this
    cases hd
    rw [if_pos rfl]
    refine Zt.awp_b2s (r7.read (st7 []).sep) ⟨_, rfl, ?_⟩
    unfold j11_law04_awake
    rw [if_pos (show decide (S [98] = (⟨#[98]⟩ : ByteArray)) = true from decide_eq_true rfl)]
    refine logSafe_ok (hA.keep0 (st7 [])) ?_
    unfold j13_law04_awake
    exact decide_eq_true rfl
end Go.Proofs.YtfobjidchipdaaaGreatDoor.Wl

/- Logs, the walk: Truncate; WalCuts. -/
namespace Go.Proofs.YtfobjidchipdaaaGreatDoor.SL
open Go
variable {ro σ σ' : AH} {tag tag' : Nat → Nat}
theorem Held.tail {q : Nat} {s : Sl} {v : Value} {l : List Value} (h : Held tag σ q s (v :: l)) (hc : s.len ≤ s.cap) : Held tag σ q ⟨cutA s.a 1 s.cap 1, s.len - 1, s.cap - 1⟩ l := by
  obtain ⟨h1, h2 | ⟨p, o, h2, h3, h4, h5⟩⟩ := h
  · cases h2.2
  · have hl : s.len = l.length + 1 := h1
    refine ⟨by simp only; omega, ?_⟩
    unfold cutA
    by_cases c : s.cap = 1
    · have hl0 : l = [] := List.eq_nil_of_length_eq_zero (by omega)
      subst hl0
      rw [if_pos c, h2]
      exact .inr ⟨p, o, rfl, h3, h4, fun i w hw => by cases hw⟩
    · rw [if_neg c, h2]
      refine .inr ⟨p.add (1 * 1), o, rfl, by rw [add_block]; exact h3, by rw [add_block]; exact h4, fun i w hw => ?_⟩
      have := h5 (i + 1) w (by simpa using hw)
      have e : (p.add (1 * 1)).add i = p.add (i + 1) := by
        obtain ⟨b, o, sp⟩ := p
        rw [show (⟨b, o, sp⟩ : Addr).add (1 * 1) = ⟨b, o + 1, none⟩ from rfl, add_add, show (⟨b, o, sp⟩ : Addr).add (i + 1) = ⟨b, o + (i + 1), none⟩ from rfl, Nat.add_assoc, Nat.add_comm 1 i]
      rw [e]; exact this
/-- roles of the class 11 moved to the class 12 -/
def mv (x : Nat) : Nat := if x % 64 = 11 then x + 1 else x
def tagM (tag : Nat → Nat) : Nat → Nat := fun c => mv (tag c)
theorem Row.mv {r : Nat} {e : TypeId} {s : Sl} {l : List Value} (h : Row tag σ r e s l) : Row (tagM tag) σ (mv r) e s l := by
  rcases h with h | ⟨b, cs, h1, h2, h3⟩
  · exact .inl h
  · exact .inr ⟨b, cs, h1, by unfold tagM; rw [h2], h3⟩
theorem Held.mv {r : Nat} {s : Sl} {l : List Value} (h : Held tag σ r s l) : Held (tagM tag) σ (mv r) s l := by
  obtain ⟨h1, h2 | ⟨p, o, h2, h3, h4⟩⟩ := h
  · exact ⟨h1, .inl h2⟩
  · exact ⟨h1, .inr ⟨p, o, h2, by unfold tagM; rw [h3], h4⟩⟩
theorem MapIs.mv {r b : Nat} {m : KV} (h : MapIs tag σ r b m) : MapIs (tagM tag) σ (mv r) b m := ⟨by unfold tagM; rw [h.tg], h.obj⟩
end Go.Proofs.YtfobjidchipdaaaGreatDoor.SL
namespace Go.Proofs.YtfobjidchipdaaaGreatDoor.Wl
open Go Go.Proofs.YtfobjidchipdaaaGreatDoor.SL Go.Proofs.YtfobjidchipdaaaGreatDoor.G Go.Proofs.YtfobjidchipdaaaGreatDoor.Pa Go.Proofs.YtfobjidchipdaaaGreatDoor.Wi Go.Proofs.YtfobjidchipdaaaGreatDoor.Dk
set_option linter.unusedSimpArgs false
set_option linter.unusedVariables false
set_option maxRecDepth 100000
variable {B : World} {ro σ σ' : AH} {tag tag' : Nat → Nat}
theorem mv10 {x : Nat} (h : x % 64 = 10) : mv x = x := by unfold mv; rw [if_neg (by omega)]
theorem mv11 {x : Nat} (h : x % 64 = 11) : mv x = x + 1 := by unfold mv; rw [if_pos h]
theorem DiskAt.mv {td tf : TypeId} {T M : Nat} {cap : Int} {ps : Ps} (h : DiskAt td tf tag σ 10 T M cap ps) : DiskAt td tf (tagM tag) σ 10 T M cap ps := by
  refine ⟨h.keys, h.nd, ?_, ?_, fun p hp => ?_⟩
  · have := h.cell.mv; rwa [mv10 (by decide)] at this
  · have := h.map.mv; rwa [mv10 (by decide)] at this
  · obtain ⟨s, a, c, x, y⟩ := h.nodes p hp
    refine ⟨s, ?_, c, ?_, y⟩
    · have := a.mv; rwa [mv10 (by omega)] at this
    · have := x.mv; rwa [mv10 (by omega)] at this
theorem LogAt.mv {T Lb safe : Nat} {limit : Int} {s : Sl} {xs : List (Nat × Seg)} (h : LogAt tag σ 11 T Lb limit safe s xs) : LogAt (tagM tag) σ 12 T Lb limit safe s xs := by
  refine ⟨?_, ?_, fun x hx => ?_, h.nd⟩
  · have := h.cell.mv; rwa [mv11 (by decide)] at this
  · have := h.segs.mv; rwa [mv11 (by decide)] at this
  · obtain ⟨s, ss, a, c, e, d⟩ := h.node x hx
    refine ⟨s, ss, ?_, ?_, e, fun i y z hy hz => ?_⟩
    · have := a.mv
      rw [mv11 (by omega)] at this
      rw [show 12 + 64 * (2 * x.1 + 2) = 11 + 64 * (2 * x.1 + 2) + 1 by omega]; exact this
    · have := c.mv
      rw [mv11 (by omega)] at this
      rw [show 12 + 64 * (2 * x.1 + 3) = 11 + 64 * (2 * x.1 + 3) + 1 by omega]; exact this
    · have := (d i y z hy hz).mv
      rwa [show SL.mv 6 = 6 from rfl] at this
theorem adel_head {β : Type} {k : Str} {v : β} {l : List (Str × β)} : adel ((k, v) :: l) k = l := by unfold adel; rw [if_pos rfl]
theorem chain_drop {gs : List Seg} {g : Seg} {n f : Nat} (h : Chain n f (g :: gs)) : Chain (n + 1) (f + g.recs.length) gs := by
  obtain ⟨_, h2, h3⟩ := h
  unfold Seg.next at h3
  rw [h2] at h3; exact h3
theorem truncLoop_ok {T M Lb safe : Nat} {limit cap i : Int} {Q : Int → AH → Prop} (g : Glob ro) :
    ∀ (k n f : Nat) (s : Sl) (xs : List (Nat × Seg)) (L : List (Seg × Nat)) (ps : Ps) (tag1 : Nat → Nat) (σ1 : AH), L.length ≤ k → SL.Sep ro σ1 → LogAt tag1 σ1 11 T Lb limit safe s xs → s.len ≤ s.cap → Disk tag1 σ1 10 T M cap ps → xs.map (·.2) = segs L → LogIn n f (segs L) → pfs ps = logFs L → (f : Int) ≤ i →
      (∀ n' f' s' xs' L' ps' tag' σ', SL.Sep ro σ' → LogAt tag' σ' 11 T Lb limit safe s' xs' → Disk tag' σ' 10 T M cap ps' → xs'.map (·.2) = segs L' → LogIn n' f' (segs L') → pfs ps' = logFs L' → (f' : Int) ≤ i → (∃ D, L = D ++ L' ∧ f' = f + (recsOf (segs D)).length ∧ (L ≠ [] → L' ≠ [])) → Q 0 σ') →
      lfpD (l4_wal_Log_Truncate B ro (some ⟨Lb, 0, none⟩) i Q) () σ1 := by
  intro k
  induction k with
  | zero =>
    intro n f s xs L ps tag1 σ1 hk hs hA hcap hD hx hI hf hfi hQ
    have hL : L = [] := List.eq_nil_of_length_eq_zero (by omega)
    subst hL
    have hxn : xs = [] := List.map_eq_nil_iff.1 hx
    have hl := hA.len
    refine lfpD.intro ?_
    unfold l4_wal_Log_Truncate
    refine ⟨_, rfl, s, hA.at hs 3 _ rfl, ?_⟩
    rw [if_neg (by rw [hl, hxn]; simp)]
    unfold j7_wal_Log_Truncate
    rw [if_neg (by simp)]
    unfold j3_wal_Log_Truncate
    exact hQ n f s xs [] ps tag1 σ1 hs hA hD hx hI hf hfi ⟨[], rfl, rfl, fun h => absurd rfl h⟩
  | succ k ih =>
    intro n f s xs L ps tag1 σ1 hk hs hA hcap hD hx hI hf hfi hQ
    have hl := hA.len
    have hxl : xs.length = L.length := by have := congrArg List.length hx; unfold segs at this; simpa using this
    have stop : ∀ x, x = false → j7_wal_Log_Truncate B ro (some ⟨Lb, 0, none⟩) i Q (lfpD (l4_wal_Log_Truncate B ro (some ⟨Lb, 0, none⟩) i Q)) x σ1 := fun x hxf => by
      unfold j7_wal_Log_Truncate
      rw [if_neg (by rw [hxf]; simp)]
      unfold j3_wal_Log_Truncate
      exact hQ n f s xs L ps tag1 σ1 hs hA hD hx hI hf hfi ⟨[], rfl, rfl, fun h => h⟩
    refine lfpD.intro ?_
    generalize hY : lfpD (l4_wal_Log_Truncate B ro (some ⟨Lb, 0, none⟩) i Q) = Y
    rw [hY] at stop
    unfold l4_wal_Log_Truncate
    refine ⟨_, rfl, s, hA.at hs 3 _ rfl, ?_⟩
    match xs, L, hx, hxl with
    | [], [], _, _ =>
      rw [if_neg (by rw [hl]; simp)]
      exact stop false rfl
    | [x], [y], _, _ =>
      rw [if_neg (by rw [hl]; simp)]
      exact stop false rfl
    | x :: x2 :: xs', y :: y2 :: L', hx, hxl =>
      rw [if_pos (by rw [hl]; simp only [List.length_cons]; omega)]
      have hx1 : x.2 = y.1 := by unfold segs at hx; exact (List.cons.inj hx).1
      have hx2 : (x2 :: xs').map (·.2) = segs (y2 :: L') := by unfold segs at hx ⊢; exact (List.cons.inj hx).2
      obtain ⟨p, hp, hcp⟩ := hA.seg hs (i := 0) (x := x) rfl
      have hnode := hA.node x (by simp)
      obtain ⟨s2, _, hc2, _⟩ := hnode.at hs
      have hg0 : (segs (y :: y2 :: L'))[0]? = some y.1 := rfl
      obtain ⟨cn, cf, cl, _⟩ := chain_get hI.chain hg0
      have hnum := hI.num
      have hidx := hI.idx
      have hsl2 : (segs (y :: y2 :: L')).length = L'.length + 2 := by simp [segs]
      have hnx := hI.next hg0
      have hch := chain_drop hI.chain
      have hy1 : y.1.first = f := hI.chain.2.1
      refine ⟨_, rfl, s, hA.at hs 3 _ rfl, p, hp, by decide, by rw [hl]; simp only [List.length_cons]; omega, _, hcp, ?_⟩
      refine segNext_ok hnode (by rw [hx1]; omega) ?_
      rw [hx1]
      by_cases c : ((y.1.next : Nat) : Int) ≤ i
      rotate_left
      · exact stop _ (decide_eq_false c)
      rw [decide_eq_true c]
      unfold j7_wal_Log_Truncate
      rw [if_pos rfl]
      refine lent_roles tag1 [11] ?_
      have cL : ∀ τ i v, [ptr T, vS logN, vI limit, Sl.v s, vI (safe : Nat)][i]? = some v → acell (join ro (inR tag1 [11] σ1)) τ ((⟨Lb, 0, none⟩ : Addr).add i) = some v := fun τ i v hv => hA.cell.lendR hs (by simp) rfl hv
      refine ⟨_, rfl, _, by have := cL (fun _ => none) 0 _ rfl; rwa [add_zero] at this, _, rfl, _, rfl, some ⟨T, 0, none⟩, S logN, cellsAt_of 0 fun i v hv => ?_, s, cL _ 3 _ rfl, p, hp, by decide, by rw [hl]; simp only [List.length_cons]; omega, _, by rw [acell_lentR hs]; exact hcp, _, rfl, (x.2.number : Int), by rw [acell_lentR hs]; have := hc2 0 _ rfl; rwa [add_zero] at this, ?_⟩
      · rw [Nat.zero_add]
        refine cL _ i v ?_
        match i, hv with
        | 0, hv => exact hv
        | 1, hv => exact hv
      rw [hx1]
      refine file_ok (tag := tag1) (glob_more g) (by omega) fun tag2 σ2 st2 => ?_
      refine nw_cells (tag := tag2) 3 (st2 []).sep fun V tag3 σ3 st3 r3 => ?_
      have hD3 := DiskAt.keep (DiskAt.outR (L := [11]) hD (by simp)) ((st2 []).trans (st3 [])) (by simp)
      refine remove_ok (tag := tag3) (q := 3) (n := fname y.1.number) hD3 (by decide) (by decide) r3 (by decide) (dName_f (by omega)) fun e tag4 σ4 st4 hD4 => ?_
      intro hdis
      have stB := (((st2 []).trans (st3 [])).s (C := [0, 10]) (by simp)).trans st4 |>.backR hs hdis
      have hD5 := DiskAt.backR hD4 hdis
      have hA5 := hA.keepS stB (by decide) (by decide)
      have hs5 := stB.sep
      generalize join (inR tag1 [11] σ1) σ4 = σ5 at *
      generalize tagB tag1 tag4 [11] σ1 = tag5 at *
      refine ⟨_, rfl, s, hA5.at hs5 3 _ rfl, ⟨trivial, by omega, by simp only [cutHi]; rw [hl]; simp only [List.length_cons]; omega⟩, _, rfl, ?_⟩
      have e3 : (⟨Lb, 0, none⟩ : Addr).add 3 = (⟨Lb, 0, none⟩ : Addr).add (3 * 1) := rfl
      rw [e3]
      refine hA5.cell.st (i := 3) hs5 rfl (by simp) (by simp [storable, Sl.v]) fun σ6 st6 r6 => ?_
      obtain ⟨a1, a2⟩ := LogAt.segsOf hA5 st6 (by decide) (fun x _ => ⟨by nin, by nin⟩) (by decide)
      rw [← hY]
      refine ih (n + 1) (f + y.1.recs.length) ⟨cutA s.a 1 s.cap 1, s.len - 1, s.cap - 1⟩ (x2 :: xs') (y2 :: L') _ tag5 σ6 (by simp only [List.length_cons] at hk ⊢; omega) st6.sep ⟨r6, Held.tail a1 hcap, fun z hz => a2 z (by simp at hz ⊢; exact .inr hz), ?_⟩ (by simp only; omega) (hD5.keep st6 (by nia)) hx2 ⟨hch, by simp only [segs, List.map_cons, List.length_cons] at hnum ⊢; omega, ?_, by omega⟩ ?_ ?_ fun n' f' s' xs'' L'' ps' tag' σ' hs' hA' hD' hx' hI' hf' hfi' ⟨D, d1, d2, d3⟩ => ?_
      · have := hA.nd
        rw [List.map_cons, List.nodup_cons] at this
        exact this.2
      · have e : recsOf (segs (y :: y2 :: L')) = y.1.recs ++ recsOf (segs (y2 :: L')) := by unfold recsOf segs; rw [List.map_cons, List.flatMap_cons]
        rw [e, List.length_append] at hidx
        omega
      · rw [pfs_del, hf]
        show adel ((fname y.1.number, _) :: logFs (y2 :: L')) (fname y.1.number) = _
        exact adel_head
      · unfold Seg.next at c; rw [hy1] at c; exact c
      · refine hQ n' f' s' xs'' L'' ps' tag' σ' hs' hA' hD' hx' hI' hf' hfi' ⟨y :: D, by rw [d1]; rfl, ?_, fun _ => d3 (by simp)⟩
        have e : recsOf (segs (y :: D)) = y.1.recs ++ recsOf (segs D) := by unfold recsOf segs; rw [List.map_cons, List.flatMap_cons]
        rw [e, List.length_append, d2]; omega
theorem trunc_ok {T M Lb safe n f : Nat} {limit cap i : Int} {s : Sl} {xs : List (Nat × Seg)} {L : List (Seg × Nat)} {ps : Ps} {Q : Int → AH → Prop} (g : Glob ro) (hA : LogAt tag σ 11 T Lb limit safe s xs) (hcap : s.len ≤ s.cap) (hD : Disk tag σ 10 T M cap ps) (hx : xs.map (·.2) = segs L) (hI : LogIn n f (segs L)) (hf : pfs ps = logFs L) (hf0 : f = 0)
    (hbad : (i < 0 ∨ ((recsOf (segs L)).length : Int) < i) → Q 41 σ)
    (hQ : 0 ≤ i → i ≤ ((recsOf (segs L)).length : Int) → ∀ n' f' s' xs' L' ps' tag' σ', SL.Sep ro σ' → LogAt tag' σ' 11 T Lb limit safe s' xs' → Disk tag' σ' 10 T M cap ps' → xs'.map (·.2) = segs L' → LogIn n' f' (segs L') → pfs ps' = logFs L' → (f' : Int) ≤ i → (∃ D, L = D ++ L' ∧ f' = (recsOf (segs D)).length ∧ (L ≠ [] → L' ≠ [])) → Q 0 σ') :
    c_wal_Log_Truncate B ro (some ⟨Lb, 0, none⟩) i σ Q := by
  refine wal_Log_Truncate_ok fun hs => ?_
  unfold f_wal_Log_Truncate
  subst hf0
  have hnx : nextOf (segs L) = (recsOf (segs L)).length := by
    by_cases c : segs L = []
    · rw [c]; rfl
    · rw [chain_next hI.chain c, Nat.zero_add]
  by_cases c0 : i < 0
  · rw [if_pos c0]
    unfold j1_wal_Log_Truncate
    rw [if_pos rfl]
    exact hbad (.inl c0)
  rw [if_neg c0]
  refine logNext_ok hA (by rw [hx]; exact hI) ?_
  rw [hx, hnx]
  unfold j1_wal_Log_Truncate
  by_cases c1 : ((recsOf (segs L)).length : Int) < i
  · rw [if_pos (decide_eq_true c1)]
    exact hbad (.inr c1)
  rw [if_neg (by simpa using c1)]
  refine truncLoop_ok g L.length n 0 s xs L ps tag σ (Nat.le_refl _) hs hA hcap hD hx hI hf (by omega) fun n' f' s' xs' L' ps' tag' σ' h1 h2 h3 h4 h5 h6 h7 ⟨D, d1, d2, d3⟩ => ?_
  exact hQ (by omega) (by omega) n' f' s' xs' L' ps' tag' σ' h1 h2 h3 h4 h5 h6 h7 ⟨D, d1, by omega, d3⟩
theorem firstOf_chain {gs : List Seg} {n f : Nat} (h : Chain n f gs) (hne : gs ≠ []) : firstOf gs = f := by
  cases gs with
  | nil => exact absurd rfl hne
  | cons g r => exact h.2.1
theorem cuts_ok (g : Glob ro) {limit at' : Int} {a1 : Sl} {cs : List (Sl × Str)} (h : SL.Read ro (fun _ => none) a1 ((cs.map (·.1)).map Sl.v)) (hcs : Sn.Given ro cs) :
    c_law04_WalCuts B ro limit a1 at' σ fun r _ => r = true := by
  refine law04_WalCuts_ok fun hs => ?_
  unfold f_law04_WalCuts
  have hln : a1.len = cs.length := by rw [h.1, List.length_map, List.length_map]
  refine new_ok (tag := fun _ => 0) (r := 10) (fun hb => absurd hb (by decide)) fun hc0 hc1 T M tag1 σ1 st1 hD1 => ?_
  rw [if_neg (by simp)]
  refine openEmpty_ok g hD1 hc0 (fun hb _ => ?_) fun hlim Lb tag2 σ2 st2 hL2 => ?_
  · rw [if_pos (.inl rfl), if_pos hb]
    unfold j5_law04_WalCuts
    exact c_law04_awake_mono (awake_ok g) fun r σ _ e => e
  rw [if_neg (by simp)]
  have wake : ∀ τ, j8_law04_WalCuts B ro limit a1 at' (some ⟨T, 0, none⟩) (some ⟨Lb, 0, none⟩) (fun r _ => r = true) true τ := fun τ => by
    unfold j8_law04_WalCuts
    rw [if_pos rfl]
    exact c_law04_awake_mono (awake_ok g) fun r σ _ e => e
  by_cases c1 : 1000 < cs.length
  · rw [if_pos (by omega)]
    exact wake _
  rw [if_neg (by omega)]
  have hsb : ∀ (i : Nat) (x : Sl) (d : Str), (cs.map (·.1))[i]? = some x → (cs.map (·.2))[i]? = some d → SL.Read ro (fun _ => none) x (d.map vU) ∧ d.length ≤ 140737488355328 := fun i x d hx hd => by
    rw [List.getElem?_map] at hx hd
    obtain ⟨y, hy, rfl⟩ := Option.map_eq_some_iff.1 hx
    rw [hy] at hd
    cases hd
    have := hcs y (List.mem_of_getElem? hy)
    exact ⟨this.1, this.2.2⟩
  refine copied_ok (tag := tag2) 20 (by decide) (by decide) h (by rw [List.length_map, List.length_map]) hsb (by rw [List.length_map]; omega) fun s3 ss3 tag3 σ3 st3 r3 hR3 => ?_
  have hL3 : LSt tag3 σ3 T M Lb limit 1073741824 0 [] := by
    obtain ⟨⟨s, xs, ps, a, b, c, d, e⟩, w, u⟩ := hL2
    exact ⟨⟨s, xs, ps, a.keepS st3 (by decide) (by decide), b.keepS st3 (by decide), Sn.DiskAt.keepS c st3 (by decide), d, e⟩, w, u⟩
  refine append_ok (tag := tag3) (q := 20) (ds := cs.map (·.2)) g hL3 hc0 hc1 r3 (by decide) hR3 (by show 0 + _ ≤ _; rw [List.length_map]; omega) (fun _ _ => wake _) (fun _ k safe' L' tag4 σ4 hk hlt st4 hL4 hrec _ => wake _) (fun _ safe' L tag4 σ4 st4 hL4 hrec _ _ _ => ?_)
  have hrec : recsOf (segs L) = cs.map (·.2) := hrec
  obtain ⟨⟨s, xs, ps, hA, hrow, hD, hx, hf⟩, hW, hU⟩ := hL4
  unfold j8_law04_WalCuts
  rw [if_neg (by simp)]
  have hrl : (recsOf (segs L)).length = cs.length := by rw [hrec, List.length_map]
  have hcap := hrow.capAt
  refine trunc_ok g hA (by rw [hrow.len]; exact hcap) hD hx hW.inn hf rfl (fun hb => ?_) (fun h0 h1 n' f' s5 xs5 L5 ps5 tag5 σ5 hs5 hA5 hD5 hx5 hI5 hf5 hfi ⟨D, d1, d2, d3⟩ => ?_)
  · rw [if_pos (by omega), if_pos rfl]
    refine logFirst_ok hA ?_
    have hfo : firstOf (xs.map (·.2)) = 0 := by
      rw [hx]
      by_cases c : segs L = []
      · rw [c]; rfl
      · exact firstOf_chain hW.chain c
    rw [hfo]
    unfold j12_law04_WalCuts
    rw [if_pos (by simp)]
    exact c_law04_awake_mono (awake_ok g) fun r σ _ e => e
  rw [if_neg (by omega), if_neg (by decide)]
  -- what there is behind the cut
  have hsd : segs L = segs D ++ segs L5 := by rw [d1]; unfold segs; rw [List.map_append]
  have hrd : recsOf (segs L) = recsOf (segs D) ++ recsOf (segs L5) := by rw [hsd]; unfold recsOf; rw [List.flatMap_append]
  have hlen5 : f' + (recsOf (segs L5)).length = cs.length := by rw [← hrl, hrd, List.length_append]; omega
  have hnil : segs L5 = [] → cs.length = 0 ∧ f' = 0 := fun e => by
    have hL50 : L5 = [] := List.map_eq_nil_iff.1 e
    have hL0 : L = [] := Classical.byContradiction fun hn => d3 hn hL50
    have hcs0 : cs.length = 0 := by rw [← hrl, hL0]; rfl
    omega
  have hfirst5 : firstOf (segs L5) = f' := by
    by_cases c : segs L5 = []
    · rw [c, (hnil c).2]; rfl
    · exact firstOf_chain hI5.chain c
  have hnext5 : nextOf (segs L5) = cs.length := by
    by_cases c : segs L5 = []
    · rw [c, (hnil c).1]; rfl
    · rw [chain_next hI5.chain c]; exact hlen5
  refine logFirst_ok hA5 ?_
  rw [hx5, hfirst5, decide_eq_false (by omega)]
  unfold j18_law04_WalCuts
  rw [if_neg (by simp)]
  refine logNext_ok hA5 (by rw [hx5]; exact hI5) ?_
  rw [hx5, hnext5, decide_eq_true (show ((cs.length : Nat) : Int) = (a1.len : Int) by omega)]
  unfold j20_law04_WalCuts
  rw [if_neg (by simp)]
  refine logSync_ok g hA5 hD5 hx5 hI5 hf5 fun ps6 tag6 σ6 st6 hA6 hD6 hf6 => ?_
  have hse := segs_syncL L5
  have hrecs5 : ∀ d ∈ recsOf (segs L5), d.length ≤ 65536 := fun d hd => hW.recs d (by rw [hrd]; exact List.mem_append_right _ hd)
  have hfull5 : ∀ x ∈ syncL L5, x.2 = x.1.bytes.length := by
    rcases List.eq_nil_or_concat L5 with hh | ⟨L6, ⟨gl, m⟩, hh⟩
    · rw [hh]; intro x hx; cases hx
    · rw [List.concat_eq_append] at hh
      rw [hh, syncL_snoc]
      intro x hx
      rcases List.mem_append.1 hx with hx | hx
      · refine hW.full x ?_
        rw [d1, hh, ← List.append_assoc, List.dropLast_concat]
        exact List.mem_append_right _ hx
      · rw [List.mem_singleton.1 hx]
  have hu5 : used (logFs L5) ≤ used (logFs L) := by
    rw [d1]
    unfold used logFs
    rw [List.map_append, List.map_append, List.sum_append]; omega
  have hA6' := LogAt.mv hA6
  have hD6' := DiskAt.mv hD6
  refine reopen_ok (tag := tagM tag6) (n := n') (f := f') (L := syncL L5) g hD6' hc0 hc1 (by rw [hse]; exact hI5) (by rw [hse]; exact hrecs5) hf6 hfull5 (by rw [used_syncL]; omega) hlim fun Lb2 s7 xs7 tag7 σ7 st7 hA7 hx7 => ?_
  rw [hse] at hA7 hx7
  have hAl := hA6'.keepS st7 (by decide) (by decide)
  rw [if_neg (by simp)]
  refine logFirst_ok hA7 ?_
  refine logFirst_ok hAl ?_
  rw [hx7, hx5, decide_eq_true rfl]
  unfold j25_law04_WalCuts
  rw [if_neg (by simp)]
  refine logNext_ok hA7 (by rw [hx7]; exact hI5) ?_
  refine logNext_ok hAl (by rw [hx5]; exact hI5) ?_
  rw [hx7, hx5, decide_eq_true rfl]
  unfold j27_law04_WalCuts
  rw [if_neg (by simp)]
  have hget : ∀ (τ : AH) (j : Nat), j < cs.length → ∃ p x d, a1.a = some p ∧ acell ro τ (p.add j) = some (Sl.v x) ∧ cs[j]? = some (x, d) ∧ SL.Read ro (fun _ => none) x (d.map vU) := fun τ j hj => by
    obtain ⟨p, hp⟩ : ∃ p, a1.a = some p := by
      cases e : a1.a with
      | none => have := h.2.1 e; simp at this; rw [this] at hj; simp at hj
      | some p => exact ⟨p, rfl⟩
    refine ⟨p, (cs[j]).1, (cs[j]).2, hp, ?_, List.getElem?_eq_getElem hj, (hcs _ (List.getElem_mem hj)).1⟩
    exact (h.keep (σ := τ)).2.2 p hp j _ (by rw [List.getElem?_map, List.getElem?_map, List.getElem?_eq_getElem hj]; rfl)
  suffices ∀ (m j : Nat) (tag8 : Nat → Nat) (σ8 : AH), j + m = cs.length → Step [] ro tag7 σ7 tag8 σ8 → lfpD (l31_law04_WalCuts B ro a1 (some ⟨Lb, 0, none⟩) (some ⟨Lb2, 0, none⟩) (fun r _ => r = true)) (j : Int) σ8 from
    this _ 0 tag7 σ7 (Nat.zero_add _) (Step.refl st7.sep)
  intro m
  induction m with
  | zero =>
    intro j tag8 σ8 hj st8
    refine lfpD.intro ?_
    unfold l31_law04_WalCuts
    rw [if_neg (by omega)]
    unfold j29_law04_WalCuts
    exact c_law04_awake_mono (awake_ok g) fun r σ _ e => e
  | succ m ih =>
    intro j tag8 σ8 hj st8
    have hjc : j < cs.length := by omega
    obtain ⟨p, x, d, hp, hcell, hcj, hrdx⟩ := hget σ8 j hjc
    have hne5 : segs L5 ≠ [] := fun e => by have := (hnil e).1; omega
    refine lfpD.intro ?_
    generalize hY : lfpD (l31_law04_WalCuts B ro a1 (some ⟨Lb, 0, none⟩) (some ⟨Lb2, 0, none⟩) (fun r _ => r = true)) = Y
    unfold l31_law04_WalCuts
    rw [if_pos (by omega)]
    refine ⟨p, hp, by omega, by omega, x, by rw [Int.toNat_natCast, Nat.mul_one]; exact hcell, ?_⟩
    refine nw_cells (tag := tag8) 5 st8.sep fun V tag9 σ9 st9 r9 => ?_
    have st79 : Step [] ro tag7 σ7 tag9 σ9 := st8.trans (st9 [])
    -- one of both logs
    have one : ∀ (j2 : Nat) (Lx : Nat) (rx : Nat) (sx : Sl) (xx : List (Nat × Seg)) (tagA : Nat → Nat) (σA : AH) (Y37 : Int → AH → Prop), j2 < 2 → Step [] ro tag9 σ9 tagA σA → LogAt tagA σA rx T Lx limit (nextOf (segs L5)) sx xx → xx.map (·.2) = segs L5 →
        (∀ tagB σB, Step [] ro tag9 σ9 tagB σB → Y37 ((j2 + 1 : Nat) : Int) σB) →
        c_wal_Log_Get B ro (some ⟨Lx, 0, none⟩) (j : Int) σA fun x142_41 x142_42 σ => c_wal_Log_First B ro (some ⟨Lb, 0, none⟩) σ fun x147_43 σ =>
          if x147_43 ≤ (j : Int) then
            if ¬ (x142_42 = 0) then j49_law04_WalCuts B ro a1 (some ⟨Lb, 0, none⟩) (some ⟨Lb2, 0, none⟩) (j : Int) x V (j2 : Int) x142_42 x147_43 (fun r _ => r = true) Y Y37 true σ
            else c_ref01_Same B ro x x142_41 σ fun x155_51 σ => j49_law04_WalCuts B ro a1 (some ⟨Lb, 0, none⟩) (some ⟨Lb2, 0, none⟩) (j : Int) x V (j2 : Int) x142_42 x147_43 (fun r _ => r = true) Y Y37 (!x155_51) σ
          else j44_law04_WalCuts B ro a1 (some ⟨Lb, 0, none⟩) (some ⟨Lb2, 0, none⟩) (j : Int) x V (j2 : Int) x142_42 (fun r _ => r = true) Y Y37 false σ := by
      intro j2 Lx rx sx xx tagA σA Y37 hj2 stA hAx hxx hY37
      refine get_ok (i := (j : Int)) hAx (by rw [hxx]; exact hI5) (by rw [hxx]; exact hrecs5) (fun hb => ?_) (fun j' d' hj' hd' sB tagB σB stB rB => ?_)
      · rw [hxx] at hb
        refine logFirst_ok ((hAl.keep0 st79).keep0 stA) ?_
        rw [hx5, hfirst5, if_neg (by omega)]
        unfold j44_law04_WalCuts
        rw [if_neg (by simp)]
        refine logFirst_ok ((hAl.keep0 st79).keep0 stA) ?_
        rw [hx5, hfirst5, decide_eq_true (show (41 : Int) = 41 from rfl), Bool.not_true, Bool.and_false]
        unfold j46_law04_WalCuts
        rw [if_neg (by simp), Pa.inc j2 (by omega)]
        exact hY37 tagA σA stA
      · rw [hxx] at hd'
        have stAB := stA.trans (stB [])
        refine logFirst_ok ((hAl.keep0 st79).keep0 stAB) ?_
        rw [hx5, hfirst5, if_pos (by omega), if_neg (by decide)]
        have hdd : d' = d := by
          have e1 : (recsOf (segs L))[f' + j']? = some d' := by
            rw [hrd, List.getElem?_append_right (by omega), d2, Nat.add_sub_cancel_left]; exact hd'
          rw [hrec, List.getElem?_map, show f' + j' = j by omega, hcj] at e1
          exact (Option.some.inj e1).symm
        subst hdd
        refine Zt.same_ok hrdx.keep (rB.read (stB []).sep) ?_
        rw [decide_eq_true rfl]
        unfold j49_law04_WalCuts j44_law04_WalCuts
        rw [if_neg (by simp)]
        refine logFirst_ok ((hAl.keep0 st79).keep0 stAB) ?_
        rw [hx5, hfirst5, decide_eq_false (show ¬ (j : Int) < (f' : Nat) by omega), Bool.false_and]
        unfold j46_law04_WalCuts
        rw [if_neg (by simp), Pa.inc j2 (by omega)]
        exact hY37 tagB σB stAB
    have cells : ∀ tagA σA, Step [] ro tag9 σ9 tagA σA → ∀ (i : Nat) (v : Value), [Value.pointer (some ⟨Lb, 0, none⟩), .pointer (some ⟨Lb2, 0, none⟩)][i]? = some v → acell ro σA ((⟨V, 0, none⟩ : Addr).add (i * 1)) = some v := fun tagA σA stA i v hv => by
      obtain ⟨pp, hpp, hgg⟩ := (r9.keep stA (by simp)).ptr stA.sep (by simp)
      cases hpp
      exact hgg i v hv
    have e37 : ∀ (j2 : Nat) (τ : AH), lfpD (l37_law04_WalCuts B ro a1 (some ⟨Lb, 0, none⟩) (some ⟨Lb2, 0, none⟩) (j : Int) x V (fun r _ => r = true) Y) (j2 : Int) τ → True := fun _ _ _ => trivial
    have third : ∀ tagB σB, Step [] ro tag9 σ9 tagB σB → lfpD (l37_law04_WalCuts B ro a1 (some ⟨Lb, 0, none⟩) (some ⟨Lb2, 0, none⟩) (j : Int) x V (fun r _ => r = true) Y) ((2 : Nat) : Int) σB := fun tagB σB stB => by
      refine lfpD.intro ?_
      unfold l37_law04_WalCuts
      rw [if_neg (by simp)]
      unfold j33_law04_WalCuts
      rw [Pa.inc j (by omega), ← hY]
      exact ih (j + 1) tagB σB (by omega) (st79.trans stB)
    have second : ∀ tagB σB, Step [] ro tag9 σ9 tagB σB → lfpD (l37_law04_WalCuts B ro a1 (some ⟨Lb, 0, none⟩) (some ⟨Lb2, 0, none⟩) (j : Int) x V (fun r _ => r = true) Y) ((1 : Nat) : Int) σB := fun tagB σB stB => by
      refine lfpD.intro ?_
      generalize hZ : lfpD (l37_law04_WalCuts B ro a1 (some ⟨Lb, 0, none⟩) (some ⟨Lb2, 0, none⟩) (j : Int) x V (fun r _ => r = true) Y) = Z at third ⊢
      unfold l37_law04_WalCuts
      rw [if_pos (by simp)]
      refine ⟨_, rfl, by omega, by simp, some ⟨Lb2, 0, none⟩, cells tagB σB stB 1 _ rfl, ?_⟩
      exact one 1 Lb2 11 s7 xs7 tagB σB Z (by omega) stB ((hA7.keep0 st79).keep0 stB) hx7 third
    refine lfpD.intro ?_
    generalize hZ : lfpD (l37_law04_WalCuts B ro a1 (some ⟨Lb, 0, none⟩) (some ⟨Lb2, 0, none⟩) (j : Int) x V (fun r _ => r = true) Y) = Z at second ⊢
    unfold l37_law04_WalCuts
    rw [if_pos (by simp)]
    refine ⟨_, rfl, by omega, by simp, some ⟨Lb, 0, none⟩, cells tag9 σ9 (Step.refl (st9 []).sep) 0 _ rfl, ?_⟩
    exact one 0 Lb 12 s5 xs5 tag9 σ9 Z (by omega) (Step.refl (st9 []).sep) (hAl.keep0 st79) hx5 second
end Go.Proofs.YtfobjidchipdaaaGreatDoor.Wl
