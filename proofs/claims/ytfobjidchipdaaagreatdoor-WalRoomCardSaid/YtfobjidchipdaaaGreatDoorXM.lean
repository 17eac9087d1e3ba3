/- WlJ, WlK -/
import Derived.Test.YtfobjidchipdaaaGreatDoorXL
/- Logs, the walk: Open. -/
namespace Go.Proofs.YtfobjidchipdaaaGreatDoor.Wl
open Go Go.Proofs.YtfobjidchipdaaaGreatDoor.SL Go.Proofs.YtfobjidchipdaaaGreatDoor.G Go.Proofs.YtfobjidchipdaaaGreatDoor.Pa Go.Proofs.YtfobjidchipdaaaGreatDoor.Wi Go.Proofs.YtfobjidchipdaaaGreatDoor.Dk
set_option linter.unusedSimpArgs false
set_option linter.unusedVariables false
set_option maxRecDepth 100000
variable {B : World} {ro σ σ' : AH} {tag tag' : Nat → Nat}
abbrev OC : List Nat := [0, 3, 10, 11, 16, 17]
/-- up to the loop over the files' numbers -/
theorem openBegin_ok {T M : Nat} {limit cap : Int} {ps : Ps} {ns : List Nat} {Q : Option Addr → Int → AH → Prop} (hD : Disk tag σ 10 T M cap ps) (hbl : ∀ p ∈ ps, p.2.2.b.length ≤ 140737488355328) (hns : (pfs ps).map (·.1) = ns.map fname) (hlt : ∀ n ∈ ns, 0 < n ∧ n < 1003) (hpw : ns.Pairwise (· < ·))
    (hbad : limit < 16 ∨ 1048576 < limit → SL.Sep ro σ → Q none 40 σ)
    (hgo : ¬ (limit < 16 ∨ 1048576 < limit) → ∀ Lb Wb s tag' σ', StepS OC ro tag σ tag' σ' → LogAt tag' σ' 11 T Lb limit 0 ⟨none, 0, 0⟩ [] → Disk tag' σ' 10 T M cap ps → Row tag' σ' 16 4 ⟨some ⟨Wb, 0, none⟩, 1, 1⟩ [.bool true] → Row tag' σ' 17 3 s (ns.map fun (n : Nat) => Zt.vI (n : Int)) → lfpD (l24_wal_Open B ro (some ⟨T, 0, none⟩) Wb Lb s Q) 0 σ') : c_wal_Open B ro (some ⟨T, 0, none⟩) (S logN) limit σ Q := by
  refine wal_Open_ok fun hs => ?_
  unfold f_wal_Open
  refine rightLog_ok ?_
  by_cases c : limit < 16 ∨ 1048576 < limit
  · rw [if_pos (by rcases c with c | c; exact .inl (.inr c); exact .inr c)]
    exact hbad c hs
  rw [if_neg (by rintro ((h | h) | h); exact h rfl; exact c (.inl h); exact c (.inr h))]
  refine nw_cells (tag := tag) 11 hs fun Lb tag1 σ1 st1 r1 => ?_
  have hs1 := (st1 []).sep
  have rd : ∀ {tg : Nat → Nat} {τ : AH}, Row tg τ 11 131 ⟨some ⟨Lb, 0, none⟩, 5, 5⟩ [ptr T, vS logN, vI limit, Sl.v ⟨none, 0, 0⟩, vI ((0 : Nat) : Int)] → SL.Sep ro τ → cellsAt ro τ ⟨Lb, 0, none⟩ 0 [.pointer (some ⟨T, 0, none⟩), .string (S logN)] := fun {tg τ} r h => by
    obtain ⟨p, hp, hg⟩ := r.ptr h (by simp)
    cases hp
    refine cellsAt_of 0 fun i v hv => ?_
    rw [Nat.zero_add]
    match i, hv with
    | 0, hv => have := hg 0 v hv; rwa [Nat.zero_mul] at this
    | 1, hv => have := hg 1 v hv; rwa [Nat.one_mul] at this
  refine ⟨_, _, rd r1 hs1, ?_⟩
  refine cutFile_ok (tag := tag1) fun tag2 σ2 st2 => ?_
  have hD2 := hD.keep ((st1 []).trans (st2 [])) (by simp)
  have r2 := r1.keep (st2 []) (by simp)
  have hno : ps.lookup cutN = none := by
    rw [lookup_key, ← pfs_keys, hns]
    intro hm
    obtain ⟨n, _, e⟩ := List.mem_map.1 hm
    exact fname_cut n e
  refine read_ok (n := cutN) hD2 (by decide) (by decide) (st2 []).sep hbl (fun e tag3 σ3 he st3 => ?_) (fun _ b f hb => by rw [hno] at hb; cases hb)
  have hne : ¬ e = 0 := by rcases he with ⟨_, rfl⟩ | ⟨_, _, rfl⟩ <;> decide
  rw [if_neg hne]
  have hD3 := hD2.keep st3 (by nia)
  have r3 := r2.keep st3 (by decide)
  have s03 : StepS OC ro tag σ tag3 σ3 := ((st1 []).s (by simp)).trans (((st2 []).s (by simp)).trans (st3.s (by decide)))
  unfold j3_wal_Open
  refine nw_cells (tag := tag3) 16 st3.sep fun Wb tag4 σ4 st4 r4 => ?_
  refine r4.stAll (st4 []).sep rfl (by simp [storable]) fun σ5 st5 r5 => ?_
  have r35 := (r3.keep (st4 []) (by simp)).keep st5 (by decide)
  refine ⟨_, _, rd r35 st5.sep, ?_⟩
  refine numbers_ok (tag := tag4) (q := 17) (ns := ns) ((hD3.keep (st4 []) (by simp)).keep st5 (by nia)) hns hlt hpw (by decide) (by decide) (by decide) fun s6 tag6 σ6 st6 r6 => ?_
  exact hgo c Lb Wb s6 tag6 σ6 (s03.trans (((st4 []).s (by simp)).trans ((st5.s (by decide)).trans (st6.mono (by decide))))) ⟨r35.keepS st6 (by decide), Held.nil _, (fun x hx => by cases hx), List.nodup_nil⟩ (Sn.DiskAt.keepS ((hD3.keep (st4 []) (by simp)).keep st5 (by nia)) st6 (by decide)) (r5.keepS st6 (by decide)) r6
/-- a log on an empty disk -/
theorem openEmpty_ok {T M : Nat} {limit cap : Int} {Q : Option Addr → Int → AH → Prop} (g : Glob ro) (hD : Disk tag σ 10 T M cap []) (hc0 : 0 ≤ cap)
    (hbad : limit < 16 ∨ 1048576 < limit → SL.Sep ro σ → Q none 40 σ)
    (hgo : ¬ (limit < 16 ∨ 1048576 < limit) → ∀ Lb tag' σ', StepS OC ro tag σ tag' σ' → LSt tag' σ' T M Lb limit cap 0 [] → Q (some ⟨Lb, 0, none⟩) 0 σ') : c_wal_Open B ro (some ⟨T, 0, none⟩) (S logN) limit σ Q := by
  refine openBegin_ok (ns := []) hD (fun p hp => by cases hp) rfl (fun n hn => by cases hn) List.Pairwise.nil hbad fun hlim Lb Wb s tag1 σ1 st1 hA hD1 hW hN => ?_
  have hsl : s.len = 0 := by rw [hN.len]; rfl
  refine lfpD.intro ?_
  unfold l24_wal_Open
  rw [if_neg (by omega)]
  unfold j5_wal_Open
  have hs1 := st1.sep
  obtain ⟨pw, hpw, hgw⟩ := hW.ptr hs1 (by simp)
  cases hpw
  refine ⟨true, by have := hgw 0 _ rfl; rwa [Nat.zero_mul, add_zero] at this, ?_⟩
  rw [if_neg (by simp)]
  have hI : LogIn 1 0 (([] : List (Nat × Seg)).map (·.2)) := ⟨trivial, by decide, by decide, by decide⟩
  refine openEnd_ok g hA hD1 hI hs1 fun tag2 σ2 st2 hA2 hD2 => ?_
  exact hgo hlim Lb tag2 σ2 (st1.trans (st2.s (fun x hx => by simp only [syncP] at hx; simp; omega))) ⟨⟨⟨none, 0, 0⟩, [], [], hA2, Row.nil _ _, hD2 rfl, rfl, rfl⟩, LW.nil, by simpa [logFs, used] using hc0⟩
theorem fl_mono {g : Seg} {i j : Nat} (h : i ≤ j) : fl g i ≤ fl g j := by
  unfold fl
  have : g.recs.take i = (g.recs.take j).take i := by rw [List.take_take, Nat.min_eq_left h]
  rw [this]
  conv => rhs; rw [← List.take_append_drop i (g.recs.take j), List.flatMap_append, List.length_append]
  omega
theorem chain_numbers : ∀ {gs : List Seg} {n f : Nat}, Chain n f gs → gs.map (·.number) = List.range' n gs.length := by
  intro gs
  induction gs with
  | nil => intro n f _; rfl
  | cons g r ih =>
    intro n f h
    obtain ⟨h1, _, h3⟩ := h
    rw [List.map_cons, ih h3, h1, List.length_cons, List.range'_succ]
/-- a log that is opened again: all files are whole but the last, of which the first m bytes are there -/
theorem openFull_ok {T M n f m sf : Nat} {limit cap : Int} {ps : Ps} {L0 : List (Seg × Nat)} {gs : Seg} {Q : Option Addr → Int → AH → Prop} (g : Glob ro) (hD : Disk tag σ 10 T M cap ps) (hc0 : 0 ≤ cap) (hc1 : cap ≤ 1073741824) (hI : LogIn n f (segs L0 ++ [gs])) (hrecs : ∀ d ∈ recsOf (segs L0 ++ [gs]), d.length ≤ 65536)
    (hps : pfs ps = logFs L0 ++ [(fname gs.number, ⟨gs.bytes.take m, sf⟩)]) (hm : m ≤ gs.bytes.length) (hbyt : ∀ x ∈ segs L0 ++ [gs], x.bytes.length ≤ 1073741824) (hu : used (pfs ps) ≤ 1073741824) (hroom : m = gs.bytes.length ∨ ((used (pfs ps) + m : Nat) : Int) ≤ cap)
    (hbad : limit < 16 ∨ 1048576 < limit → SL.Sep ro σ → Q none 40 σ)
    (hgo : ¬ (limit < 16 ∨ 1048576 < limit) → ∀ Lb s xs tag' σ', StepS OC ro tag σ tag' σ' → LogAt tag' σ' 11 T Lb limit (nextOf (xs.map (·.2))) s xs →
      ((m < (headOf gs.first).length ∧ xs.map (·.2) = segs L0) ∨ ((headOf gs.first).length ≤ m ∧ ∃ j, j ≤ gs.recs.length ∧ fl gs j ≤ m ∧ (j = gs.recs.length ∨ m < fl gs (j + 1)) ∧ xs.map (·.2) = segs L0 ++ [⟨gs.number, gs.first, gs.recs.take j⟩])) → Q (some ⟨Lb, 0, none⟩) 0 σ') :
    c_wal_Open B ro (some ⟨T, 0, none⟩) (S logN) limit σ Q := by
  have hl0 : (segs L0).length = L0.length := by unfold segs; rw [List.length_map]
  have hnum := hI.num
  have hidx := hI.idx
  have hpos := hI.pos
  rw [List.length_append, hl0] at hnum
  have hl1 : [gs].length = 1 := rfl
  obtain ⟨ch0, chl⟩ := chain_append.1 hI.chain
  obtain ⟨hgn, hgf, _⟩ := chl
  rw [hl0] at hgn
  have hr0 : recsOf (segs L0 ++ [gs]) = recsOf (segs L0) ++ gs.recs := recsOf_snoc _ _
  rw [hr0, List.length_append] at hidx
  have hcn := chain_numbers hI.chain
  have hkeys : (pfs ps).map (·.1) = (List.range' n (L0.length + 1)).map fname := by
    have e1 : List.range' n (L0.length + 1) = (segs L0).map (·.number) ++ [gs.number] := by
      rw [List.length_append, hl0, List.map_append] at hcn
      exact hcn.symm
    rw [hps, e1, List.map_append, List.map_append, List.map_map, logFs_names]; rfl
  have hmem : ∀ p ∈ ps, (p.1, p.2.2) ∈ pfs ps := fun p hp => List.mem_map.2 ⟨p, hp, rfl⟩
  have hbl : ∀ p ∈ ps, p.2.2.b.length ≤ 140737488355328 := fun p hp => by
    have := hmem p hp
    rw [hps] at this
    rcases List.mem_append.1 this with h | h
    · obtain ⟨x, hx, e⟩ := List.mem_map.1 h
      have := hbyt x.1 (List.mem_append_left _ (List.mem_map.2 ⟨x, hx, rfl⟩))
      have e2 := congrArg (fun z : Str × Fl => z.2.b.length) e
      simp only at e2
      omega
    · have e := List.mem_singleton.1 h
      have := hbyt gs (by simp)
      have e2 := congrArg (fun z : Str × Fl => z.2.b.length) e
      simp only [List.length_take] at e2
      omega
  refine openBegin_ok (ns := List.range' n (L0.length + 1)) hD hbl hkeys (fun k hk => by rw [List.mem_range'_1] at hk; omega) (List.pairwise_lt_range' ..) hbad fun hlim Lb Wb s tag1 σ1 st1 hA hD1 hW hN => ?_
  have hsl : s.len = L0.length + 1 := by rw [hN.len, List.length_map, List.length_range']
  have look0 : ∀ (i : Nat) (x : Seg × Nat), L0[i]? = some x → ∃ bk, ps.lookup (fname x.1.number) = some (bk, ⟨x.1.bytes.take x.1.bytes.length, x.2⟩) := fun i x hx => by
    have hm : (fname x.1.number, (⟨x.1.bytes, x.2⟩ : Fl)) ∈ pfs ps := by
      rw [hps]
      exact List.mem_append_left _ (List.mem_map.2 ⟨x, List.mem_of_getElem? hx, rfl⟩)
    have := lookup_mem (by rw [pfs_keys]; exact hD.keys) hm
    rw [pfs_lookup] at this
    obtain ⟨⟨bk, fl'⟩, e1, e2⟩ := Option.map_eq_some_iff.1 this
    simp only at e2
    rw [List.take_length]
    exact ⟨bk, by rw [e1, e2]⟩
  have lookL : ∃ bk, ps.lookup (fname gs.number) = some (bk, ⟨gs.bytes.take m, sf⟩) := by
    have hm : (fname gs.number, (⟨gs.bytes.take m, sf⟩ : Fl)) ∈ pfs ps := by rw [hps]; simp
    have := lookup_mem (by rw [pfs_keys]; exact hD.keys) hm
    rw [pfs_lookup] at this
    obtain ⟨⟨bk, fl'⟩, e1, e2⟩ := Option.map_eq_some_iff.1 this
    simp only at e2
    exact ⟨bk, by rw [e1, e2]⟩
  have hnd : ∀ i, i < L0.length → (hi : i < (segs L0).length) → (segs L0)[i].number = n + i := fun i h hi => (chain_get ch0 (List.getElem?_eq_getElem hi)).1
  -- the numbers in memory
  have nth : ∀ (tg : Nat → Nat) (τ : AH), Row tg τ 17 3 s ((List.range' n (L0.length + 1)).map fun (n : Nat) => Zt.vI (n : Int)) → SL.Sep ro τ → ∀ i, i < L0.length + 1 → ∃ p, s.a = some p ∧ acell ro τ (p.add (i * 1)) = some (Zt.vI ((n + i : Nat) : Int)) := fun tg τ r h i hi => by
    obtain ⟨p, hp, hg⟩ := r.ptr h (by rw [List.length_map, List.length_range']; omega)
    refine ⟨p, hp, hg i _ ?_⟩
    rw [List.getElem?_map, List.getElem?_range' hi, Nat.one_mul]; rfl
  -- behind the loop, all whole
  have wholeEnd : ∀ (s' : Sl) (xs : List (Nat × Seg)) (ps' : Ps) (tag2 : Nat → Nat) (σ2 : AH), StepS OC ro tag σ tag2 σ2 → LogAt tag2 σ2 11 T Lb limit 0 s' xs → Disk tag2 σ2 10 T M cap ps' → LogIn n f (xs.map (·.2)) →
      ((m < (headOf gs.first).length ∧ xs.map (·.2) = segs L0) ∨ ((headOf gs.first).length ≤ m ∧ ∃ j, j ≤ gs.recs.length ∧ fl gs j ≤ m ∧ (j = gs.recs.length ∨ m < fl gs (j + 1)) ∧ xs.map (·.2) = segs L0 ++ [⟨gs.number, gs.first, gs.recs.take j⟩])) → j6_wal_Open B ro (some ⟨T, 0, none⟩) Lb Q σ2 := by
    intro s' xs ps' tag2 σ2 st2 hA2 hD2 hI2 hres
    refine openEnd_ok g hA2 hD2 hI2 st2.sep fun tag3 σ3 st3 hA3 _ => ?_
    exact hgo hlim Lb s' xs tag3 σ3 (st2.trans (st3.s (fun x hx => by simp only [syncP] at hx; simp; omega))) hA3 hres
  have hI0 : LogIn n f (segs L0) := ⟨ch0, by omega, by omega, hpos⟩
  have hIj : ∀ j, j ≤ gs.recs.length → LogIn n f (segs L0 ++ [⟨gs.number, gs.first, gs.recs.take j⟩]) := fun j hj => by
    refine ⟨chain_append.2 ⟨ch0, by rw [hl0]; exact hgn, hgf, trivial⟩, by rw [List.length_append, hl0]; exact hnum, ?_, hpos⟩
    rw [recsOf_snoc, List.length_append, List.length_take]; omega
  suffices ∀ (k i : Nat) (s' : Sl) (xs : List (Nat × Seg)) (tag2 : Nat → Nat) (σ2 : AH), i + k = L0.length → StepS OC ro tag σ tag2 σ2 → LogAt tag2 σ2 11 T Lb limit 0 s' xs → Row tag2 σ2 75 136 s' (ptrs xs) → xs.map (·.2) = (segs L0).take i → Disk tag2 σ2 10 T M cap ps → Row tag2 σ2 16 4 ⟨some ⟨Wb, 0, none⟩, 1, 1⟩ [.bool true] → Row tag2 σ2 17 3 s ((List.range' n (L0.length + 1)).map fun (n : Nat) => Zt.vI (n : Int)) → lfpD (l24_wal_Open B ro (some ⟨T, 0, none⟩) Wb Lb s Q) (i : Int) σ2 from
    this _ 0 ⟨none, 0, 0⟩ [] tag1 σ1 (Nat.zero_add _) st1 hA (Row.nil _ _) rfl hD1 hW hN
  intro k
  induction k with
  | zero =>
    intro i s' xs tag2 σ2 hi st2 hA2 hrow2 hx2 hD2 hW2 hN2
    have hi0 : i = L0.length := by omega
    subst hi0
    rw [List.take_of_length_le (by omega)] at hx2
    have hs2 := st2.sep
    obtain ⟨p, hp, hcp⟩ := nth tag2 σ2 hN2 hs2 L0.length (by omega)
    obtain ⟨pw, hpw, hgw⟩ := hW2.ptr hs2 (by simp)
    cases hpw
    refine lfpD.intro ?_
    generalize hY : lfpD (l24_wal_Open B ro (some ⟨T, 0, none⟩) Wb Lb s Q) = Y
    have hfin : ∀ τ, j5_wal_Open B ro (some ⟨T, 0, none⟩) Wb Lb Q τ → Y ((L0.length + 1 : Nat) : Int) τ := fun τ h => by
      rw [← hY]
      refine lfpD.intro ?_
      unfold l24_wal_Open
      rw [if_neg (by omega)]
      exact h
    unfold l24_wal_Open
    rw [if_pos (by omega)]
    refine ⟨p, hp, by omega, by omega, _, by rw [Int.toNat_natCast]; exact hcp, true, by have := hgw 0 _ rfl; rwa [Nat.zero_mul, add_zero] at this, ?_⟩
    rw [if_neg (by simp), ← hgn]
    have hcons : xs = [] ∨ ∃ gl, (xs.map (·.2)).getLast? = some gl ∧ gs.number = gl.number + 1 ∧ gs.first = nextOf (xs.map (·.2)) := by
      rcases List.eq_nil_or_concat xs with h | ⟨xs0, x, h⟩
      · exact .inl h
      · right
        rw [List.concat_eq_append] at h
        have hne : segs L0 ≠ [] := by rw [← hx2, h]; simp
        have hlast : (xs.map (·.2)).getLast? = some x.2 := by rw [h]; simp
        refine ⟨x.2, hlast, ?_, ?_⟩
        · rw [hx2, List.getLast?_eq_getElem?, hl0] at hlast
          have := (chain_get ch0 hlast).1
          have : 0 < L0.length := by rw [← hl0]; exact List.length_pos_iff.2 hne
          omega
        · rw [hx2, chain_next ch0 hne]; exact hgf
    refine take_ok (tag := tag2) (gs := gs) (m := m) g hA2 hrow2 hD2 hbl hW2 (by rw [hx2]; exact hI0) (by omega) (by omega) (fun d hd => hrecs d (by rw [hr0]; exact List.mem_append_right _ hd)) (by omega) hm (hbyt gs (by simp)) hcons (by obtain ⟨bk, e⟩ := lookL; exact ⟨bk, sf, e⟩) (fun hlt tag3 σ3 st3 => ?_) (fun hge j b s3 tag3 σ3 hj1 hj2 hj3 st3 hA3 hrow3 hW3 => ?_)
    · -- the head is not whole: the file goes
      unfold j30_wal_Open
      rw [if_pos (by rfl)]
      have hA3 := hA2.keepS st3 (by decide) (by decide)
      have hD3 := Sn.DiskAt.keepS hD2 st3 (by decide)
      have hW3 := hW2.keepS st3 (by decide)
      have ew : (⟨Wb, 0, none⟩ : Addr) = (⟨Wb, 0, none⟩ : Addr).add (0 * 1) := rfl
      refine Row.stPre [.bool false] 0 _ _ hW3 st3.sep (by simp) (by simp [storable]) fun σ4 st4 hW4 => ?_
      have hW4 : Row tag3 σ4 16 4 ⟨some ⟨Wb, 0, none⟩, 1, 1⟩ [.bool false] := hW4
      have s04 : StepS OC ro tag σ tag3 σ4 := st2.trans ((st3.mono (by decide)).trans (st4.s (by decide)))
      have hA4 := hA3.keepS (st4.s (C := [16]) (by decide)) (by decide) (by decide)
      have hs4 := st4.sep
      refine ⟨some ⟨T, 0, none⟩, S logN, cellsAt_of 0 fun i v hv => ?_, ?_⟩
      · rw [Nat.zero_add]
        refine hA4.at hs4 i v ?_
        match i, hv with
        | 0, hv => exact hv
        | 1, hv => exact hv
      refine file_ok (tag := tag3) g (by omega) fun tag5 σ5 st5 => ?_
      refine nw_cells (tag := tag5) 3 (st5 []).sep fun V tag6 σ6 st6 r6 => ?_
      have hD6 := (hD3.keep st4 (by nia)).keep ((st5 []).trans (st6 [])) (by simp)
      refine remove_ok (tag := tag6) (q := 3) (n := fname gs.number) hD6 (by decide) (by decide) r6 (by decide) (dName_f (by omega)) fun e tag7 σ7 st7 hD7 => ?_
      unfold j26_wal_Open
      rw [Pa.inc L0.length (by omega)]
      refine hfin σ7 ?_
      have s47 : StepS [0, 10] ro tag3 σ4 tag7 σ7 := (((st5 []).trans (st6 [])).s (by simp)).trans st7
      have hA7 := hA4.keepS s47 (by decide) (by decide)
      have hW7 := hW4.keepS s47 (by decide)
      have hs7 := s47.sep
      obtain ⟨pw7, hpw7, hgw7⟩ := hW7.ptr hs7 (by simp)
      cases hpw7
      unfold j5_wal_Open
      refine ⟨false, by have := hgw7 0 _ rfl; rwa [Nat.zero_mul, add_zero] at this, ?_⟩
      rw [if_pos (by simp)]
      have hpd : pfs (adel ps (fname gs.number)) = logFs L0 := by
        rw [pfs_del, hps]
        refine adel_snoc ?_
        rw [logFs_names]
        exact notin_last hI.chain (by rw [hl0]; omega)
      have hu7 : used (pfs (adel ps (fname gs.number))) ≤ 1073741824 := by
        rw [hpd]
        rw [hps] at hu
        unfold used at hu ⊢
        rw [List.map_append, List.sum_append] at hu
        omega
      refine cut_ok g hA7 hD7 (fun p hp => ?_) hc0 hc1 hu7 (by rw [hx2]; exact hI0) (fun xs0 b gl hxe => ?_) (fun ps8 tag8 σ8 st8 hD8 => ?_)
      · have := (adel_sub ps (fname gs.number)).mem hp
        exact hbl p this
      · have hgl : (segs L0)[xs0.length]? = some gl := by rw [← hx2, hxe]; simp
        unfold segs at hgl
        rw [List.getElem?_map] at hgl
        obtain ⟨x, hx, rfl⟩ := Option.map_eq_some_iff.1 hgl
        have hm : (fname x.1.number, (⟨x.1.bytes, x.2⟩ : Fl)) ∈ pfs (adel ps (fname gs.number)) := by
          rw [hpd]
          exact List.mem_map.2 ⟨x, List.mem_of_getElem? hx, rfl⟩
        have := lookup_mem (by rw [pfs_keys]; exact hD7.keys) hm
        rw [pfs_lookup] at this
        obtain ⟨⟨bk, fl'⟩, e1, e2⟩ := Option.map_eq_some_iff.1 this
        simp only at e2
        exact ⟨bk, x.1.bytes, x.2, by rw [e1, e2], Nat.le_refl _, .inl rfl⟩
      · rw [if_neg (by decide)]
        exact wholeEnd s' xs ps8 tag8 σ8 (s04.trans ((s47.mono (by decide)).trans (st8.mono (by decide)))) (hA7.keepS st8 (by decide) (by decide)) hD8 (by rw [hx2]; exact hI0) (.inl ⟨hlt, hx2⟩)
    · unfold j30_wal_Open
      rw [if_neg (by simp)]
      unfold j26_wal_Open
      rw [Pa.inc L0.length (by omega)]
      refine hfin σ3 ?_
      have s03 : StepS OC ro tag σ tag3 σ3 := st2.trans (st3.mono (by decide))
      have hD3 := Sn.DiskAt.keepS hD2 st3 (by decide)
      have hs3 := st3.sep
      have hx3 : (xs ++ [(b, (⟨gs.number, gs.first, gs.recs.take j⟩ : Seg))]).map (·.2) = segs L0 ++ [⟨gs.number, gs.first, gs.recs.take j⟩] := by rw [List.map_append, hx2]; rfl
      have hres : ((m < (headOf gs.first).length ∧ (xs ++ [(b, (⟨gs.number, gs.first, gs.recs.take j⟩ : Seg))]).map (·.2) = segs L0) ∨ ((headOf gs.first).length ≤ m ∧ ∃ j', j' ≤ gs.recs.length ∧ fl gs j' ≤ m ∧ (j' = gs.recs.length ∨ m < fl gs (j' + 1)) ∧ (xs ++ [(b, (⟨gs.number, gs.first, gs.recs.take j⟩ : Seg))]).map (·.2) = segs L0 ++ [⟨gs.number, gs.first, gs.recs.take j'⟩])) := .inr ⟨hge, j, hj1, hj2, hj3, hx3⟩
      obtain ⟨pw3, hpw3, hgw3⟩ := hW3.ptr hs3 (by simp)
      cases hpw3
      unfold j5_wal_Open
      refine ⟨decide (fl gs j = m), by have := hgw3 0 _ rfl; rwa [Nat.zero_mul, add_zero] at this, ?_⟩
      by_cases c : fl gs j = m
      · rw [if_neg (by simpa using c)]
        exact wholeEnd s3 _ ps tag3 σ3 s03 hA3 hD3 (by rw [hx3]; exact hIj j hj1) hres
      · rw [if_pos (by simpa using c)]
        have hgb : (⟨gs.number, gs.first, gs.recs.take j⟩ : Seg).bytes.length = fl gs j := by unfold Seg.bytes fl; rw [List.length_append]
        refine cut_ok g hA3 hD3 hbl hc0 hc1 hu (by rw [hx3]; exact hIj j hj1) (fun xs0 b0 gl hxe => ?_) (fun ps8 tag8 σ8 st8 hD8 => ?_)
        · obtain ⟨_, e⟩ := snoc_inj hxe
          cases e
          obtain ⟨bk, e⟩ := lookL
          refine ⟨bk, gs.bytes.take m, sf, e, by rw [hgb, List.length_take]; omega, ?_⟩
          rw [hgb, List.length_take]
          rcases hroom with h | h
          · exfalso
            rcases hj3 with h2 | h2
            · rw [h2, fl_all] at c; omega
            · have := fl_mono (g := gs) (i := j + 1) (j := gs.recs.length)
              by_cases h5 : j + 1 ≤ gs.recs.length
              · have := this h5; rw [fl_all] at this; omega
              · have h6 : j = gs.recs.length := by omega
                rw [h6, fl_all] at c; omega
          · exact .inr (by omega)
        · rw [if_neg (by decide)]
          exact wholeEnd s3 _ ps8 tag8 σ8 (s03.trans (st8.mono (by decide))) (hA3.keepS st8 (by decide) (by decide)) hD8 (by rw [hx3]; exact hIj j hj1) hres
  | succ k ih =>
    intro i s' xs tag2 σ2 hi st2 hA2 hrow2 hx2 hD2 hW2 hN2
    have hil : i < L0.length := by omega
    have hs2 := st2.sep
    obtain ⟨p, hp, hcp⟩ := nth tag2 σ2 hN2 hs2 i (by omega)
    obtain ⟨pw, hpw, hgw⟩ := hW2.ptr hs2 (by simp)
    cases hpw
    have hLi := List.getElem?_eq_getElem hil
    generalize L0[i] = x at hLi
    have hgi : (segs L0)[i]? = some x.1 := by unfold segs; rw [List.getElem?_map, hLi]; rfl
    obtain ⟨cg1, cg2, cg3, _⟩ := chain_get ch0 hgi
    have htk : (segs L0).take (i + 1) = (segs L0).take i ++ [x.1] := by rw [List.take_add_one, hgi]; rfl
    have hchi : Chain n f ((segs L0).take i ++ [x.1]) := by
      have := ch0
      rw [← List.take_append_drop (i + 1) (segs L0)] at this
      rw [← htk]; exact (chain_append.1 this).1
    have hreci : (recsOf ((segs L0).take i)).length ≤ (recsOf (segs L0)).length := by
      have e : recsOf (segs L0) = recsOf ((segs L0).take i) ++ recsOf ((segs L0).drop i) := by
        unfold recsOf
        rw [← List.flatMap_append, List.take_append_drop]
      rw [e, List.length_append]; omega
    have hIi : LogIn n f ((segs L0).take i) := ⟨(chain_append.1 hchi).1, by rw [List.length_take]; omega, by omega, hpos⟩
    refine lfpD.intro ?_
    generalize hY : lfpD (l24_wal_Open B ro (some ⟨T, 0, none⟩) Wb Lb s Q) = Y
    unfold l24_wal_Open
    rw [if_pos (by omega)]
    refine ⟨p, hp, by omega, by omega, _, by rw [Int.toNat_natCast]; exact hcp, true, by have := hgw 0 _ rfl; rwa [Nat.zero_mul, add_zero] at this, ?_⟩
    rw [if_neg (by simp), ← cg1]
    have hcons : xs = [] ∨ ∃ gl, (xs.map (·.2)).getLast? = some gl ∧ x.1.number = gl.number + 1 ∧ x.1.first = nextOf (xs.map (·.2)) := by
      rcases List.eq_nil_or_concat xs with h | ⟨xs0, y, h⟩
      · exact .inl h
      · right
        rw [List.concat_eq_append] at h
        have hne : (segs L0).take i ≠ [] := by rw [← hx2, h]; simp
        have hlast : (xs.map (·.2)).getLast? = some y.2 := by rw [h]; simp
        have hti : ((segs L0).take i).length = i := by rw [List.length_take]; omega
        have hi1 : 0 < i := by rw [← hti]; exact List.length_pos_iff.2 hne
        refine ⟨y.2, hlast, ?_, ?_⟩
        · rw [hx2, List.getLast?_eq_getElem?, hti] at hlast
          have := (chain_get hIi.chain hlast).1
          omega
        · rw [hx2, chain_next hIi.chain hne]
          exact (chain_append.1 hchi).2.2.1
    refine take_ok (tag := tag2) (gs := x.1) (m := x.1.bytes.length) g hA2 hrow2 hD2 hbl hW2 (by rw [hx2]; exact hIi) (by omega) (by omega) (fun d hd => hrecs d (by rw [hr0]; exact List.mem_append_left _ (List.mem_flatMap.2 ⟨x.1, List.mem_of_getElem? hgi, hd⟩))) (by omega) (Nat.le_refl _) (hbyt x.1 (List.mem_append_left _ (List.mem_of_getElem? hgi))) hcons (by obtain ⟨bk, e⟩ := look0 i x hLi; exact ⟨bk, x.2, e⟩) (fun hlt => ?_) (fun hge j b s3 tag3 σ3 hj1 hj2 hj3 st3 hA3 hrow3 hW3 => ?_)
    · exfalso
      unfold Seg.bytes at hlt
      rw [List.length_append] at hlt; omega
    · have hj : j = x.1.recs.length := by
        rcases hj3 with h | h
        · exact h
        · by_cases h5 : j + 1 ≤ x.1.recs.length
          · have := fl_mono (g := x.1) h5
            rw [fl_all] at this; omega
          · omega
      subst hj
      rw [List.take_length] at hA3 hrow3
      rw [fl_all, decide_eq_true rfl] at hW3
      unfold j30_wal_Open
      rw [if_neg (by simp)]
      unfold j26_wal_Open
      rw [Pa.inc i (by omega), ← hY]
      exact ih (i + 1) s3 (xs ++ [(b, x.1)]) tag3 σ3 (by omega) (st2.trans (st3.mono (by decide))) hA3 hrow3 (by rw [List.map_append, hx2, htk]; rfl) (Sn.DiskAt.keepS hD2 st3 (by decide)) hW3 (hN2.keepS st3 (by decide))
end Go.Proofs.YtfobjidchipdaaaGreatDoor.Wl

/- Logs: behind a crash; awake; WalRoom, the walk. -/
namespace Go.Proofs.YtfobjidchipdaaaGreatDoor.Wl
open Go Go.Proofs.YtfobjidchipdaaaGreatDoor.SL Go.Proofs.YtfobjidchipdaaaGreatDoor.G Go.Proofs.YtfobjidchipdaaaGreatDoor.Pa Go.Proofs.YtfobjidchipdaaaGreatDoor.Wi Go.Proofs.YtfobjidchipdaaaGreatDoor.Dk
set_option linter.unusedSimpArgs false
set_option linter.unusedVariables false
set_option maxRecDepth 100000
variable {B : World} {ro σ σ' : AH} {tag tag' : Nat → Nat}
theorem assoc_ext {β : Type} : ∀ {l l' : List (Str × β)}, l'.map (·.1) = l.map (·.1) → (l.map (·.1)).Nodup → (∀ k, l.lookup k = l'.lookup k) → l' = l := by
  intro l
  induction l with
  | nil => intro l' h _ _; exact List.map_eq_nil_iff.1 h
  | cons p r ih =>
    intro l' hk hn hl
    cases l' with
    | nil => cases hk
    | cons p' r' =>
      rw [List.map_cons, List.map_cons] at hk
      obtain ⟨hk1, hk2⟩ := List.cons.inj hk
      rw [List.map_cons, List.nodup_cons] at hn
      have h0 := hl p.1
      rw [List.lookup_cons, List.lookup_cons, hk1] at h0
      simp at h0
      have hp : p' = p := Prod.ext hk1 h0.symm
      refine List.cons_eq_cons.2 ⟨hp, ih hk2 hn.2 fun k => ?_⟩
      by_cases c : k = p.1
      · subst c
        rw [lookup_key.2 hn.1, lookup_key.2 (by rw [hk2]; exact hn.1)]
      · have := hl k
        rw [List.lookup_cons, List.lookup_cons, hp, show (k == p.1) = false by simpa using c] at this
        exact this
theorem crash_full {fs fs' : Fs} (hn : (fs.map (·.1)).Nodup) (hf : ∀ p ∈ fs, p.2.safe = p.2.b.length) (h : CrashR fs fs') : fs' = fs := by
  refine assoc_ext h.keys hn fun k => ?_
  cases e : fs.lookup k with
  | none =>
    rw [lookup_key] at e
    exact (lookup_key.2 (by rw [h.keys]; exact e)).symm
  | some x =>
    obtain ⟨m, h1, h2, h3⟩ := h.file k x e
    have hx := hf _ (mem_lookup e)
    simp only at hx
    have : m = x.b.length := by omega
    subst this
    rw [h3, List.take_length, ← hx]
theorem used_mem {L : List (Seg × Nat)} {x : Seg × Nat} (h : x ∈ L) : x.1.bytes.length ≤ used (logFs L) := by
  unfold used logFs
  rw [List.map_map]
  induction L with
  | nil => cases h
  | cons y r ih =>
    rw [List.map_cons, List.sum_cons]
    rcases List.mem_cons.1 h with rfl | h
    · simp
    · have := ih h; simp at this ⊢; omega
theorem crash_pre {ps : Ps} {L : List (Seg × Nat)} {n f : Nat} {cap : Int} (hI : LogIn n f (segs L)) (hf : pfs ps = logFs L) (hle : ∀ x ∈ L, x.2 ≤ x.1.bytes.length) (hu : (used (logFs L) : Int) ≤ cap) (hc1 : cap ≤ 1073741824) : (∀ p ∈ ps, p.1.length ≤ 128) ∧ ps.length ≤ 4398046511104 ∧ ∀ p ∈ ps, p.2.2.safe ≤ p.2.2.b.length ∧ p.2.2.b.length < 4611686018427387904 := by
  have hm : ∀ p ∈ ps, ∃ x ∈ L, p.1 = fname x.1.number ∧ p.2.2 = ⟨x.1.bytes, x.2⟩ := fun p hp => by
    have h1 : (p.1, p.2.2) ∈ pfs ps := List.mem_map.2 ⟨p, hp, rfl⟩
    rw [hf] at h1
    obtain ⟨x, hx, e⟩ := List.mem_map.1 h1
    have := Prod.mk.inj e
    exact ⟨x, hx, this.1.symm, this.2.symm⟩
  refine ⟨fun p hp => ?_, ?_, fun p hp => ?_⟩
  · obtain ⟨x, _, e, _⟩ := hm p hp
    rw [e, fname_len]; decide
  · have h1 := congrArg List.length hf
    unfold pfs logFs at h1
    rw [List.length_map, List.length_map] at h1
    have h2 : (segs L).length = L.length := by unfold segs; rw [List.length_map]
    have := hI.num
    omega
  · obtain ⟨x, hx, _, e⟩ := hm p hp
    rw [e]
    have := hle x hx
    have := used_mem hx
    exact ⟨by simpa using hle x hx, by simp only; omega⟩
theorem reopen_ok {T M n f : Nat} {limit cap : Int} {ps : Ps} {L : List (Seg × Nat)} {Q : Option Addr → Int → AH → Prop} (g : Glob ro) (hD : Disk tag σ 10 T M cap ps) (hc0 : 0 ≤ cap) (hc1 : cap ≤ 1073741824) (hI : LogIn n f (segs L)) (hrecs : ∀ d ∈ recsOf (segs L), d.length ≤ 65536) (hf : pfs ps = logFs L) (hfull : ∀ x ∈ L, x.2 = x.1.bytes.length) (hu : (used (logFs L) : Int) ≤ cap) (hlim : ¬ (limit < 16 ∨ 1048576 < limit))
    (hQ : ∀ Lb s xs tag' σ', StepS OC ro tag σ tag' σ' → LogAt tag' σ' 11 T Lb limit (nextOf (segs L)) s xs → xs.map (·.2) = segs L → Q (some ⟨Lb, 0, none⟩) 0 σ') :
    c_disk_Disk_Crash B ro (some ⟨T, 0, none⟩) ⟨none, 0, 0⟩ σ fun σ => c_wal_Open B ro (some ⟨T, 0, none⟩) (S logN) limit σ Q := by
  obtain ⟨p1, p2, p3⟩ := crash_pre hI hf (fun x hx => by rw [hfull x hx]; exact Nat.le_refl _) hu hc1
  refine crash_ok (q := 0) (cs := []) hD (by decide) (by decide) (by decide) (Nat.le_refl _) (fun tag' σ' st => ⟨rfl, fun _ => rfl, fun p h => by cases h⟩) p1 p2 p3 fun ps' tag1 σ1 st1 hD1 hcr => ?_
  have hsame : pfs ps' = logFs L := by
    rw [← hf]
    refine crash_full (by rw [pfs_keys]; exact hD.keys) (fun p hp => ?_) hcr
    rw [hf] at hp
    obtain ⟨x, hx, rfl⟩ := List.mem_map.1 hp
    exact hfull x hx
  rcases List.eq_nil_or_concat L with rfl | ⟨L0, ⟨gl, m⟩, rfl⟩
  · have hps : ps' = [] := List.map_eq_nil_iff.1 hsame
    subst hps
    refine openEmpty_ok g hD1 hc0 (fun h => absurd h hlim) fun _ Lb tag2 σ2 st2 hL => ?_
    obtain ⟨⟨s, xs, ps2, hA, _, _, hx, _⟩, _, _⟩ := hL
    exact hQ Lb s xs tag2 σ2 ((st1.mono (by decide)).trans st2) hA hx
  · rw [List.concat_eq_append] at *
    have hm : m = gl.bytes.length := hfull (gl, m) (by simp)
    have hseg := segs_snoc L0 gl m
    refine openFull_ok (n := n) (f := f) (m := gl.bytes.length) (sf := m) (L0 := L0) (gs := gl) g hD1 hc0 hc1 (by rw [← hseg]; exact hI) (by rw [← hseg]; exact hrecs) (by rw [hsame, logFs_snoc, List.take_length]) (Nat.le_refl _) (fun x hx => ?_) (by rw [hsame]; omega) (.inl rfl) (fun h => absurd h hlim) fun _ Lb s xs tag2 σ2 st2 hA hres => ?_
    · rw [← hseg] at hx
      obtain ⟨y, hy, rfl⟩ := List.mem_map.1 hx
      have := used_mem hy
      omega
    · have hx : xs.map (·.2) = segs (L0 ++ [(gl, m)]) := by
        rw [hseg]
        rcases hres with ⟨h1, _⟩ | ⟨_, j, j1, j2, j3, e⟩
        · unfold Seg.bytes at h1; rw [List.length_append] at h1; omega
        · have hj : j = gl.recs.length := by
            rcases j3 with h | h
            · exact h
            · by_cases h5 : j + 1 ≤ gl.recs.length
              · have := fl_mono (g := gl) h5
                rw [fl_all] at this; omega
              · omega
          rw [e, hj, List.take_length]
      rw [hx] at hA
      exact hQ Lb s xs tag2 σ2 ((st1.mono (by decide)).trans st2) hA hx
theorem awake_ok (g : Glob ro) : c_law04_awake B ro σ fun r _ => r = true := by
  refine law04_awake_ok fun hs => ?_
  unfold f_law04_awake
  refine new_ok (tag := fun _ => 0) (r := 10) (fun h => absurd h (by decide)) fun hc0 hc1 T M tag1 σ1 st1 hD1 => ?_
  refine openEmpty_ok g hD1 hc0 (fun h => absurd h (by decide)) fun _ Lb tag2 σ2 st2 hL2 => ?_
  rw [if_neg (by simp)]
  have hs2 := st2.sep
  refine Zt.nw_lit (tag := tag2) (cs := #[.int .u8 97]) hs2 fun sa tag3 σ3 st3 ha => ?_
  refine ⟨sa, rfl, ?_⟩
  refine Zt.nw_lit (tag := tag3) (cs := #[.int .u8 98]) (st3 []).sep fun sb tag4 σ4 st4 hb => ?_
  refine ⟨sb, rfl, ?_⟩
  refine nw_cells (tag := tag4) 20 (st4 []).sep fun V tag5 σ5 st5 r5 => ?_
  have s25 : StepS [] ro tag2 σ2 tag5 σ5 := ((st3 []).trans ((st4 []).trans (st5 []))).s (by simp)
  have hL5 : LSt tag5 σ5 T M Lb 100 999 0 [] := by
    obtain ⟨⟨s, xs, ps, a, b, c, d, e⟩, w, u⟩ := hL2
    exact ⟨⟨s, xs, ps, a.keepS s25 (by simp) (by simp), b.keepS s25 (by simp), Sn.DiskAt.keepS c s25 (by simp), d, e⟩, w, u⟩
  refine append_ok (tag := tag5) (q := 20) (ss := [sa, sb]) (ds := [[97], [98]]) g hL5 (by decide) (by decide) r5 (by decide) ⟨rfl, fun i x d hx hd => ?_⟩ (by decide) (fun ⟨d, hd, h⟩ => ?_) (fun _ k _ _ _ _ _ hlt => ?_) (fun _ safe' L' tag6 σ6 st6 hL6 hrec hsf hsx _ => ?_)
  · match i, hx, hd with
    | 0, hx, hd => cases hx; cases hd; exact .inr (ha.keep ((st4 []).trans (st5 [])) (by simp))
    | 1, hx, hd => cases hx; cases hd; exact .inr (hb.keep (st5 []) (by simp))
    | i + 2, hx, _ => cases hx
  · rcases List.mem_cons.1 hd with rfl | hd
    · exact absurd h (by decide)
    · rw [List.mem_singleton.1 hd] at h; exact absurd h (by decide)
  · exact absurd hlt (by decide)
  have h0 : safe' = 0 := by rcases hsx with h | h; exact h; exact absurd h (by decide)
  subst h0
  obtain ⟨⟨s, xs, ps, hA, hrow, hD, hx, hf⟩, hW, hU⟩ := hL6
  have hrec : recsOf (segs L') = [[97], [98]] := hrec
  unfold j5_law04_awake
  rw [if_neg (by simp)]
  refine logNext_ok hA (by rw [hx]; exact hW.inn) ?_
  rw [hx, hW.next, hrec]
  unfold j7_law04_awake
  rw [if_neg (by simp)]
  refine get_ok (i := 1) hA (by rw [hx]; exact hW.inn) (by rw [hx]; exact hW.recs) (fun h => ?_) (fun j d hj hd s7 tag7 σ7 st7 r7 => ?_)
  · rw [hx, hrec] at h
    rcases h with h | h <;> exact absurd h (by decide)
  · rw [hx, hrec] at hd
    have : j = 1 := by omega
    subst this
    cases hd
    rw [if_pos rfl]
    refine Zt.awp_b2s (r7.read (st7 []).sep) ⟨_, rfl, ?_⟩
    unfold j11_law04_awake
    rw [if_pos (show decide (S [98] = (⟨#[98]⟩ : ByteArray)) = true from decide_eq_true rfl)]
    refine logSafe_ok (hA.keep0 (st7 [])) ?_
    unfold j13_law04_awake
    exact decide_eq_true rfl
theorem room_ok (g : Glob ro) {cap limit : Int} {a2 : Sl} {cs : List (Sl × Str)} (h : SL.Read ro (fun _ => none) a2 ((cs.map (·.1)).map Sl.v)) (hcs : Sn.Given ro cs) :
    c_law04_WalRoom B ro cap limit a2 σ fun r _ => r = true := by
  refine law04_WalRoom_ok fun hs => ?_
  unfold f_law04_WalRoom
  have hln : a2.len = cs.length := by rw [h.1, List.length_map, List.length_map]
  refine new_ok (tag := fun _ => 0) (r := 10) (fun hb => ?_) fun hc0 hc1 T M tag1 σ1 st1 hD1 => ?_
  · rw [if_pos (.inl (.inl rfl))]
    exact c_law04_awake_mono (awake_ok g) fun r σ _ e => e
  by_cases c1 : 1000 < cs.length
  · rw [if_pos (.inr (by omega))]
    exact c_law04_awake_mono (awake_ok g) fun r σ _ e => e
  rw [if_neg (by simp; omega)]
  refine openEmpty_ok g hD1 hc0 (fun hb _ => ?_) fun hlim Lb tag2 σ2 st2 hL2 => ?_
  · rw [if_pos (.inl rfl), if_pos hb]
    unfold j6_law04_WalRoom
    exact c_law04_awake_mono (awake_ok g) fun r σ _ e => e
  rw [if_neg (by simp)]
  have hget : ∀ (τ : AH) (j : Nat), j < cs.length → ∃ p x d, a2.a = some p ∧ acell ro τ (p.add j) = some (Sl.v x) ∧ cs[j]? = some (x, d) ∧ SL.Read ro (fun _ => none) x (d.map vU) := fun τ j hj => by
    obtain ⟨p, hp⟩ : ∃ p, a2.a = some p := by
      cases e : a2.a with
      | none => have := h.2.1 e; simp at this; rw [this] at hj; simp at hj
      | some p => exact ⟨p, rfl⟩
    refine ⟨p, (cs[j]).1, (cs[j]).2, hp, ?_, List.getElem?_eq_getElem hj, (hcs _ (List.getElem_mem hj)).1⟩
    exact (h.keep (σ := τ)).2.2 p hp j _ (by rw [List.getElem?_map, List.getElem?_map, List.getElem?_eq_getElem hj]; rfl)
  have hsb : ∀ (i : Nat) (x : Sl) (d : Str), (cs.map (·.1))[i]? = some x → (cs.map (·.2))[i]? = some d → SL.Read ro (fun _ => none) x (d.map vU) ∧ d.length ≤ 140737488355328 := fun i x d hx hd => by
    rw [List.getElem?_map] at hx hd
    obtain ⟨y, hy, rfl⟩ := Option.map_eq_some_iff.1 hx
    rw [hy] at hd
    cases hd
    have := hcs y (List.mem_of_getElem? hy)
    exact ⟨this.1, this.2.2⟩
  -- behind the crash
  have rest : ∀ (safe' : Nat) (L' : List (Seg × Nat)) (tag3 : Nat → Nat) (σ3 : AH), SL.Sep ro σ3 → LSt tag3 σ3 T M Lb limit cap safe' L' → (∃ k, recsOf (segs L') = (cs.map (·.2)).take k) → j13_law04_WalRoom B ro cap limit a2 (some ⟨T, 0, none⟩) (some ⟨Lb, 0, none⟩) (fun r _ => r = true) false σ3 := by
    intro safe' L' tag3 σ3 hs3 hL3 ⟨k, hk⟩
    obtain ⟨⟨s, xs, ps, hA, hrow, hD, hx, hf⟩, hW, hU⟩ := hL3
    unfold j13_law04_WalRoom
    rw [if_neg (by simp)]
    refine ⟨_, rfl, _, (DiskAt.ptrs hD hs3).1, ?_⟩
    refine used_ok (tag := tag3) hD.map hD.keys hD.nodes (by decide) (by decide) hs3 (by rw [hf]; omega) fun tag4 σ4 st4 => ?_
    rw [hf, decide_eq_false (by omega)]
    have hA4 := hA.keepS (st4.s (C := [0]) (by decide)) (by decide) (by decide)
    have hD4 := hD.keep st4 (by nia)
    unfold j15_law04_WalRoom
    rw [if_neg (by simp)]
    refine logSync_ok g hA4 hD4 hx hW.inn hf fun ps5 tag5 σ5 st5 hA5 hD5 hf5 => ?_
    rw [decide_eq_true rfl]
    unfold j17_law04_WalRoom
    rw [if_neg (by simp)]
    refine logNext_ok hA5 (by rw [hx]; exact hW.inn) ?_
    rw [hx, hW.next]
    have hse := segs_syncL L'
    refine reopen_ok (n := 1) (f := 0) (L := syncL L') g hD5 hc0 hc1 (by rw [hse]; exact hW.inn) (by rw [hse]; exact hW.recs) hf5 (syncL_full hW) (by rw [used_syncL]; exact hU) hlim fun Lb2 s6 xs6 tag6 σ6 st6 hA6 hx6 => ?_
    rw [hse] at hA6 hx6
    rw [if_neg (by simp)]
    refine logNext_ok hA6 (by rw [hx6]; exact hW.inn) ?_
    rw [hx6, hW.next, decide_eq_true rfl]
    unfold j22_law04_WalRoom
    rw [if_neg (by simp)]
    have hrl : (recsOf (segs L')).length ≤ cs.length := by rw [hk, List.length_take, List.length_map]; omega
    suffices ∀ (m j : Nat) (tag7 : Nat → Nat) (σ7 : AH), j + m = (recsOf (segs L')).length → Step [] ro tag6 σ6 tag7 σ7 → lfpD (l26_law04_WalRoom B ro a2 ((recsOf (segs L')).length : Nat) (some ⟨Lb2, 0, none⟩) (fun r _ => r = true)) (j : Int) σ7 from
      this _ 0 tag6 σ6 (Nat.zero_add _) (Step.refl st6.sep)
    intro m
    induction m with
    | zero =>
      intro j tag7 σ7 hj st7
      refine lfpD.intro ?_
      unfold l26_law04_WalRoom
      rw [if_neg (by omega)]
      unfold j24_law04_WalRoom
      exact c_law04_awake_mono (awake_ok g) fun r σ _ e => e
    | succ m ih =>
      intro j tag7 σ7 hj st7
      have hA7 := hA6.keep0 st7
      refine lfpD.intro ?_
      generalize hY : lfpD (l26_law04_WalRoom B ro a2 ((recsOf (segs L')).length : Nat) (some ⟨Lb2, 0, none⟩) (fun r _ => r = true)) = Y
      unfold l26_law04_WalRoom
      rw [if_pos (by omega)]
      refine get_ok (i := (j : Int)) hA7 (by rw [hx6]; exact hW.inn) (by rw [hx6]; exact hW.recs) (fun hb => ?_) (fun j' d hj' hd s8 tag8 σ8 st8 r8 => ?_)
      · rw [hx6] at hb; omega
      · rw [hx6] at hd
        have : j' = j := by omega
        subst this
        rw [if_neg (by decide)]
        obtain ⟨p, x, d', hp, hcell, hcj, hrd⟩ := hget σ8 j' (by omega)
        have hdd : d = d' := by
          rw [hk, List.getElem?_take] at hd
          split at hd
          · rw [List.getElem?_map, hcj] at hd; exact (Option.some.inj hd).symm
          · cases hd
        subst hdd
        refine ⟨p, hp, by omega, by omega, x, by rw [Int.toNat_natCast, Nat.mul_one]; exact hcell, ?_⟩
        refine Zt.same_ok (r8.read (st8 []).sep) hrd.keep ?_
        rw [decide_eq_true rfl]
        unfold j30_law04_WalRoom
        rw [if_neg (by simp), Pa.inc j' (by omega), ← hY]
        exact ih (j' + 1) tag8 σ8 (by omega) (st7.trans (st8 []))
  -- the first loop
  suffices ∀ (m j : Nat), j + m = cs.length → (∀ (i : Nat) (y : Sl × Str), i < j → cs[i]? = some y → y.2.length ≤ 65536) → lfpD (l40_law04_WalRoom B ro cap limit a2 (some ⟨T, 0, none⟩) (some ⟨Lb, 0, none⟩) (fun r _ => r = true)) (j : Int) σ2 from
    this _ 0 (Nat.zero_add _) (fun i y h => by omega)
  intro m
  induction m with
  | zero =>
    intro j hj hall
    refine lfpD.intro ?_
    unfold l40_law04_WalRoom
    rw [if_neg (by omega)]
    unfold j9_law04_WalRoom
    refine copied_ok (tag := tag2) 20 (by decide) (by decide) h (by rw [List.length_map, List.length_map]) hsb (by rw [List.length_map]; omega) fun s3 ss3 tag3 σ3 st3 r3 hR3 => ?_
    have hL3 : LSt tag3 σ3 T M Lb limit cap 0 [] := by
      obtain ⟨⟨s, xs, ps, a, b, c, d, e⟩, w, u⟩ := hL2
      exact ⟨⟨s, xs, ps, a.keepS st3 (by decide) (by decide), b.keepS st3 (by decide), Sn.DiskAt.keepS c st3 (by decide), d, e⟩, w, u⟩
    have hlen : ∀ d ∈ cs.map (·.2), d.length ≤ 65536 := fun d hd => by
      obtain ⟨y, hy, rfl⟩ := List.mem_map.1 hd
      obtain ⟨i, hi, rfl⟩ := List.mem_iff_getElem.1 hy
      exact hall i _ (by omega) (List.getElem?_eq_getElem hi)
    refine append_ok (tag := tag3) (q := 20) (ds := cs.map (·.2)) g hL3 hc0 hc1 r3 (by decide) hR3 (by show 0 + _ ≤ _; rw [List.length_map]; omega) (fun ⟨d, hd, hb⟩ => by have := hlen d hd; omega) (fun _ k safe' L' tag4 σ4 hk hlt st4 hL4 hrec _ => ?_) (fun _ safe' L' tag4 σ4 st4 hL4 hrec _ _ _ => ?_)
    · have hrec : recsOf (segs L') = (cs.map (·.2)).take k := hrec
      obtain ⟨⟨s, xs, ps, hA, hrow, hD, hx, hf⟩, hW, hU⟩ := id hL4
      refine logNext_ok hA (by rw [hx]; exact hW.inn) ?_
      rw [hx, hW.next, hrec, List.length_take, List.length_map]
      rw [List.length_map] at hk
      rw [decide_eq_false (show ¬ (32 : Int) = 0 by decide), decide_eq_false (show ¬ ((min k cs.length : Nat) : Int) = (a2.len : Int) by omega), if_neg (by simp)]
      exact rest safe' L' tag4 σ4 st4.sep hL4 ⟨k, hrec⟩
    · have hrec : recsOf (segs L') = cs.map (·.2) := hrec
      obtain ⟨⟨s, xs, ps, hA, hrow, hD, hx, hf⟩, hW, hU⟩ := id hL4
      refine logNext_ok hA (by rw [hx]; exact hW.inn) ?_
      rw [hx, hW.next, hrec, List.length_map]
      rw [decide_eq_true (show (0 : Int) = 0 from rfl), decide_eq_true (show ((cs.length : Nat) : Int) = (a2.len : Int) by omega), if_neg (by simp)]
      exact rest safe' L' tag4 σ4 st4.sep hL4 ⟨cs.length, by rw [hrec, List.take_of_length_le (by rw [List.length_map]; exact Nat.le_refl _)]⟩
  | succ m ih =>
    intro j hj hall
    have hjc : j < cs.length := by omega
    obtain ⟨p, x, d, hp, hcell, hcj, hrd⟩ := hget σ2 j hjc
    have hxl : x.len = d.length := by rw [hrd.1, List.length_map]
    refine lfpD.intro ?_
    generalize hY : lfpD (l40_law04_WalRoom B ro cap limit a2 (some ⟨T, 0, none⟩) (some ⟨Lb, 0, none⟩) (fun r _ => r = true)) = Y
    unfold l40_law04_WalRoom
    rw [if_pos (by omega)]
    refine ⟨p, hp, by omega, by omega, x, by rw [Int.toNat_natCast, Nat.mul_one]; exact hcell, ?_⟩
    by_cases c : 65536 < d.length
    · rw [if_pos (by omega)]
      exact c_law04_awake_mono (awake_ok g) fun r σ _ e => e
    · rw [if_neg (by omega), Pa.inc j (by omega), ← hY]
      refine ih (j + 1) (by omega) fun i y hi hy => ?_
      rcases Nat.lt_or_ge i j with h1 | h1
      · exact hall i y h1 hy
      · obtain rfl : i = j := by omega
        rw [hcj] at hy; cases hy; simp only; omega
end Go.Proofs.YtfobjidchipdaaaGreatDoor.Wl
